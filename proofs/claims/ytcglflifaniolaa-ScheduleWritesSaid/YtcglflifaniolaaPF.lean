/- Transactions that run step by step with locks: the values at the end. -/
import Derived.Test.YtcglflifaniolaaPE
namespace Go.Proofs.Sc
section
variable {n K : Nat} {start : Nat → Int} {s : St}
theorem end_same (s : St) (t u : Nat) : (((endT s t).tx u).steps = (s.tx u).steps) ∧ (u ≠ t → ((endT s t).tx u).at_ = (s.tx u).at_) ∧ ((endT s t).tx u).sh = (s.tx u).sh ∧ ((endT s t).tx u).ex = (s.tx u).ex ∧ ((endT s t).tx u).ended = (decide (u = t) || (s.tx u).ended) := by
  obtain ⟨c1, _, _, c4, c5, c6, c7⟩ := endT_tx s t u
  exact ⟨c1, fun _ => c6, c4, c5, c7⟩
theorem end_bump (s : St) (t u : Nat) : (((endT (bump s t) t).tx u).steps = (s.tx u).steps) ∧ (u ≠ t → ((endT (bump s t) t).tx u).at_ = (s.tx u).at_) ∧ ((endT (bump s t) t).tx u).sh = (s.tx u).sh ∧ ((endT (bump s t) t).tx u).ex = (s.tx u).ex ∧ ((endT (bump s t) t).tx u).ended = (decide (u = t) || (s.tx u).ended) := by
  obtain ⟨c1, _, _, c4, c5, c6, c7⟩ := endT_tx (bump s t) t u
  obtain ⟨d1, _, d3, d4, d5, d6⟩ := bump_tx s t u
  refine ⟨c1.trans d1, fun h => ?_, c4.trans d4, c5.trans d5, by rw [c7, d3]⟩
  rw [c6, d6, if_neg h]; rfl
theorem Ser.go (I : Inv 3 n K start s) (L : Lv n s) (S : Ser n start s) {t : Nat} (ht : t < n) (hb : (s.tx t).begun = true) (hn : (s.tx t).ended = false) (hh : Holds 3 (s.tx t) (stepOf (s.tx t))) : Ser n start (goT 3 K start s t) := by
  rcases (I.stp t ht).step (L t ht hn) ⟨0, 0, 0⟩ with ⟨k1, k2, k3, k4⟩ | ⟨k1, k2⟩
  · exact S.acts I ht hb hn (L t ht hn) hh k1 k2
  · change (stepOf (s.tx t)).kind = 4 ∨ (stepOf (s.tx t)).kind = 5 at k1
    have hst : (s.tx t).steps = (s.tx t).steps.take (s.tx t).at_ ++ [stepOf (s.tx t)] := by
      have := take_succ_getD (L t ht hn) ⟨0, 0, 0⟩
      rw [k2, List.take_length] at this
      exact this
    unfold goT actT
    rw [if_neg (by omega), if_neg (by omega), if_neg (by omega)]
    by_cases h4 : (stepOf (s.tx t)).kind = 4
    · rw [if_pos h4]
      exact S.ends (end_bump s t) rfl
    · rw [if_neg h4, if_pos (by omega)]
      unfold doneT
      rw [if_neg (by omega)]
      exact S.commit I ht hn hst (by omega) (end_bump s t) rfl
theorem Ser.trY (I : Inv 3 n K start s) (L : Lv n s) (S : Ser n start s) {t : Nat} (ht : t < n) (hb : (s.tx t).begun = true) (hn : (s.tx t).ended = false) : Ser n start (tryT 3 n K start s t) := by
  unfold tryT
  split
  · rename_i hnd
    exact S.go I L ht hb hn fun l hl => by rw [hnd] at hl; cases hl
  · rename_i l hnd
    by_cases ho : others n s t l = []
    · rw [if_pos ho]
      refine (S.take ht).go (I.take ht ho) (fun u hu he => ?_) ht (by rw [(take_tx s t l t).2.1]; exact hb) (by rw [(take_tx s t l t).2.2.1]; exact hn) (take_holds 3 s t hnd)
      obtain ⟨h1, _, h3, h4⟩ := take_tx s t l u
      rw [h1, h4]; rw [h3] at he; exact L u hu he
    · rw [if_neg ho]
      have Sw := S.want (l := l) ht
      split
      · exact Sw.ends (end_same _ t) rfl
      · exact Sw
theorem Ser.turn (I : Inv 3 n K start s) (L : Lv n s) (S : Ser n start s) {t : Nat} (ht : t < n) (hn : (s.tx t).ended = false) : Ser n start (turnT 3 n K start s t) :=
  (S.begin ht).trY (I.begin ht) (begin_lv L) ht (begin_begun s t) (by rw [(begin_same s t t).2.2.1]; exact hn)
theorem Ser.trns : ∀ (o : List Int) (s : St), Inv 3 n K start s → Lv n s → Ser n start s → Ser n start (turns 3 n K start s o)
  | [], _, _, _, S => S
  | t :: o, s, I, L, S => by
    obtain ⟨I', L'⟩ := I.trn1 L (by omega) t
    refine Ser.trns o _ I' L' ?_
    unfold turn1
    split
    · rename_i h; exact S.turn I L (by omega) h.2.2
    · exact S
theorem Ser.fins (S : Ser n start s) : ∀ m, Ser n start ((List.range m).foldl fin1 s)
  | 0 => S
  | m + 1 => by
    rw [List.range_succ, List.foldl_append]
    show Ser n start (fin1 _ m)
    have := Ser.fins S m
    unfold fin1
    split
    · exact this.ends (end_same _ m) rfl
    · exact this
theorem ser0 (P : List (List Sp)) : Ser n start (st0 P) := by
  refine ⟨fun t _ _ k => ?_, fun t _ _ p hp => ?_, rfl⟩
  · show viewE start [] t k = exec (curE start []) (((P.getD t [])).take 0) k
    rw [List.take_zero]; rfl
  · change p ∈ (P.getD t []).take 0 at hp
    rw [List.take_zero] at hp; simp at hp
theorem steps_turn1 (lev n K : Nat) (start : Nat → Int) (s : St) (t : Int) (u : Nat) : ((turn1 lev n K start s t).tx u).steps = (s.tx u).steps := by
  have hact : ∀ (s : St) (t : Nat) p, ((actT lev K start s t p).tx u).steps = (s.tx u).steps := fun s t p => by
    unfold actT doneT
    split
    · rfl
    · split
      · rfl
      · split
        · rfl
        · split
          · exact (endT_tx s t u).1
          · split
            · split <;> exact (endT_tx s t u).1
            · rfl
  have hgo : ∀ (s : St) (t : Nat), ((goT lev K start s t).tx u).steps = (s.tx u).steps := fun s t => by
    unfold goT; rw [hact]; exact (bump_tx s t u).1
  unfold turn1
  split
  · unfold turnT
    rw [← (begin_same s t.toNat u).1]
    generalize beginT s t.toNat = s
    unfold tryT
    split
    · exact hgo _ _
    · split
      · rw [hgo]; exact (take_tx _ _ _ u).1
      · split
        · exact (endT_tx _ _ u).1.trans (want_tx _ _ _ u).1
        · exact (want_tx _ _ _ u).1
  · rfl
theorem steps_turns (lev n K : Nat) (start : Nat → Int) (u : Nat) : ∀ (o : List Int) (s : St), ((turns lev n K start s o).tx u).steps = (s.tx u).steps
  | [], _ => rfl
  | t :: o, s => (steps_turns lev n K start u o _).trans (steps_turn1 lev n K start s t u)
theorem steps_fins (u : Nat) : ∀ (m : Nat) (s : St), (((List.range m).foldl fin1 s).tx u).steps = (s.tx u).steps
  | 0, _ => rfl
  | m + 1, s => by
    rw [List.range_succ, List.foldl_append]
    refine Eq.trans ?_ (steps_fins u m s)
    show ((fin1 _ m).tx u).steps = _
    unfold fin1
    split
    · exact (endT_tx _ _ u).1
    · rfl
theorem ser_run {start : List Int} {P : List (List Sp)} (o : List Int) (hP : ∀ p ∈ P, PMade start.length p) :
    curE (fun k => start.getD k 0) (runS 3 start P o).ev = alone (fun t => (P.map wholeP).getD t []) (fun k => start.getD k 0) (cmts (runS 3 start P o).ev) := by
  have h0 : ∀ t, t < P.length → SOk start.length ((P.map wholeP).getD t []) := fun t ht => by
    rw [map_getD P t ht]
    refine whole_ok (hP _ ?_)
    rw [List.getD_eq_getElem?_getD, List.getElem?_eq_getElem ht]
    exact List.getElem_mem ht
  obtain ⟨I0, L0⟩ := inv0 (lev := 3) (start := fun k => start.getD k 0) h0
  have S := ((ser0 (P.map wholeP)).trns o _ I0 L0).fins P.length
  have hc := S.cu
  unfold runS
  rw [hc]
  congr 1
  funext u
  rw [steps_fins, steps_turns]; rfl

/-! ### the values at the end of a history -/
def isC (t : Nat) (e : Ev) : Bool := e.kind == 3 && e.t == t
def lastC (ev : List Ev) (t : Nat) : Option Nat := (List.range ev.length).foldl (fun b i => if (ev[i]?).any (isC t) = true then some i else b) none
def finK (ev : List Ev) (k : Nat) (b : Int × Int) (x : Ev) : Int × Int :=
  if isW k x = true then (match lastC ev x.t with | some a => if b.1 ≤ (a : Int) then ((a : Int), x.val) else b | none => b) else b
def finalV (ev : List Ev) (start : Nat → Int) (k : Nat) : Int := (ev.foldl (finK ev k) (-1, start k)).2
theorem lastC_aux (ev : List Ev) (t : Nat) : ∀ m, (∀ j, (List.range m).foldl (fun b i => if (ev[i]?).any (isC t) = true then some i else b) none = some j → j < m ∧ (ev[j]?).any (isC t) = true) ∧
    ((List.range m).foldl (fun b i => if (ev[i]?).any (isC t) = true then some i else b) none = none → ∀ i, i < m → (ev[i]?).any (isC t) = false)
  | 0 => ⟨fun j h => by simp at h, fun _ i hi => by omega⟩
  | m + 1 => by
    obtain ⟨h1, h2⟩ := lastC_aux ev t m
    rw [List.range_succ, List.foldl_append]
    simp only [List.foldl_cons, List.foldl_nil]
    by_cases h : (ev[m]?).any (isC t) = true
    · rw [if_pos h]
      exact ⟨fun j hj => by cases hj; exact ⟨by omega, h⟩, fun h => by cases h⟩
    · rw [if_neg h]
      refine ⟨fun j hj => ⟨by have := (h1 j hj).1; omega, (h1 j hj).2⟩, fun hn i hi => ?_⟩
      by_cases him : i = m
      · subst him; simpa using h
      · exact h2 hn i (by omega)
theorem isC_any {ev : List Ev} {t i : Nat} : (ev[i]?).any (isC t) = true ↔ ∃ e, ev[i]? = some e ∧ e.kind = 3 ∧ e.t = t := by
  cases h : ev[i]? with
  | none => simp
  | some e => simp [isC]
variable {lev : Nat} {ev : List Ev}
theorem EvsOk.end1 (E : EvsOk lev n K start ev) {i j : Nat} {x y : Ev} (hi : ev[i]? = some x) (hj : ev[j]? = some y) (hx : isEnd x = true) (ht : x.t = y.t) : j ≤ i := by
  by_cases h : i < j
  · have h1 := (E j y hj).live
    rw [← ht] at h1
    have hm : x ∈ ev.take j := List.mem_of_getElem? (by rw [List.getElem?_take, if_pos h]; exact hi)
    unfold endedE at h1
    rw [List.any_eq_false] at h1
    exact absurd (by simp [hx]) (h1 x hm)
  · omega
theorem lastC_iff (E : EvsOk lev n K start ev) {t j : Nat} : lastC ev t = some j ↔ ∃ e, ev[j]? = some e ∧ e.kind = 3 ∧ e.t = t := by
  obtain ⟨h1, h2⟩ := lastC_aux ev t ev.length
  constructor
  · intro h
    exact isC_any.1 (h1 j h).2
  · rintro ⟨e, he, hk, ht⟩
    have hj := (List.getElem?_eq_some_iff.1 he).1
    have ha := isC_any.2 ⟨e, he, hk, ht⟩
    cases h : lastC ev t with
    | none => have := h2 h j hj; rw [ha] at this; cases this
    | some i =>
      obtain ⟨_, h4⟩ := h1 i h
      obtain ⟨x, hx, hxk, hxt⟩ := isC_any.1 h4
      have h5 := E.end1 hx he (by simp [isEnd, hxk]) (by rw [hxt, ht])
      have h6 := E.end1 he hx (by simp [isEnd, hk]) (by rw [hxt, ht])
      congr 1; omega
theorem EvsOk.wrs_take (E : EvsOk lev n K start ev) {j t : Nat} {e : Ev} (he : ev[j]? = some e) (hk : isEnd e = true) (ht : e.t = t) (k : Nat) : wrs (ev.take j) t k = wrs ev t k := by
  have hs : ev = ev.take j ++ ev.drop j := (List.take_append_drop j ev).symm
  conv => rhs; rw [hs]
  unfold wrs
  rw [List.filter_append, List.map_append]
  have : (ev.drop j).filter (fun e => isW k e && e.t == t) = [] := by
    rw [List.filter_eq_nil_iff]
    intro x hx
    obtain ⟨i, hi⟩ := List.getElem?_of_mem hx
    rw [List.getElem?_drop] at hi
    intro h
    simp only [isW, Bool.and_eq_true, beq_iff_eq] at h
    have h1 := E.end1 he hi hk (by rw [ht, h.2])
    have : i = 0 := by omega
    subst this
    rw [Nat.add_zero, he] at hi
    cases hi
    simp [isEnd, h.1.1] at hk
  rw [this, List.map_nil, List.append_nil]
/-- what has been found so far -/
def FinI (ev pre : List Ev) (start : Nat → Int) (k : Nat) (b : Int × Int) : Prop :=
  ((b = (-1, start k) ∧ ∀ x ∈ pre, isW k x = true → lastC ev x.t = none) ∨
   ∃ x ∈ pre, ∃ a : Nat, isW k x = true ∧ lastC ev x.t = some a ∧ b.1 = (a : Int) ∧ (∃ l, wrs pre x.t k = l ++ [b.2])) ∧
  ∀ x ∈ pre, isW k x = true → ∀ a : Nat, lastC ev x.t = some a → (a : Int) ≤ b.1
theorem finK_all (ev : List Ev) (k : Nat) (pre : List Ev) : FinI ev pre start k (pre.foldl (finK ev k) (-1, start k)) := by
  induction pre using snoc_ind with
  | h0 => exact ⟨.inl ⟨rfl, fun _ h => by simp at h⟩, fun _ h => by simp at h⟩
  | h1 pre x ih =>
    rw [List.foldl_append]
    show FinI ev (pre ++ [x]) start k (finK ev k _ x)
    generalize pre.foldl (finK ev k) (-1, start k) = b at ih
    obtain ⟨i1, i2⟩ := ih
    have keepw : ∀ y : Ev, (isW k x = true → x.t ≠ y.t) → wrs (pre ++ [x]) y.t k = wrs pre y.t k := fun y hy => by
      rw [wrs_snoc, if_neg (by intro h; exact hy h.1 h.2), List.append_nil]
    unfold finK
    by_cases hw : isW k x = true
    · rw [if_pos hw]
      cases hl : lastC ev x.t with
      | none =>
        refine ⟨?_, fun y hy hyw a ha => ?_⟩
        · rcases i1 with ⟨h1, h2⟩ | ⟨y, hy, a, h1, h2, h3, h4⟩
          · left
            refine ⟨h1, fun y hy hyw => ?_⟩
            rcases List.mem_append.1 hy with hy | hy
            · exact h2 y hy hyw
            · obtain rfl := List.mem_singleton.1 hy; exact hl
          · right
            refine ⟨y, by simp [hy], a, h1, h2, h3, ?_⟩
            rw [keepw y (fun _ e => by rw [e, h2] at hl; cases hl)]; exact h4
        · rcases List.mem_append.1 hy with hy | hy
          · exact i2 y hy hyw a ha
          · obtain rfl := List.mem_singleton.1 hy; rw [hl] at ha; cases ha
      | some a =>
        simp only
        by_cases hba : b.1 ≤ (a : Int)
        · rw [if_pos hba]
          refine ⟨.inr ⟨x, by simp, a, hw, hl, rfl, wrs pre x.t k, by rw [wrs_snoc, if_pos ⟨hw, rfl⟩]⟩, fun y hy hyw a' ha' => ?_⟩
          rcases List.mem_append.1 hy with hy | hy
          · have := i2 y hy hyw a' ha'; show (a' : Int) ≤ (a : Int); omega
          · obtain rfl := List.mem_singleton.1 hy; rw [hl] at ha'; cases ha'; exact Int.le_refl _
        · rw [if_neg hba]
          refine ⟨?_, fun y hy hyw a' ha' => ?_⟩
          · rcases i1 with ⟨h1, h2⟩ | ⟨y, hy, c, h1, h2, h3, h4⟩
            · rw [h1] at hba
              exfalso; apply hba; show (-1 : Int) ≤ (a : Int); omega
            · right
              refine ⟨y, by simp [hy], c, h1, h2, h3, ?_⟩
              rw [keepw y (fun _ e => by rw [e, h2] at hl; cases hl; omega)]; exact h4
          · rcases List.mem_append.1 hy with hy | hy
            · exact i2 y hy hyw a' ha'
            · obtain rfl := List.mem_singleton.1 hy; rw [hl] at ha'; cases ha'; omega
    · rw [if_neg hw]
      refine ⟨?_, fun y hy hyw a ha => ?_⟩
      · rcases i1 with ⟨h1, h2⟩ | ⟨y, hy, a, h1, h2, h3, h4⟩
        · left
          refine ⟨h1, fun y hy hyw => ?_⟩
          rcases List.mem_append.1 hy with hy | hy
          · exact h2 y hy hyw
          · obtain rfl := List.mem_singleton.1 hy; exact absurd hyw hw
        · right
          refine ⟨y, by simp [hy], a, h1, h2, h3, ?_⟩
          rw [keepw y (fun e => absurd e hw)]; exact h4
      · rcases List.mem_append.1 hy with hy | hy
        · exact i2 y hy hyw a ha
        · obtain rfl := List.mem_singleton.1 hy; exact absurd hyw hw
theorem mem_wrs {ev : List Ev} {t k : Nat} {v : Int} (h : v ∈ wrs ev t k) : ∃ x ∈ ev, isW k x = true ∧ x.t = t ∧ x.val = v := by
  unfold wrs at h
  obtain ⟨x, hx, rfl⟩ := List.mem_map.1 h
  obtain ⟨h1, h2⟩ := List.mem_filter.1 hx
  simp only [Bool.and_eq_true, beq_iff_eq] at h2
  exact ⟨x, h1, h2.1, h2.2, rfl⟩
/-- Final gives what was committed last -/
theorem final_cur (E : EvsOk lev n K start ev) (k : Nat) : finalV ev start k = curE start ev k := by
  obtain ⟨i1, i2⟩ := finK_all ev k ev
  unfold finalV
  generalize ev.foldl (finK ev k) (-1, start k) = b at i1 i2
  have hno : ∀ j : Nat, b.1 < (j : Int) → comE ev k j = [] := fun j hj => by
    unfold comE
    split
    · rename_i e he
      split
      · rename_i hk
        cases hw : wrs (ev.take j) e.t k with
        | nil => rfl
        | cons v l =>
          obtain ⟨x, hx, h1, h2, _⟩ := mem_wrs (ev := ev) (t := e.t) (k := k) (v := v) (by rw [← E.wrs_take he (by simp [isEnd, hk]) rfl, hw]; simp)
          have := i2 x hx h1 j ((lastC_iff E).2 ⟨e, he, hk, h2.symm⟩)
          omega
      · rfl
    · rfl
  have hcut : ∀ (m d : Nat), b.1 < (m : Int) → (List.range (m + d)).flatMap (comE ev k) = (List.range m).flatMap (comE ev k) := fun m d hm => by
    induction d with
    | zero => rfl
    | succ d ih =>
      rw [← Nat.add_assoc, List.range_succ, List.flatMap_append, ih, List.flatMap_cons, List.flatMap_nil, hno (m + d) (by omega)]
      simp
  unfold curE comm
  rcases i1 with ⟨rfl, _⟩ | ⟨x, hx, a, h1, h2, h3, l, h4⟩
  · have := hcut 0 ev.length (by show (-1 : Int) < 0; omega)
    rw [Nat.zero_add] at this
    rw [this]; rfl
  · obtain ⟨e, he, hk, ht⟩ := (lastC_iff E).1 h2
    have ha := (List.getElem?_eq_some_iff.1 he).1
    have := hcut (a + 1) (ev.length - (a + 1)) (by omega)
    rw [show a + 1 + (ev.length - (a + 1)) = ev.length by omega] at this
    rw [this, List.range_succ, List.flatMap_append, lastL_append, List.flatMap_cons, List.flatMap_nil, List.append_nil]
    unfold comE
    rw [he]
    simp only [hk, if_true]
    rw [E.wrs_take he (by simp [isEnd, hk]) rfl, ht, h4, List.map_append, lastL_append]
    rfl
end
end Go.Proofs.Sc
