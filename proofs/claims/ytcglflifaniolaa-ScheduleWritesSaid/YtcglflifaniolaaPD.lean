/- Transactions that run step by step: whole turns and whole runs. -/
import Derived.Test.YtcglflifaniolaaPC
namespace Go.Proofs.Sc
section
variable {lev n K : Nat} {start : Nat → Int} {s : St}

def Lv (n : Nat) (s : St) : Prop := ∀ t, t < n → (s.tx t).ended = false → (s.tx t).at_ < (s.tx t).steps.length
theorem SOk.step {l : List Sp} {a : Nat} (h : SOk K l) (ha : a < l.length) (d : Sp) :
    (1 ≤ (l.getD a d).kind ∧ (l.getD a d).kind ≤ 3 ∧ (l.getD a d).key < K ∧ a + 1 < l.length) ∨ (((l.getD a d).kind = 4 ∨ (l.getD a d).kind = 5) ∧ a + 1 = l.length) := by
  obtain ⟨b, x, rfl, h1, h2⟩ := h
  rw [List.length_append, List.length_singleton] at ha ⊢
  rw [List.getD_eq_getElem?_getD]
  by_cases hb : a < b.length
  · left
    rw [List.getElem?_append_left hb, List.getElem?_eq_getElem hb, Option.getD_some]
    obtain ⟨h3, h4, h5⟩ := h1 _ (List.getElem_mem hb)
    exact ⟨h3, h4, h5, by omega⟩
  · right
    obtain rfl : a = b.length := by omega
    rw [List.getElem?_append_right (Nat.le_refl _), Nat.sub_self]
    exact ⟨h2, rfl⟩
def Holds (lev : Nat) (x : Tx) (p : Sp) : Prop := ∀ l, need lev p = some l → (l.x = true → x.ex l.k = true) ∧ (l.x = false → x.sh l.k = true)
theorem Inv.nr (I : Inv lev n K start s) (h123 : 1 ≤ lev ∧ lev ≤ 3) {t k : Nat} (ht : t < n) (hb : (s.tx t).begun = true) (hn : (s.tx t).ended = false) (hk : k < K) (hl : lev = 3 → (s.tx t).ex k = true ∨ (s.tx t).sh k = true) : Inv lev n K start (noteR lev start s t k) := by
  have hn' : endedE s.ev t = false := by rw [← I.en, hn]
  refine I.noteN (e := ⟨1, t, k, (readV lev start s t k).1, (readV lev start s t k).2⟩) hb rfl ⟨ht, by simp, by simp, fun _ => hk, I.nofirst hb (by simp), hn', fun _ => I.read h123 ht hb hn hl, fun h => absurd h (by simp), fun h => absurd h (by simp)⟩ (fun k' => ?_) (fun _ h => absurd h (by simp)) (fun h _ => hl h)
  rw [if_neg (by simp [isW]), List.append_nil]
theorem Inv.put (I : Inv lev n K start s) {t k : Nat} {v : Int} (ht : t < n) (hb : (s.tx t).begun = true) (hn : (s.tx t).ended = false) (hk : k < K) (hl : lev ≠ 2 → (s.tx t).ex k = true) : Inv lev n K start (putW s t k v) := by
  have hn' : endedE s.ev t = false := by rw [← I.en, hn]
  refine I.noteN (e := ⟨2, t, k, v, 0⟩) hb rfl ⟨ht, by simp, by simp, fun _ => hk, I.nofirst hb (by simp), hn', fun h => absurd h (by simp), fun _ h2 x hx h3 h4 h5 => ?_, fun h => absurd h (by simp)⟩ (fun k' => ?_) (fun h _ => hl h) (fun _ h => absurd h (by simp))
  · cases h6 : endedE s.ev x.t with
    | true => rfl
    | false => exact absurd (I.only h2 ht hn (.inl (hl h2)) hx h3 h4 h6) h5
  · show upd s.ver k (s.ver k ++ [⟨v, t, 0⟩]) k' = _
    by_cases h : k' = k
    · subst h; rw [upd_same, if_pos (by simp [isW])]
    · rw [upd_ne _ _ h, if_neg (by simp [isW]; exact fun e => h e.symm), List.append_nil]
theorem bump_tx (s : St) (t u : Nat) : ((bump s t).tx u).steps = (s.tx u).steps ∧ ((bump s t).tx u).begun = (s.tx u).begun ∧ ((bump s t).tx u).ended = (s.tx u).ended ∧ ((bump s t).tx u).sh = (s.tx u).sh ∧ ((bump s t).tx u).ex = (s.tx u).ex ∧ ((bump s t).tx u).at_ = (s.tx u).at_ + (if u = t then 1 else 0) := by
  unfold bump setT
  by_cases h : u = t
  · subst h; simp [upd_same]
  · simp [upd_ne _ _ h, h]
theorem Holds.of {x : Tx} {p : Sp} (h : Holds lev x p) : (p.kind = 1 → lev = 3 → x.ex p.key = true ∨ x.sh p.key = true) ∧ (p.kind = 2 ∨ p.kind = 3 → lev ≠ 2 → x.ex p.key = true) := by
  refine ⟨fun h1 h3 => .inr ?_, fun h1 h2 => ?_⟩
  · exact (h ⟨p.key, false⟩ (by unfold need; rw [if_pos h1, if_pos h3])).2 rfl
  · exact (h ⟨p.key, true⟩ (by unfold need; rw [if_neg (by omega), if_pos h1, if_neg h2])).1 rfl
theorem Inv.go (I : Inv lev n K start s) (L : Lv n s) (h123 : 1 ≤ lev ∧ lev ≤ 3) {t : Nat} (ht : t < n) (hb : (s.tx t).begun = true) (hn : (s.tx t).ended = false) (hh : Holds lev (s.tx t) (stepOf (s.tx t))) :
    Inv lev n K start (goT lev K start s t) ∧ Lv n (goT lev K start s t) := by
  obtain ⟨b1, b2, b3, b4, b5, b6⟩ := bump_tx s t t
  rw [if_pos rfl] at b6
  have Ib := I.bmp t
  have hb' : ((bump s t).tx t).begun = true := by rw [b2, hb]
  have hn' : ((bump s t).tx t).ended = false := by rw [b3, hn]
  obtain ⟨hh1, hh2⟩ := hh.of
  have hother : ∀ u, u < n → u ≠ t → ((bump s t).tx u).ended = false → ((bump s t).tx u).at_ < ((bump s t).tx u).steps.length := fun u hu hut he => by
    obtain ⟨c1, _, c3, _, _, c6⟩ := bump_tx s t u
    rw [if_neg hut] at c6
    rw [c1, c6]; rw [c3] at he
    exact L u hu he
  unfold goT
  generalize hp : stepOf (s.tx t) = p at hh1 hh2 ⊢
  rcases (I.stp t ht).step (L t ht hn) ⟨0, 0, 0⟩ with ⟨k1, k2, k3, k4⟩ | ⟨k1, k2⟩
  · change 1 ≤ (stepOf (s.tx t)).kind at k1
    change (stepOf (s.tx t)).kind ≤ 3 at k2
    change (stepOf (s.tx t)).key < K at k3
    rw [hp] at k1 k2 k3
    have hL : Lv n (bump s t) := fun u hu he => by
      by_cases h : u = t
      · subst h; rw [b1, b6]; exact k4
      · exact hother u hu h he
    unfold actT
    by_cases h1 : p.kind = 1
    · rw [if_pos h1]
      exact ⟨Ib.nr h123 ht hb' hn' k3 (by rw [b4, b5]; exact hh1 h1), hL⟩
    · rw [if_neg h1]
      by_cases h2 : p.kind = 2
      · rw [if_pos h2]
        exact ⟨Ib.put ht hb' hn' k3 (by rw [b5]; exact hh2 (.inl h2)), hL⟩
      · rw [if_neg h2, if_pos (by omega)]
        have he : lev ≠ 2 → ((bump s t).tx t).ex p.key = true := by rw [b5]; exact hh2 (.inr (by omega))
        have In := Ib.nr h123 ht hb' hn' k3 (fun h => .inl (he (by omega)))
        exact ⟨In.put ht hb' hn' k3 he, hL⟩
  · change (stepOf (s.tx t)).kind = 4 ∨ (stepOf (s.tx t)).kind = 5 at k1
    rw [hp] at k1
    have hE : Lv n (endT (bump s t) t) := fun u hu he => by
      obtain ⟨c1, _, _, _, _, c6, c7⟩ := endT_tx (bump s t) t u
      rw [c7, Bool.or_eq_false_iff] at he
      rw [c1, c6]
      exact hother u hu (by simpa using he.1) he.2
    unfold actT
    rw [if_neg (by omega), if_neg (by omega), if_neg (by omega)]
    by_cases h4 : p.kind = 4
    · rw [if_pos h4]
      exact ⟨Ib.abort ht hb' hn', hE⟩
    · rw [if_neg h4, if_pos (by omega)]
      unfold doneT
      by_cases hc : lev = 2 ∧ confl K (bump s t) t = true
      · rw [if_pos hc]; exact ⟨Ib.abort ht hb' hn', hE⟩
      · rw [if_neg hc]
        refine ⟨Ib.commit ht hb' hn' (fun h => ?_), hE⟩
        rw [Bool.eq_false_iff]; exact fun h2 => hc ⟨h, h2⟩
theorem take_tx (s : St) (t : Nat) (l : Lk) (u : Nat) : ((takeL s t l).tx u).steps = (s.tx u).steps ∧ ((takeL s t l).tx u).begun = (s.tx u).begun ∧ ((takeL s t l).tx u).ended = (s.tx u).ended ∧ ((takeL s t l).tx u).at_ = (s.tx u).at_ := by
  unfold takeL setT
  by_cases h : u = t
  · subst h; simp [upd_same, takeX]
  · simp [upd_ne _ _ h]
theorem want_tx (s : St) (t : Nat) (l : Lk) (u : Nat) : ((wantL s t l).tx u).steps = (s.tx u).steps ∧ ((wantL s t l).tx u).begun = (s.tx u).begun ∧ ((wantL s t l).tx u).ended = (s.tx u).ended ∧ ((wantL s t l).tx u).at_ = (s.tx u).at_ ∧ ((wantL s t l).tx u).sh = (s.tx u).sh ∧ ((wantL s t l).tx u).ex = (s.tx u).ex ∧ ((wantL s t l).tx u).wants = if u = t then some l else (s.tx u).wants := by
  unfold wantL setT
  by_cases h : u = t
  · subst h; simp [upd_same]
  · simp [upd_ne _ _ h, h]
theorem take_step (s : St) (t : Nat) (l : Lk) : stepOf ((takeL s t l).tx t) = stepOf (s.tx t) := by
  obtain ⟨h1, _, _, h4⟩ := take_tx s t l t
  unfold stepOf; rw [h1, h4]
theorem take_holds (lev : Nat) (s : St) (t : Nat) {l : Lk} (h : need lev (stepOf (s.tx t)) = some l) : Holds lev ((takeL s t l).tx t) (stepOf ((takeL s t l).tx t)) := by
  rw [take_step]
  intro l' h'
  rw [h] at h'
  cases h'
  show (l.x = true → (upd s.tx t (takeX (s.tx t) l) t).ex l.k = true) ∧ (l.x = false → (upd s.tx t (takeX (s.tx t) l) t).sh l.k = true)
  rw [upd_same]
  refine ⟨fun hx => ?_, fun hx => ?_⟩
  · show (if l.x then upd (s.tx t).ex l.k true else (s.tx t).ex) l.k = true
    rw [hx, if_pos rfl, upd_same]
  · show (if l.x then (s.tx t).sh else upd (s.tx t).sh l.k true) l.k = true
    rw [hx, if_neg (by simp), upd_same]
theorem abort_lv {t : Nat} (L : Lv n s) : Lv n (abortT s t) := fun u hu he => by
  obtain ⟨c1, _, _, _, _, c6, c7⟩ := endT_tx s t u
  change ((endT s t).tx u).ended = false at he
  show ((endT s t).tx u).at_ < ((endT s t).tx u).steps.length
  rw [c7, Bool.or_eq_false_iff] at he
  rw [c1, c6]
  exact L u hu he.2
theorem Inv.trY (I : Inv lev n K start s) (L : Lv n s) (h123 : 1 ≤ lev ∧ lev ≤ 3) {t : Nat} (ht : t < n) (hb : (s.tx t).begun = true) (hn : (s.tx t).ended = false) : Inv lev n K start (tryT lev n K start s t) ∧ Lv n (tryT lev n K start s t) := by
  unfold tryT
  split
  · rename_i hnd
    exact I.go L h123 ht hb hn fun l hl => by rw [hnd] at hl; cases hl
  · rename_i l hnd
    by_cases ho : others n s t l = []
    · rw [if_pos ho]
      refine (I.take ht ho).go (fun u hu he => ?_) h123 ht (by rw [(take_tx s t l t).2.1]; exact hb) (by rw [(take_tx s t l t).2.2.1]; exact hn) (take_holds lev s t hnd)
      obtain ⟨h1, _, h3, h4⟩ := take_tx s t l u
      rw [h1, h4]; rw [h3] at he; exact L u hu he
    · rw [if_neg ho]
      have Iw := I.want t l
      have Lw : Lv n (wantL s t l) := fun u hu he => by
        obtain ⟨h1, _, h3, h4, _⟩ := want_tx s t l u
        rw [h1, h4]; rw [h3] at he; exact L u hu he
      split
      · exact ⟨Iw.abort ht (by rw [(want_tx s t l t).2.1]; exact hb) (by rw [(want_tx s t l t).2.2.1]; exact hn), abort_lv Lw⟩
      · exact ⟨Iw, Lw⟩
theorem begin_lv {t : Nat} (L : Lv n s) : Lv n (beginT s t) := fun u hu he => by
  obtain ⟨h1, h2, h3, _⟩ := begin_same s t u
  rw [h1, h2]; rw [h3] at he; exact L u hu he
theorem Inv.turn (I : Inv lev n K start s) (L : Lv n s) (h123 : 1 ≤ lev ∧ lev ≤ 3) {t : Nat} (ht : t < n) (hn : (s.tx t).ended = false) : Inv lev n K start (turnT lev n K start s t) ∧ Lv n (turnT lev n K start s t) :=
  (I.begin ht).trY (begin_lv L) h123 ht (begin_begun s t) (by rw [(begin_same s t t).2.2.1]; exact hn)
theorem Inv.trn1 (I : Inv lev n K start s) (L : Lv n s) (h123 : 1 ≤ lev ∧ lev ≤ 3) (t : Int) : Inv lev n K start (turn1 lev n K start s t) ∧ Lv n (turn1 lev n K start s t) := by
  unfold turn1
  split
  · rename_i h
    exact I.turn L h123 (by omega) h.2.2
  · exact ⟨I, L⟩
theorem Inv.trns (h123 : 1 ≤ lev ∧ lev ≤ 3) : ∀ (o : List Int) (s : St), Inv lev n K start s → Lv n s → Inv lev n K start (turns lev n K start s o) ∧ Lv n (turns lev n K start s o)
  | [], _, I, L => ⟨I, L⟩
  | t :: o, s, I, L => by
    obtain ⟨I', L'⟩ := I.trn1 L h123 t
    exact Inv.trns h123 o _ I' L'
theorem Inv.fn1 (I : Inv lev n K start s) {t : Nat} (ht : t < n) : Inv lev n K start (fin1 s t) := by
  unfold fin1
  split
  · rename_i h; exact I.abort ht h.1 h.2
  · exact I
theorem fin1_tx (s : St) (t u : Nat) : ((fin1 s t).tx u).begun = (s.tx u).begun ∧ ((s.tx u).ended = true → ((fin1 s t).tx u).ended = true) ∧ (u = t → (s.tx u).begun = true → ((fin1 s t).tx u).ended = true) := by
  unfold fin1
  split
  · rename_i h
    obtain ⟨_, c2, _, _, _, _, c7⟩ := endT_tx s t u
    refine ⟨c2, fun he => ?_, fun he _ => ?_⟩
    · show ((endT s t).tx u).ended = true; rw [c7, he]; simp
    · show ((endT s t).tx u).ended = true; rw [c7]; simp [he]
  · rename_i h
    refine ⟨rfl, fun h => h, fun he hb => ?_⟩
    subst he
    cases h2 : (s.tx u).ended with
    | true => rfl
    | false => exact absurd ⟨hb, h2⟩ h
theorem Inv.fins (s : St) (I : Inv lev n K start s) : ∀ m, m ≤ n → Inv lev n K start ((List.range m).foldl fin1 s) ∧ (∀ u, (((List.range m).foldl fin1 s).tx u).begun = (s.tx u).begun) ∧ ∀ u, u < m → (s.tx u).begun = true → (((List.range m).foldl fin1 s).tx u).ended = true
  | 0, _ => ⟨I, fun _ => rfl, fun u hu => by omega⟩
  | m + 1, hm => by
    obtain ⟨h1, h2, h3⟩ := Inv.fins s I m (by omega)
    rw [List.range_succ, List.foldl_append]
    refine ⟨h1.fn1 (by omega), fun u => ?_, fun u hu hb => ?_⟩
    · show ((fin1 _ m).tx u).begun = _; rw [(fin1_tx _ m u).1, h2]
    · show ((fin1 _ m).tx u).ended = true
      by_cases h : u = m
      · exact (fin1_tx _ m u).2.2 h (by rw [h2]; exact hb)
      · exact (fin1_tx _ m u).2.1 (h3 u (by omega) hb)
/-- a program as it is made -/
def PMade (K : Nat) (p : List Sp) : Prop := (∀ x ∈ p, 1 ≤ x.kind ∧ x.kind ≤ 3 ∧ x.key < K) ∨ ∃ b x, p = b ++ [x] ∧ (∀ y ∈ b, 1 ≤ y.kind ∧ y.kind ≤ 3 ∧ y.key < K) ∧ (x.kind = 4 ∨ x.kind = 5)
theorem whole_ok {p : List Sp} (h : PMade K p) : SOk K (wholeP p) := by
  unfold wholeP
  rcases h with h | ⟨b, x, rfl, h1, h2⟩
  · split
    · rename_i x hx
      have := h x (List.mem_of_getLast? hx)
      rw [if_neg (by omega)]
      exact ⟨p, _, rfl, h, .inr rfl⟩
    · rename_i hx
      rw [List.getLast?_eq_none_iff] at hx
      exact ⟨[], _, rfl, fun _ h => by simp at h, .inr rfl⟩
  · rw [List.getLast?_append]
    simp only [List.getLast?_singleton, Option.some_or]
    rw [if_pos h2]
    exact ⟨b, x, rfl, h1, h2⟩
theorem inv0 {P : List (List Sp)} (h : ∀ t, t < n → SOk K (P.getD t [])) : Inv lev n K start (st0 P) ∧ Lv n (st0 P) := by
  refine ⟨⟨h, fun _ => rfl, fun _ => rfl, fun _ h => (by cases h), fun i e h => (by cases h), fun k => rfl, fun _ e h => (by cases h), fun _ e h => (by cases h), fun _ _ _ _ _ _ _ _ h => (by cases h)⟩, fun t ht _ => ?_⟩
  obtain ⟨b, x, hb, _⟩ := h t ht
  show 0 < (P.getD t []).length
  rw [hb]; simp
theorem map_getD (P : List (List Sp)) (t : Nat) (ht : t < P.length) : (P.map wholeP).getD t [] = wholeP (P.getD t []) := by
  rw [List.getD_eq_getElem?_getD, List.getD_eq_getElem?_getD, List.getElem?_map, List.getElem?_eq_getElem ht]; rfl
theorem run_ok {lev : Nat} {start : List Int} {P : List (List Sp)} (o : List Int) (h123 : 1 ≤ lev ∧ lev ≤ 3) (hP : ∀ p ∈ P, PMade start.length p) :
    Inv lev P.length start.length (fun k => start.getD k 0) (runS lev start P o) ∧ ∀ t, t < P.length → ((runS lev start P o).tx t).begun = true → ((runS lev start P o).tx t).ended = true := by
  have h0 : ∀ t, t < P.length → SOk start.length ((P.map wholeP).getD t []) := fun t ht => by
    rw [map_getD P t ht]
    refine whole_ok (hP _ ?_)
    rw [List.getD_eq_getElem?_getD, List.getElem?_eq_getElem ht]
    exact List.getElem_mem ht
  obtain ⟨I0, L0⟩ := inv0 (lev := lev) (start := fun k => start.getD k 0) h0
  obtain ⟨I, _⟩ := Inv.trns h123 o _ I0 L0
  obtain ⟨h1, h2, h3⟩ := Inv.fins _ I P.length (Nat.le_refl _)
  refine ⟨h1, fun t ht hb => h3 t ht ?_⟩
  have := h2 t
  unfold runS at hb
  rw [this] at hb
  exact hb
end
end Go.Proofs.Sc
