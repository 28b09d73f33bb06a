/- Transactions that run step by step: what holds all the way. -/
import Derived.Test.YtcglflifaniolaaPA
namespace Go.Proofs.Sc

def SOk (K : Nat) (l : List Sp) : Prop := ∃ b x, l = b ++ [x] ∧ (∀ p ∈ b, 1 ≤ p.kind ∧ p.kind ≤ 3 ∧ p.key < K) ∧ (x.kind = 4 ∨ x.kind = 5)
def isB (t : Nat) (e : Ev) : Bool := e.kind == 5 && e.t == t
def bidx (ev : List Ev) (t : Nat) : Nat := ev.findIdx (isB t)
def upto (lev : Nat) (ev : List Ev) (t : Nat) : Nat := if lev = 2 then bidx ev t else ev.length
def ownL (ev : List Ev) (t k : Nat) : List Wr := (wrs ev t k).map (fun v => ⟨v, t, 0⟩)
def seen (lev : Nat) (start : Nat → Int) (pre : List Ev) (t k : Nat) : Int × Int := lastL (ownL pre t k) (lastL (comm (pre.take (upto lev pre t)) k) (start k, -1))
structure EvOk (lev n K : Nat) (start : Nat → Int) (pre : List Ev) (e : Ev) : Prop where
  t : e.t < n
  lo : 1 ≤ e.kind
  hi : e.kind ≤ 5
  key : e.kind ≤ 2 → e.key < K
  first : e.kind = 5 ↔ ∀ e' ∈ pre, e'.t ≠ e.t
  live : endedE pre e.t = false
  r : e.kind = 1 → (e.val, e.fr) = seen lev start pre e.t e.key
  w : e.kind = 2 → lev ≠ 2 → ∀ e' ∈ pre, e'.kind = 2 → e'.key = e.key → e'.t ≠ e.t → endedE pre e'.t = true
  c : e.kind = 3 → lev = 2 → ∀ (k j : Nat) e', wrs pre e.t k ≠ [] → pre[j]? = some e' → e'.kind = 3 → wrs (pre.take j) e'.t k ≠ [] → j < bidx pre e.t
def EvsOk (lev n K : Nat) (start : Nat → Int) (ev : List Ev) : Prop := ∀ (i : Nat) e, ev[i]? = some e → EvOk lev n K start (ev.take i) e
theorem EvsOk.snoc {lev n K : Nat} {start : Nat → Int} {ev : List Ev} {e : Ev} (h : EvsOk lev n K start ev) (he : EvOk lev n K start ev e) : EvsOk lev n K start (ev ++ [e]) := by
  intro i x hx
  by_cases hi : i < ev.length
  · rw [List.getElem?_append_left hi] at hx
    rw [List.take_append_of_le_length (by omega)]
    exact h i x hx
  · have hl := (List.getElem?_eq_some_iff.1 hx).1
    rw [List.length_append, List.length_singleton] at hl
    obtain rfl : i = ev.length := by omega
    rw [List.getElem?_append_right (Nat.le_refl _), Nat.sub_self] at hx
    cases hx
    rw [List.take_left]
    exact he
theorem EvsOk.mem {lev n K : Nat} {start : Nat → Int} {ev : List Ev} {e : Ev} (h : EvsOk lev n K start ev) (he : e ∈ ev) : ∃ pre, EvOk lev n K start pre e := by
  obtain ⟨i, hi⟩ := List.getElem?_of_mem he
  exact ⟨_, h i e hi⟩

/-! ### the committed and the others -/
theorem snoc_ind {α : Type} {p : List α → Prop} (h0 : p []) (h1 : ∀ l a, p l → p (l ++ [a])) (l : List α) : p l := by
  have : ∀ (m : Nat) (l : List α), l.length = m → p l := by
    intro m
    induction m with
    | zero => intro l hl; rw [List.eq_nil_of_length_eq_zero hl]; exact h0
    | succ m ih =>
      intro l hl
      have hne : l ≠ [] := by intro h; rw [h] at hl; simp at hl
      rw [← List.dropLast_concat_getLast hne]
      exact h1 _ _ (ih _ (by rw [List.length_dropLast]; omega))
  exact this _ l rfl
theorem mem_comm {ev : List Ev} {k : Nat} {w : Wr} (h : w ∈ comm ev k) : ∃ (j : Nat) (e : Ev), ev[j]? = some e ∧ e.kind = 3 ∧ w.t = e.t ∧ w.c = j + 1 ∧ w.v ∈ wrs (ev.take j) e.t k := by
  unfold comm at h
  obtain ⟨j, _, h⟩ := List.mem_flatMap.1 h
  unfold comE at h
  split at h
  · rename_i e he
    split at h
    · rename_i hk
      obtain ⟨v, hv, rfl⟩ := List.mem_map.1 h
      exact ⟨j, e, he, hk, rfl, rfl, hv⟩
    · simp at h
  · simp at h
theorem comm_mem {ev : List Ev} {k j : Nat} {e : Ev} {v : Int} (he : ev[j]? = some e) (hk : e.kind = 3) (hv : v ∈ wrs (ev.take j) e.t k) : ⟨v, e.t, j + 1⟩ ∈ comm ev k := by
  unfold comm
  refine List.mem_flatMap.2 ⟨j, List.mem_range.2 (List.getElem?_eq_some_iff.1 he).1, ?_⟩
  unfold comE
  rw [he]
  simp only [hk, if_true]
  exact List.mem_map.2 ⟨v, hv, rfl⟩
theorem comm_ended {ev : List Ev} {k : Nat} {w : Wr} (h : w ∈ comm ev k) : endedE ev w.t = true := by
  obtain ⟨j, e, he, hk, ht, _⟩ := mem_comm h
  unfold endedE
  rw [List.any_eq_true]
  exact ⟨e, List.mem_of_getElem? he, by simp [isEnd, hk, ht]⟩
theorem comm_pos {ev : List Ev} {k : Nat} {w : Wr} (h : w ∈ comm ev k) : 0 < w.c ∧ w.c ≤ ev.length := by
  obtain ⟨j, e, he, _, _, hc, _⟩ := mem_comm h
  have := (List.getElem?_eq_some_iff.1 he).1
  omega
theorem mem_unc {ev : List Ev} {k : Nat} {w : Wr} (h : w ∈ unc ev k) : w.c = 0 ∧ endedE ev w.t = false ∧ ∃ e ∈ ev, e.kind = 2 ∧ e.key = k ∧ e.t = w.t ∧ e.val = w.v := by
  unfold unc at h
  obtain ⟨e, he, rfl⟩ := List.mem_map.1 h
  obtain ⟨h1, h2⟩ := List.mem_filter.1 he
  simp only [isW, Bool.and_eq_true, beq_iff_eq, Bool.not_eq_true'] at h2
  exact ⟨rfl, h2.2, e, h1, h2.1.1, h2.1.2, rfl, rfl⟩
theorem unc_own {ev : List Ev} {t : Nat} (h : endedE ev t = false) (k : Nat) : (unc ev k).filter (fun w => w.t == t) = ownL ev t k := by
  unfold unc ownL wrs
  rw [List.filter_map, List.filter_filter, List.map_map]
  rw [show (ev.filter fun e => isW k e && e.t == t).map ((fun v => (⟨v, t, 0⟩ : Wr)) ∘ fun x => x.val) = (ev.filter fun e => isW k e && e.t == t).map (fun e => (⟨e.val, e.t, 0⟩ : Wr)) from List.map_congr_left fun e he => by
    obtain ⟨_, h2⟩ := List.mem_filter.1 he
    simp only [Bool.and_eq_true, beq_iff_eq] at h2
    simp [h2.2]]
  congr 1
  refine List.filter_congr fun e _ => ?_
  show ((e.t == t) && (isW k e && !endedE ev e.t)) = (isW k e && (e.t == t))
  by_cases he : e.t = t
  · simp [he, h]
  · have h0 : (e.t == t) = false := by simpa using he
    rw [h0]; simp
theorem comm_filter (k : Nat) (ev : List Ev) : ∀ m, m ≤ ev.length → (comm ev k).filter (fun w => decide (w.c ≤ m)) = comm (ev.take m) k := by
  induction ev using snoc_ind with
  | h0 => intro m _; simp [comm]
  | h1 ev e ih =>
    intro m hm
    by_cases h : m = (ev ++ [e]).length
    · subst h
      rw [List.take_length, List.filter_eq_self]
      intro w hw
      simpa using (comm_pos hw).2
    · rw [List.length_append, List.length_singleton] at hm h
      rw [comm_snoc, List.filter_append, ih m (by omega), List.take_append_of_le_length (by omega)]
      rw [List.filter_eq_nil_iff.2, List.append_nil]
      intro w hw
      split at hw
      · obtain ⟨v, _, rfl⟩ := List.mem_map.1 hw
        simp; omega
      · simp at hw
theorem lastL_or (l : List Wr) (d : Int × Int) : lastL l d = d ∨ ∃ w ∈ l, lastL l d = (w.v, (w.t : Int)) := by
  induction l using snoc_ind with
  | h0 => exact .inl rfl
  | h1 l a _ => right; exact ⟨a, by simp, by rw [lastL_append]; rfl⟩

/-! ### what a transaction reads -/
theorem pick_comm {lev t snap : Nat} (hl : lev ≠ 3) : ∀ (l : List Wr) (d : Int × Int), (∀ w ∈ l, w.t ≠ t ∧ 0 < w.c) → d.2 ≠ (t : Int) →
    l.foldl (pickR lev t snap) d = lastL (if lev = 1 then l else l.filter (fun w => decide (w.c ≤ snap))) d ∧ (l.foldl (pickR lev t snap) d).2 ≠ (t : Int)
  | [], d, _, hd => by simp [lastL, hd]
  | w :: l, d, h, hd => by
    obtain ⟨h1, h2⟩ := h w (by simp)
    have hl' : ∀ w ∈ l, w.t ≠ t ∧ 0 < w.c := fun x hx => h x (by simp [hx])
    rw [List.foldl_cons]
    by_cases hp : lev = 1 ∨ w.c ≤ snap
    · rw [show pickR lev t snap d w = (w.v, (w.t : Int)) by unfold pickR; rw [if_neg (by simp [h1, hl]), if_neg hd, if_pos ⟨h2, hp⟩]]
      obtain ⟨i1, i2⟩ := pick_comm hl l (w.v, (w.t : Int)) hl' (by show ((w.t : Nat) : Int) ≠ (t : Int); omega)
      refine ⟨?_, i2⟩
      rw [i1]
      by_cases h3 : lev = 1
      · rw [if_pos h3, if_pos h3]; rfl
      · rw [if_neg h3, if_neg h3, List.filter_cons_of_pos (by simp; omega)]; rfl
    · rw [show pickR lev t snap d w = d by unfold pickR; rw [if_neg (by simp [h1, hl]), if_neg hd, if_neg (by intro h; exact hp h.2)]]
      obtain ⟨i1, i2⟩ := pick_comm hl l d hl' hd
      refine ⟨?_, i2⟩
      rw [i1, if_neg (by intro h; exact hp (.inl h)), if_neg (by intro h; exact hp (.inl h)), List.filter_cons_of_neg (by simp; omega)]
theorem pick_unc {lev t snap : Nat} (hl : lev ≠ 3) : ∀ (l : List Wr) (d : Int × Int), (∀ w ∈ l, w.c = 0) → l.foldl (pickR lev t snap) d = lastL (l.filter (fun w => w.t == t)) d
  | [], d, _ => by simp [lastL]
  | w :: l, d, h => by
    have h1 := h w (by simp)
    have hl' : ∀ w ∈ l, w.c = 0 := fun x hx => h x (by simp [hx])
    rw [List.foldl_cons]
    by_cases hp : w.t = t
    · rw [show pickR lev t snap d w = (w.v, (w.t : Int)) by unfold pickR; rw [if_pos (.inl hp)], pick_unc hl l _ hl', List.filter_cons_of_pos (by simp [hp])]; rfl
    · rw [show pickR lev t snap d w = d by
        unfold pickR
        rw [if_neg (by simp [hp, hl])]
        split
        · rfl
        · rw [if_neg (by rw [h1]; omega)], pick_unc hl l _ hl', List.filter_cons_of_neg (by simp [hp])]
theorem pick_all {t snap : Nat} (l : List Wr) (d : Int × Int) : l.foldl (pickR 3 t snap) d = lastL l d := by
  induction l generalizing d with
  | nil => rfl
  | cons w l ih => rw [List.foldl_cons, ih]; unfold pickR; simp [lastL]

/-! ### the state -/
structure Inv (lev n K : Nat) (start : Nat → Int) (s : St) : Prop where
  stp : ∀ t, t < n → SOk K (s.tx t).steps
  en : ∀ t, (s.tx t).ended = endedE s.ev t
  bg : ∀ t, (s.tx t).begun = s.ev.any (fun e => e.t == t)
  sn : ∀ t, (s.tx t).begun = true → (s.tx t).snap = bidx s.ev t + 1 ∧ bidx s.ev t < s.ev.length
  evs : EvsOk lev n K start s.ev
  ver : ∀ k, s.ver k = comm s.ev k ++ unc s.ev k
  lw : lev ≠ 2 → ∀ e ∈ s.ev, e.kind = 2 → endedE s.ev e.t = false → (s.tx e.t).ex e.key = true
  lr : lev = 3 → ∀ e ∈ s.ev, e.kind = 1 → endedE s.ev e.t = false → (s.tx e.t).ex e.key = true ∨ (s.tx e.t).sh e.key = true
  exc : ∀ t u k, t < n → u < n → t ≠ u → (s.tx t).ended = false → (s.tx u).ended = false → (s.tx t).ex k = true → (s.tx u).ex k = false ∧ (s.tx u).sh k = false

section
variable {lev n K : Nat} {start : Nat → Int} {s : St}
theorem bidx_kind {ev : List Ev} {t : Nat} (h : bidx ev t < ev.length) : ∃ e, ev[bidx ev t]? = some e ∧ e.kind = 5 ∧ e.t = t := by
  have h1 := List.findIdx_getElem (p := isB t) (xs := ev) (w := h)
  refine ⟨ev[bidx ev t], List.getElem?_eq_getElem h, ?_⟩
  simp only [isB, Bool.and_eq_true, beq_iff_eq] at h1
  exact h1
theorem bidx_snoc {ev : List Ev} {t : Nat} (e : Ev) (h : bidx ev t < ev.length) : bidx (ev ++ [e]) t = bidx ev t := by
  unfold bidx at h ⊢
  rw [List.findIdx_append, if_pos h]
theorem comm_b {ev : List Ev} {t : Nat} (k : Nat) (h : bidx ev t < ev.length) : comm (ev.take (bidx ev t + 1)) k = comm (ev.take (bidx ev t)) k := by
  obtain ⟨e, he, hk, _⟩ := bidx_kind h
  rw [List.take_add_one, he]
  show comm (ev.take (bidx ev t) ++ [e]) k = _
  rw [comm_snoc, if_neg (by omega), List.append_nil]
/-- a transaction that holds a lock of a key is the only one that has written it and not ended -/
theorem Inv.only (I : Inv lev n K start s) (hl : lev ≠ 2) {t k : Nat} (ht : t < n) (hn : (s.tx t).ended = false) (hk : (s.tx t).ex k = true ∨ (s.tx t).sh k = true) {e : Ev} (he : e ∈ s.ev) (h2 : e.kind = 2) (h3 : e.key = k) (h4 : endedE s.ev e.t = false) : e.t = t := by
  by_cases h : e.t = t
  · exact h
  · obtain ⟨pre, ok⟩ := I.evs.mem he
    have h5 := I.exc e.t t k ok.t ht h (by rw [I.en, h4]) hn (by rw [← h3]; exact I.lw hl e he h2 h4)
    rcases hk with hk | hk
    · rw [hk] at h5; cases h5.1
    · rw [hk] at h5; cases h5.2
theorem Inv.read (I : Inv lev n K start s) {t k : Nat} (h123 : 1 ≤ lev ∧ lev ≤ 3) (ht : t < n) (hb : (s.tx t).begun = true) (hn : (s.tx t).ended = false) (hk : lev = 3 → (s.tx t).ex k = true ∨ (s.tx t).sh k = true) :
    readV lev start s t k = seen lev start s.ev t k := by
  have hn' : endedE s.ev t = false := by rw [← I.en, hn]
  unfold readV seen
  rw [I.ver, List.foldl_append]
  have hcm : ∀ w ∈ comm s.ev k, w.t ≠ t ∧ 0 < w.c := fun w hw => ⟨fun e => (by have := comm_ended hw; rw [e, hn'] at this; cases this), (comm_pos hw).1⟩
  by_cases h3 : lev = 3
  · subst h3
    rw [pick_all, pick_all, show upto 3 s.ev t = s.ev.length by unfold upto; rw [if_neg (by omega)], List.take_length]
    congr 1
    rw [← unc_own hn' k, List.filter_eq_self.2]
    intro w hw
    obtain ⟨_, h1, e, he, h2, h3, h4, _⟩ := mem_unc hw
    have := I.only (by omega) ht hn (hk rfl) he h2 h3 (by rw [h4]; exact h1)
    simp [← h4, this]
  · obtain ⟨c1, c2⟩ := pick_comm h3 (snap := (s.tx t).snap) (comm s.ev k) (start k, -1) hcm (by show (-1 : Int) ≠ (t : Int); omega)
    rw [pick_unc h3 _ _ (fun w hw => (mem_unc hw).1), unc_own hn' k, c1]
    congr 2
    by_cases h1 : lev = 1
    · rw [if_pos h1, show upto lev s.ev t = s.ev.length by unfold upto; rw [if_neg (by omega)], List.take_length]
    · obtain rfl : lev = 2 := by omega
      obtain ⟨s1, s2⟩ := I.sn t hb
      rw [if_neg h1, s1, comm_filter _ _ _ (by omega), comm_b k s2]
      rfl
end
end Go.Proofs.Sc
