/- Transactions that run step by step: with fair turns all of them end. -/
import Derived.Test.YtcglflifaniolaaPD
namespace Go.Proofs.Sc
section
variable {lev n K : Nat} {start : Nat → Int} {s : St}

theorem filter_split {α : Type} (p q : α → Bool) : ∀ l : List α, (l.filter p).length = (l.filter (fun x => p x && q x)).length + (l.filter (fun x => p x && !q x)).length
  | [] => rfl
  | a :: l => by
    have ih := filter_split p q l
    cases hp : p a <;> cases hq : q a <;> simp [hp, hq, ih] <;> omega
theorem filter_ext {α : Type} {p q : α → Bool} {l : List α} (h : ∀ x ∈ l, p x = q x) : (l.filter p).length = (l.filter q).length := by rw [List.filter_congr h]
/-- what the search says when it does not find the transaction itself -/
def Clo (n : Nat) (s : St) (t : Nat) (S : Nat → Prop) : Prop := ∀ i, S i → ∀ l, (s.tx i).ended = false → (s.tx i).wants = some l → t ∉ others n s i l ∧ ∀ j ∈ others n s i l, S j
theorem others_lt {i j : Nat} {l : Lk} (h : j ∈ others n s i l) : j < n ∧ j ≠ i ∧ (s.tx j).ended = false := by
  unfold others at h
  obtain ⟨h1, h2⟩ := List.mem_filter.1 h
  rw [Bool.and_eq_true] at h2
  refine ⟨List.mem_range.1 h1, by simpa using h2.1, ?_⟩
  have := h2.2
  unfold blocks at this
  simp only [Bool.and_eq_true, Bool.not_eq_true'] at this
  exact this.1
theorem bfs_clo (t : Nat) : ∀ (f : Nat) (seen : Nat → Bool) (q : List Nat) (Pp : Nat → Prop),
    q.length + ((List.range n).filter (fun j => !seen j)).length ≤ f →
    (∀ i, Pp i → ∀ l, (s.tx i).ended = false → (s.tx i).wants = some l → t ∉ others n s i l ∧ ∀ j ∈ others n s i l, seen j = true) →
    (∀ j, seen j = true → Pp j ∨ j ∈ q) → bfs n s t f seen q = false → ∃ S : Nat → Prop, (∀ i, Pp i ∨ i ∈ q → S i) ∧ Clo n s t S
  | 0, seen, q, Pp, hf, h1, h2, _ => by
    have hq : q = [] := List.eq_nil_of_length_eq_zero (by omega)
    subst hq
    refine ⟨Pp, fun i hi => by simpa using hi, fun i hi l he hw => ⟨(h1 i hi l he hw).1, fun j hj => ?_⟩⟩
    have := h2 j ((h1 i hi l he hw).2 j hj)
    simpa using this
  | f + 1, seen, [], Pp, hf, h1, h2, _ => by
    refine ⟨Pp, fun i hi => by simpa using hi, fun i hi l he hw => ⟨(h1 i hi l he hw).1, fun j hj => ?_⟩⟩
    have := h2 j ((h1 i hi l he hw).2 j hj)
    simpa using this
  | f + 1, seen, i :: q, Pp, hf, h1, h2, hb => by
    rw [bfs] at hb
    have step : ∀ (seen' : Nat → Bool) (q' : List Nat), q'.length + ((List.range n).filter (fun j => !seen' j)).length ≤ f → (∀ j, seen j = true → seen' j = true) → (∀ j, seen' j = true → seen j = true ∨ j ∈ q') → (∀ j ∈ q, j ∈ q') →
        (∀ l, (s.tx i).ended = false → (s.tx i).wants = some l → t ∉ others n s i l ∧ ∀ j ∈ others n s i l, seen' j = true) → bfs n s t f seen' q' = false → ∃ S : Nat → Prop, (∀ x, Pp x ∨ x ∈ i :: q → S x) ∧ Clo n s t S := by
      intro seen' q' g1 g2 g3 g4 g5 g6
      obtain ⟨S, hS1, hS2⟩ := bfs_clo t f seen' q' (fun x => Pp x ∨ x = i) g1 (fun x hx l he hw => by
        rcases hx with hx | rfl
        · exact ⟨(h1 x hx l he hw).1, fun j hj => g2 j ((h1 x hx l he hw).2 j hj)⟩
        · exact g5 l he hw) (fun j hj => by
        rcases g3 j hj with h | h
        · rcases h2 j h with h | h
          · exact .inl (.inl h)
          · rcases List.mem_cons.1 h with h | h
            · exact .inl (.inr h)
            · exact .inr (g4 j h)
        · exact .inr h) g6
      refine ⟨S, fun x hx => hS1 x ?_, hS2⟩
      rcases hx with hx | hx
      · exact .inl (.inl hx)
      · rcases List.mem_cons.1 hx with hx | hx
        · exact .inl (.inr hx)
        · exact .inr (g4 x hx)
    rw [List.length_cons] at hf
    have skip : (∀ l, (s.tx i).ended = false → (s.tx i).wants = some l → False) → bfs n s t f seen q = false → ∃ S : Nat → Prop, (∀ x, Pp x ∨ x ∈ i :: q → S x) ∧ Clo n s t S := fun hno hb =>
      step seen q (by omega) (fun _ h => h) (fun _ h => .inl h) (fun _ h => h) (fun l he hw => (hno l he hw).elim) hb
    cases he : (s.tx i).ended with
    | true =>
      rw [he] at hb
      exact skip (fun l h => by rw [he] at h; cases h) (by simpa using hb)
    | false =>
      cases hw : (s.tx i).wants with
      | none =>
        rw [he, hw] at hb
        exact skip (fun l _ h => by rw [hw] at h; cases h) (by simpa using hb)
      | some l =>
        rw [he, hw] at hb
        simp only at hb
        split at hb
        · cases hb
        · rename_i hc
          refine step _ _ ?_ (fun j h => by simp [h]) (fun j h => ?_) (fun j h => by simp [h]) (fun l' _ hw' => ?_) hb
          · have e1 := filter_split (fun j => !seen j) (fun j => (others n s i l).contains j) (List.range n)
            have e2 : ((others n s i l).filter (fun j => !seen j)).length = ((List.range n).filter (fun x => !seen x && (others n s i l).contains x)).length := by
              conv => lhs; unfold others
              rw [List.filter_filter]
              refine filter_ext fun x hx => ?_
              congr 1
              rw [Bool.eq_iff_iff, List.contains_iff_mem]
              unfold others
              rw [List.mem_filter]
              exact ⟨fun h => ⟨hx, h⟩, fun h => h.2⟩
            have e3 : ((List.range n).filter (fun j => !(seen j || (others n s i l).contains j))).length = ((List.range n).filter (fun x => !seen x && !(others n s i l).contains x)).length := filter_ext fun x _ => by simp
            rw [List.length_append, e2, e3]
            omega
          · simp only [Bool.or_eq_true] at h
            rcases h with h | h
            · exact .inl h
            · rw [List.contains_iff_mem] at h
              cases hs : seen j with
              | true => exact .inl rfl
              | false => right; exact List.mem_append_right _ (List.mem_filter.2 ⟨h, by simp [hs]⟩)
          · rw [hw] at hw'
            cases hw'
            refine ⟨fun h => hc (by rw [List.contains_iff_mem]; exact h), fun j hj => ?_⟩
            rw [Bool.or_eq_true, List.contains_iff_mem]
            exact .inr hj
theorem waits_clo {t : Nat} (h : waits n s t = false) : ∃ S : Nat → Prop, S t ∧ Clo n s t S := by
  have h0 : [t].length + ((List.range n).filter (fun j => !((fun _ => false : Nat → Bool) j))).length ≤ n + 1 := by
    have := List.length_filter_le (fun j => !((fun _ => false : Nat → Bool) j)) (List.range n)
    rw [List.length_range] at this
    rw [List.length_singleton]; omega
  obtain ⟨S, h1, h2⟩ := bfs_clo (s := s) t (n + 1) (fun _ => false) [t] (fun _ => False) h0 (fun _ h => h.elim) (fun _ h => by cases h) h
  exact ⟨S, h1 t (.inr (by simp)), h2⟩

/-- nobody waits in a circle that the last one of it would have seen -/
theorem no_circle (O : Nat → List Nat) (live : Nat → Prop) (hS : ∀ u, u < n → live u → ∃ S : Nat → Prop, S u ∧ ∀ i, i ≤ u → live i → S i → u ∉ O i ∧ ∀ j ∈ O i, S j) (hne : ∀ u, u < n → live u → O u ≠ []) :
    ∀ m, m ≤ n → ∀ T : Nat → Prop, (∀ i, T i → i < m ∧ live i ∧ ∀ j ∈ O i, T j) → ∀ i, ¬ T i
  | 0, _, T, h, i, hi => by have := (h i hi).1; omega
  | m + 1, hm, T, h, i, hi => by
    by_cases hT : T m
    · obtain ⟨_, hl, hcl⟩ := h m hT
      obtain ⟨S, hSm, hSc⟩ := hS m (by omega) hl
      obtain ⟨j, hj⟩ := List.exists_mem_of_ne_nil _ (hne m (by omega) hl)
      obtain ⟨h1, h2⟩ := hSc m (Nat.le_refl _) hl hSm
      refine no_circle O live hS hne m (by omega) (fun x => T x ∧ S x ∧ x ≠ m) (fun x hx => ?_) j ⟨hcl j hj, h2 j hj, fun e => h1 (e ▸ hj)⟩
      obtain ⟨a1, a2, a3⟩ := h x hx.1
      obtain ⟨b1, b2⟩ := hSc x (by omega) a2 hx.2.1
      exact ⟨by have := hx.2.2; omega, a2, fun y hy => ⟨a3 y hy, b2 y hy, fun e => b1 (e ▸ hy)⟩⟩
    · refine no_circle O live hS hne m (by omega) T (fun x hx => ?_) i hi
      obtain ⟨a1, a2, a3⟩ := h x hx
      have : x ≠ m := fun e => hT (e ▸ hx)
      exact ⟨by omega, a2, a3⟩

/-! ### a round -/
def remT (x : Tx) : Nat := if x.ended then 0 else x.steps.length - x.at_
def sumN (f : Nat → Nat) : Nat → Nat
  | 0 => 0
  | m + 1 => sumN f m + f m
theorem sumN_le {f g : Nat → Nat} : ∀ m, (∀ u, u < m → f u ≤ g u) → sumN f m ≤ sumN g m
  | 0, _ => Nat.le_refl _
  | m + 1, h => Nat.add_le_add (sumN_le m fun u hu => h u (by omega)) (h m (by omega))
theorem sumN_lt {f g : Nat → Nat} {t : Nat} : ∀ m, (∀ u, u < m → f u ≤ g u) → t < m → f t < g t → sumN f m < sumN g m
  | 0, _, h, _ => by omega
  | m + 1, h, ht, hlt => by
    have h1 := h m (by omega)
    show sumN f m + f m < sumN g m + g m
    by_cases e : t = m
    · subst e
      have := sumN_le t fun u hu => h u (by omega)
      omega
    · have := sumN_lt m (fun u hu => h u (by omega)) (by omega) hlt
      omega
/-- a turn changes the transaction alone; it gets on, or it waits, for others, and not for itself -/
def Waits (n : Nat) (s s' : St) (t : Nat) : Prop :=
  ∃ l, others n s t l ≠ [] ∧ (s'.tx t).wants = some l ∧ (s'.tx t).steps = (s.tx t).steps ∧ (s'.tx t).at_ = (s.tx t).at_ ∧ (s'.tx t).ended = (s.tx t).ended ∧ (s'.tx t).sh = (s.tx t).sh ∧ (s'.tx t).ex = (s.tx t).ex ∧ waits n s' t = false
theorem others_same {s s' : St} (h : ∀ i, i < n → (s'.tx i).ended = (s.tx i).ended ∧ (s'.tx i).sh = (s.tx i).sh ∧ (s'.tx i).ex = (s.tx i).ex) (t : Nat) (l : Lk) : others n s' t l = others n s t l := by
  unfold others
  refine List.filter_congr fun i hi => ?_
  obtain ⟨h1, h2, h3⟩ := h i (List.mem_range.1 hi)
  unfold blocks
  rw [h1, h2, h3]
theorem act_other (s : St) {t u : Nat} (h : u ≠ t) (p : Sp) : (actT lev K start s t p).tx u = s.tx u := by
  have he : ∀ s : St, (endT s t).tx u = s.tx u := fun s => upd_ne _ _ h
  unfold actT doneT
  split
  · rfl
  · split
    · rfl
    · split
      · rfl
      · split
        · exact he s
        · split
          · split <;> exact he s
          · rfl
theorem go_other (s : St) {t u : Nat} (h : u ≠ t) : (goT lev K start s t).tx u = s.tx u := by
  unfold goT; rw [act_other _ h]; exact upd_ne _ _ h
theorem begin_other (s : St) {t u : Nat} (h : u ≠ t) : (beginT s t).tx u = s.tx u := by
  unfold beginT; split
  · rfl
  · exact upd_ne _ _ h
theorem turn_other (s : St) {t u : Nat} (h : u ≠ t) : (turnT lev n K start s t).tx u = s.tx u := by
  unfold turnT
  rw [← begin_other s h]
  generalize beginT s t = s
  unfold tryT
  split
  · exact go_other s h
  · rename_i l _
    have hw : (wantL s t l).tx u = s.tx u := upd_ne _ _ h
    split
    · rw [go_other _ h]; exact upd_ne _ _ h
    · split
      · exact (upd_ne _ _ h).trans hw
      · exact hw
theorem go_rem (I : Inv lev n K start s) (L : Lv n s) {t : Nat} (ht : t < n) (hn : (s.tx t).ended = false) : remT ((goT lev K start s t).tx t) < remT (s.tx t) := by
  have hlt := L t ht hn
  have h0 : remT (s.tx t) = (s.tx t).steps.length - (s.tx t).at_ := by unfold remT; rw [hn]; simp
  have he : ∀ s : St, remT ((endT s t).tx t) = 0 := fun s => by
    unfold remT; rw [(endT_tx s t t).2.2.2.2.2.2]; simp
  rcases (I.stp t ht).step hlt ⟨0, 0, 0⟩ with ⟨k1, k2, k3, k4⟩ | ⟨k1, k2⟩
  · change 1 ≤ (stepOf (s.tx t)).kind at k1
    change (stepOf (s.tx t)).kind ≤ 3 at k2
    have : (goT lev K start s t).tx t = (bump s t).tx t := by
      unfold goT actT
      split
      · rfl
      · split
        · rfl
        · rw [if_pos (by omega)]; rfl
    rw [this, h0]
    obtain ⟨b1, _, b3, _, _, b6⟩ := bump_tx s t t
    unfold remT
    rw [b3, hn, b1, b6]
    simp
    omega
  · change (stepOf (s.tx t)).kind = 4 ∨ (stepOf (s.tx t)).kind = 5 at k1
    have : remT ((goT lev K start s t).tx t) = 0 := by
      unfold goT actT doneT
      rw [if_neg (by omega), if_neg (by omega), if_neg (by omega)]
      split
      · exact he _
      · split
        · split <;> exact he _
        · omega
    omega
theorem turn_rem (I : Inv lev n K start s) (L : Lv n s) {t : Nat} (ht : t < n) (hn : (s.tx t).ended = false) : remT ((turnT lev n K start s t).tx t) < remT (s.tx t) ∨ Waits n s (turnT lev n K start s t) t := by
  have hb := begin_same s t
  have e0 : remT (s.tx t) = remT ((beginT s t).tx t) := by
    obtain ⟨h1, h2, h3, _⟩ := hb t
    unfold remT; rw [h1, h2, h3]
  have I1 := I.begin ht
  have L1 := begin_lv (t := t) L
  have hn1 : ((beginT s t).tx t).ended = false := by rw [(hb t).2.2.1]; exact hn
  have ho : ∀ l, others n (beginT s t) t l = others n s t l := fun l => others_same (fun i _ => ⟨(hb i).2.2.1, (hb i).2.2.2.1, (hb i).2.2.2.2.1⟩) t l
  have hpos := L1 t ht hn1
  rw [e0]
  have hsame := hb t
  unfold turnT
  generalize beginT s t = s1 at *
  unfold tryT
  split
  · exact .inl (go_rem I1 L1 ht hn1)
  · rename_i l hnd
    by_cases h : others n s1 t l = []
    · rw [if_pos h]
      left
      have htk := take_tx s1 t l
      have : remT (s1.tx t) = remT ((takeL s1 t l).tx t) := by
        obtain ⟨h1, _, h3, h4⟩ := htk t
        unfold remT; rw [h1, h3, h4]
      rw [this]
      exact go_rem (I1.take ht h) (fun u hu he => by
        obtain ⟨h1, _, h3, h4⟩ := htk u
        rw [h1, h4]; rw [h3] at he; exact L1 u hu he) ht (by rw [(htk t).2.2.1]; exact hn1)
    · rw [if_neg h]
      have hw := want_tx s1 t l t
      split
      · left
        have : remT ((abortT (wantL s1 t l) t).tx t) = 0 := by
          show remT ((endT (wantL s1 t l) t).tx t) = 0
          unfold remT; rw [(endT_tx _ t t).2.2.2.2.2.2]; simp
        rw [this]
        unfold remT
        rw [hn1]
        simp
        omega
      · rename_i hwt
        right
        obtain ⟨c1, _, c3, c4, c5, c6, c7⟩ := hw
        rw [if_pos rfl] at c7
        obtain ⟨d1, d2, d3, d4, d5, _⟩ := hsame
        exact ⟨l, by rw [← ho]; exact h, c7, c1.trans d1, c4.trans d2, c3.trans d3, c5.trans d4, c6.trans d5, by simpa using hwt⟩
def sig (lev n K : Nat) (start : Nat → Int) (s : St) (m : Nat) : St := turns lev n K start s ((List.range m).map fun (t : Nat) => (t : Int))
theorem sig_succ (lev n K : Nat) (start : Nat → Int) (s : St) (m : Nat) : sig lev n K start s (m + 1) = turn1 lev n K start (sig lev n K start s m) (m : Int) := by
  unfold sig turns
  rw [List.range_succ, List.map_append, List.foldl_append]; rfl
def rem (n : Nat) (s : St) : Nat := sumN (fun t => remT (s.tx t)) n
theorem turn1_tx (s : St) (m u : Nat) (h : u ≠ m) : (turn1 lev n K start s (m : Int)).tx u = s.tx u := by
  unfold turn1
  split
  · rw [Int.toNat_natCast]; exact turn_other s h
  · rfl
theorem sig_after (s : St) (m : Nat) (u : Nat) (hu : m ≤ u) : (sig lev n K start s m).tx u = s.tx u := by
  induction m with
  | zero => rfl
  | succ m ih => rw [sig_succ, turn1_tx _ m u (by omega), ih (by omega)]
/-- in a round some transaction gets on -/
theorem round_rem (h123 : 1 ≤ lev ∧ lev ≤ 3) (I : Inv lev n K start s) (L : Lv n s) {t0 : Nat} (ht0 : t0 < n) (hn0 : (s.tx t0).ended = false) : rem n (sig lev n K start s n) < rem n s := by
  have hIL : ∀ m, Inv lev n K start (sig lev n K start s m) ∧ Lv n (sig lev n K start s m) := fun m => Inv.trns h123 _ _ I L
  -- each turn: the transaction is left as it is, or gets on, or waits
  have hst : ∀ m, m < n → (sig lev n K start s (m + 1) = sig lev n K start s m ∧ ((sig lev n K start s m).tx m).ended = true) ∨ (((sig lev n K start s m).tx m).ended = false ∧ remT ((sig lev n K start s (m + 1)).tx m) < remT ((sig lev n K start s m).tx m)) ∨
      (((sig lev n K start s m).tx m).ended = false ∧ Waits n (sig lev n K start s m) (sig lev n K start s (m + 1)) m) := fun m hm => by
    rw [sig_succ]
    unfold turn1
    rw [Int.toNat_natCast]
    cases he : ((sig lev n K start s m).tx m).ended with
    | true => left; rw [if_neg (by simp)]; exact ⟨rfl, rfl⟩
    | false =>
      rw [if_pos ⟨by omega, by omega, rfl⟩]
      rcases turn_rem (hIL m).1 (hIL m).2 hm he with h | h
      · exact .inr (.inl ⟨rfl, h⟩)
      · exact .inr (.inr ⟨rfl, h⟩)
  have hmono1 : ∀ m, m < n → ∀ u, u < n → remT ((sig lev n K start s (m + 1)).tx u) ≤ remT ((sig lev n K start s m).tx u) := fun m hm u hu => by
    by_cases h : u = m
    · subst h
      rcases hst u hm with h | h | h
      · rw [h.1]; exact Nat.le_refl _
      · exact Nat.le_of_lt h.2
      · obtain ⟨_, l, _, _, h1, h2, h3, _⟩ := h
        unfold remT; rw [h1, h2, h3]; exact Nat.le_refl _
    · rw [sig_succ, turn1_tx _ m u h]; exact Nat.le_refl _
  have hmono : ∀ d m, m + d ≤ n → rem n (sig lev n K start s (m + d)) ≤ rem n (sig lev n K start s m) := fun d => by
    induction d with
    | zero => intro m _; exact Nat.le_refl _
    | succ d ih =>
      intro m hm
      refine Nat.le_trans ?_ (ih m (by omega))
      rw [← Nat.add_assoc]
      exact sumN_le n fun u hu => hmono1 (m + d) (by omega) u hu
  -- if one gets on, we are done
  by_cases hp : ∃ m, m < n ∧ ((sig lev n K start s m).tx m).ended = false ∧ remT ((sig lev n K start s (m + 1)).tx m) < remT ((sig lev n K start s m).tx m)
  · obtain ⟨m, hm, _, hlt⟩ := hp
    have h1 := hmono (n - (m + 1)) (m + 1) (by omega)
    rw [show m + 1 + (n - (m + 1)) = n by omega] at h1
    have h2 : rem n (sig lev n K start s (m + 1)) < rem n (sig lev n K start s m) := sumN_lt n (fun u hu => hmono1 m hm u hu) hm hlt
    have h3 := hmono m 0 (by omega)
    rw [Nat.zero_add] at h3
    have h4 : sig lev n K start s 0 = s := rfl
    rw [h4] at h3
    omega
  · exfalso
    have hw : ∀ m, m < n → (sig lev n K start s (m + 1) = sig lev n K start s m ∧ ((sig lev n K start s m).tx m).ended = true) ∨ (((sig lev n K start s m).tx m).ended = false ∧ Waits n (sig lev n K start s m) (sig lev n K start s (m + 1)) m) := fun m hm => by
      rcases hst m hm with h | h | h
      · exact .inl h
      · exact absurd ⟨m, hm, h.1, h.2⟩ hp
      · exact .inr h
    have hsame : ∀ m, m ≤ n → ∀ u, ((sig lev n K start s m).tx u).ended = (s.tx u).ended ∧ ((sig lev n K start s m).tx u).sh = (s.tx u).sh ∧ ((sig lev n K start s m).tx u).ex = (s.tx u).ex := fun m => by
      induction m with
      | zero => intro _ u; exact ⟨rfl, rfl, rfl⟩
      | succ m ih =>
        intro hm u
        obtain ⟨i1, i2, i3⟩ := ih (by omega) u
        by_cases h : u = m
        · subst h
          rcases hw u (by omega) with h | h
          · rw [h.1]; exact ⟨i1, i2, i3⟩
          · obtain ⟨_, l, _, _, _, _, h3, h4, h5, _⟩ := h
            exact ⟨h3.trans i1, h4.trans i2, h5.trans i3⟩
        · rw [sig_succ, turn1_tx _ m u h]; exact ⟨i1, i2, i3⟩
    have hoth : ∀ m, m ≤ n → ∀ t l, others n (sig lev n K start s m) t l = others n s t l := fun m hm t l => others_same (fun i _ => hsame m hm i) t l
    have hkeep : ∀ d u, u < n → u + 1 + d ≤ n → (sig lev n K start s (u + 1 + d)).tx u = (sig lev n K start s (u + 1)).tx u := fun d u hu => by
      induction d with
      | zero => intro _; rfl
      | succ d ih =>
        intro hd
        rw [← Nat.add_assoc, sig_succ, turn1_tx _ _ u (by omega)]
        exact ih (by omega)
    have hl : ∀ u, u < n → (s.tx u).ended = false → ∃ l, ((sig lev n K start s n).tx u).wants = some l ∧ others n s u l ≠ [] ∧ waits n (sig lev n K start s (u + 1)) u = false := fun u hu he => by
      rcases hw u hu with h | h
      · rw [(hsame u (by omega) u).1, he] at h; cases h.2
      · obtain ⟨_, l, h1, h2, _, _, _, _, _, h8⟩ := h
        have := hkeep (n - (u + 1)) u hu (by omega)
        rw [show u + 1 + (n - (u + 1)) = n by omega] at this
        exact ⟨l, by rw [this]; exact h2, by rw [← hoth u (by omega)]; exact h1, h8⟩
    let O : Nat → List Nat := fun u => match ((sig lev n K start s n).tx u).wants with
      | some l => others n s u l | none => []
    have hO : ∀ u l, ((sig lev n K start s n).tx u).wants = some l → O u = others n s u l := fun u l h => by
      show (match ((sig lev n K start s n).tx u).wants with | some l => others n s u l | none => []) = _
      rw [h]
    refine no_circle (n := n) O (fun u => u < n ∧ (s.tx u).ended = false) (fun u hu he => ?_) (fun u hu he => ?_) n (Nat.le_refl _) (fun u => u < n ∧ (s.tx u).ended = false) (fun i hi => ⟨hi.1, hi, fun j hj => ?_⟩) t0 ⟨ht0, hn0⟩
    · obtain ⟨_, _, _, h3⟩ := hl u hu he.2
      obtain ⟨S, hS1, hS2⟩ := waits_clo h3
      refine ⟨S, hS1, fun i hi hli hSi => ?_⟩
      obtain ⟨l, h1, _, _⟩ := hl i hli.1 hli.2
      have e : (sig lev n K start s (u + 1)).tx i = (sig lev n K start s n).tx i := by
        have a1 := hkeep (u - i) i hli.1 (by omega)
        have a2 := hkeep (n - (i + 1)) i hli.1 (by omega)
        rw [show i + 1 + (u - i) = u + 1 by omega] at a1
        rw [show i + 1 + (n - (i + 1)) = n by omega] at a2
        rw [a1, a2]
      have := hS2 i hSi l (by rw [(hsame (u + 1) (by omega) i).1]; exact hli.2) (by rw [e]; exact h1)
      rw [hoth (u + 1) (by omega)] at this
      rw [hO i l h1]
      exact this
    · obtain ⟨l, h1, h2, _⟩ := hl u hu he.2
      rw [hO u l h1]; exact h2
    · obtain ⟨l, h1, _, _⟩ := hl i hi.1 hi.2
      rw [hO i l h1] at hj
      obtain ⟨h2, _, h3⟩ := others_lt hj
      exact ⟨h2, h3⟩

/-! ### rounds -/
def fairL (n : Nat) : Nat → List Int
  | 0 => []
  | r + 1 => fairL n r ++ (List.range n).map fun (t : Nat) => (t : Int)
theorem turns_append (a b : List Int) : turns lev n K start s (a ++ b) = turns lev n K start (turns lev n K start s a) b := by unfold turns; rw [List.foldl_append]
theorem turns_ended (h : ∀ t, t < n → (s.tx t).ended = true) : ∀ o : List Int, turns lev n K start s o = s
  | [] => rfl
  | t :: o => by
    show turns lev n K start (turn1 lev n K start s t) o = s
    have : turn1 lev n K start s t = s := by
      unfold turn1
      rw [if_neg]
      intro ⟨h1, h2, h3⟩
      rw [h t.toNat (by omega)] at h3
      cases h3
    rw [this]
    exact turns_ended h o
theorem rounds_end (h123 : 1 ≤ lev ∧ lev ≤ 3) (I : Inv lev n K start s) (L : Lv n s) : ∀ r, rem n (turns lev n K start s (fairL n r)) + r ≤ rem n s ∨ ∀ t, t < n → ((turns lev n K start s (fairL n r)).tx t).ended = true
  | 0 => .inl (Nat.le_refl _)
  | r + 1 => by
    obtain ⟨I', L'⟩ := Inv.trns h123 (fairL n r) s I L
    show rem n (turns lev n K start s (fairL n r ++ _)) + (r + 1) ≤ rem n s ∨ ∀ t, t < n → ((turns lev n K start s (fairL n r ++ _)).tx t).ended = true
    rw [turns_append]
    by_cases hall : ∀ t, t < n → ((turns lev n K start s (fairL n r)).tx t).ended = true
    · right
      rw [turns_ended hall]; exact hall
    · left
      have hex : ∃ t, t < n ∧ ((turns lev n K start s (fairL n r)).tx t).ended = false := by
        refine Classical.byContradiction fun hno => hall fun t ht => ?_
        cases h : ((turns lev n K start s (fairL n r)).tx t).ended with
        | true => rfl
        | false => exact absurd ⟨t, ht, h⟩ hno
      obtain ⟨t, ht, hn⟩ := hex
      have h1 := round_rem h123 I' L' ht hn
      rcases rounds_end h123 I L r with h | h
      · unfold sig at h1; omega
      · rw [h t ht] at hn; cases hn
theorem fair_end {lev : Nat} {start : List Int} {P : List (List Sp)} {r r' : Nat} (h123 : 1 ≤ lev ∧ lev ≤ 3) (hP : ∀ p ∈ P, PMade start.length p) (hL : ∀ p ∈ P, p.length ≤ 5 ∧ (wholeP p).length ≤ 5) (hr : P.length * 5 < r) (hrr : r ≤ r') :
    runS lev start P (fairL P.length r') = runS lev start P (fairL P.length r) := by
  have h0 : ∀ t, t < P.length → SOk start.length ((P.map wholeP).getD t []) := fun t ht => by
    rw [map_getD P t ht]
    refine whole_ok (hP _ ?_)
    rw [List.getD_eq_getElem?_getD, List.getElem?_eq_getElem ht]
    exact List.getElem_mem ht
  obtain ⟨I0, L0⟩ := inv0 (lev := lev) (start := fun k => start.getD k 0) h0
  have hrem : ∀ m, m ≤ P.length → sumN (fun t => remT ((st0 (P.map wholeP)).tx t)) m ≤ m * 5 := fun m => by
    induction m with
    | zero => intro _; exact Nat.le_refl _
    | succ m ih =>
      intro hm
      have h1 := ih (by omega)
      show sumN _ m + remT (tx0 ((P.map wholeP).getD m [])) ≤ (m + 1) * 5
      have h2 : remT (tx0 ((P.map wholeP).getD m [])) ≤ 5 := by
        show ((P.map wholeP).getD m []).length - 0 ≤ 5
        rw [map_getD P m (by omega), List.getD_eq_getElem?_getD, List.getElem?_eq_getElem (by omega)]
        have := (hL _ (List.getElem_mem (by omega : m < P.length))).2
        simp only [Option.getD_some]
        omega
      omega
  have hall : ∀ t, t < P.length → ((turns lev P.length start.length (fun k => start.getD k 0) (st0 (P.map wholeP)) (fairL P.length r)).tx t).ended = true := by
    rcases rounds_end h123 I0 L0 r with h | h
    · have := hrem P.length (Nat.le_refl _)
      unfold rem at h
      omega
    · exact h
  have hext : ∀ d, turns lev P.length start.length (fun k => start.getD k 0) (st0 (P.map wholeP)) (fairL P.length (r + d)) = turns lev P.length start.length (fun k => start.getD k 0) (st0 (P.map wholeP)) (fairL P.length r) := fun d => by
    induction d with
    | zero => rfl
    | succ d ih =>
      rw [← Nat.add_assoc]
      show turns lev _ _ _ _ (fairL P.length (r + d) ++ _) = _
      rw [turns_append, ih, turns_ended hall]
  unfold runS
  have := hext (r' - r)
  rw [show r + (r' - r) = r' by omega] at this
  rw [this]
end
end Go.Proofs.Sc
