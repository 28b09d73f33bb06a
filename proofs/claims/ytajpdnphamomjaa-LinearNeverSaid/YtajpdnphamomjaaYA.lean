/- Plain law: choosing the least variables, the search never comes back to where it was. -/
import Derived.Test.YtajpdnphamomjaaXP
namespace Go.Proofs.Ytajpdnphamomjaa

def Bas (M : Nat) (b : Nat → Nat) (j : Nat) : Prop := ∃ i, i < M ∧ b i = j
def aim (lo hi : Nat → Rat) (j : Nat) (below : Bool) : Rat := if below = true then lo j else hi j
/-- a step that chooses the least variables -/
structure BStep (N M : Nat) (lo hi : Nat → Rat) (a : Nat → Nat → Rat) (v : Nat → Rat) (b : Nat → Nat) (v' : Nat → Rat) (b' : Nat → Nat) (row k : Nat) (below : Bool) : Prop where
  hr : row < M
  hk : k < N
  vio : if below = true then v (b row) < lo (b row) else hi (b row) < v (b row)
  least : ∀ i, i < M → v (b i) < lo (b i) ∨ hi (b i) < v (b i) → b row ≤ b i
  nz : a row k ≠ 0
  kb : ∀ i, i < M → b i ≠ k
  room : if decide (0 < a row k) = below then v k < hi k else lo k < v k
  kleast : ∀ k', k' < k → a row k' ≠ 0 → k' ≠ b row → ¬ (if decide (0 < a row k') = below then v k' < hi k' else lo k' < v k')
  mv : Moved M a v b row k (aim lo hi (b row) below) v'
  nb : ∀ i, i < M → b' i = nbas b row k i
structure BSeq (N M : Nat) (a0 : Nat → Nat → Rat) (b0 : Nat → Nat) (lo hi : Nat → Rat) (c : Nat) (a : Nat → Nat → Nat → Rat) (v : Nat → Nat → Rat) (b : Nat → Nat → Nat) (rw kk : Nat → Nat) (bl : Nat → Bool) : Prop where
  ti : ∀ i, i ≤ c → TI N M a0 b0 lo hi (a i) (v i) (b i)
  st : ∀ i, i < c → BStep N M lo hi (a i) (v i) (b i) (v (i + 1)) (b (i + 1)) (rw i) (kk i) (bl i)

theorem sm_le_lt {f g : Nat → Rat} {r : Nat} : ∀ {n : Nat}, (∀ k, k < n → f k ≤ g k) → r < n → f r < g r → sm f n < sm g n
  | 0, _, h, _ => by omega
  | n + 1, h, hr, hlt => by
    show sm f n + f n < sm g n + g n
    have h2 := h n (by omega)
    by_cases e : r = n
    · subst e
      have h1 := sm_le (n := r) fun k hk => h k (by omega)
      grind
    · have h1 := sm_le_lt (n := n) (fun k hk => h k (by omega)) (by omega) hlt
      grind
section
variable {N M : Nat} {a0 : Nat → Nat → Rat} {b0 : Nat → Nat} {lo hi : Nat → Rat} {c : Nat} {a : Nat → Nat → Nat → Rat} {v : Nat → Nat → Rat} {b : Nat → Nat → Nat} {rw kk : Nat → Nat} {bl : Nat → Bool}
theorem BSeq.bas (S : BSeq N M a0 b0 lo hi c a v b rw kk bl) {i : Nat} (hi' : i < c) (j : Nat) : Bas M (b (i + 1)) j ↔ (Bas M (b i) j ∧ j ≠ b i (rw i)) ∨ j = kk i := by
  have st := S.st i hi'
  have I := S.ti i (by omega)
  constructor
  · rintro ⟨q, hq, e⟩
    have := st.nb q hq
    unfold nbas at this
    rw [e] at this
    by_cases h : q = rw i
    · rw [if_pos h] at this; exact .inr this
    · rw [if_neg h] at this
      exact .inl ⟨⟨q, hq, this.symm⟩, fun e2 => h (I.inj q (rw i) hq st.hr (by rw [← this, e2]))⟩
  · rintro (⟨⟨q, hq, e⟩, hne⟩ | e)
    · refine ⟨q, hq, ?_⟩
      rw [st.nb q hq]
      unfold nbas
      rw [if_neg (fun h => hne (by rw [← e, h])), e]
    · refine ⟨rw i, st.hr, ?_⟩
      rw [st.nb _ st.hr]
      unfold nbas
      rw [if_pos rfl, e]
theorem BSeq.keep (S : BSeq N M a0 b0 lo hi c a v b rw kk bl) {i j : Nat} (hi' : i < c) (hn : ¬ Bas M (b i) j) (hk : j ≠ kk i) : ¬ Bas M (b (i + 1)) j ∧ v (i + 1) j = v i j := by
  refine ⟨fun h => ?_, (S.st i hi').mv.oth j hk fun q hq e => hn ⟨q, hq, e⟩⟩
  rcases (S.bas hi' j).1 h with h | h
  · exact hn h.1
  · exact hk h
theorem BSeq.leave (S : BSeq N M a0 b0 lo hi c a v b rw kk bl) {i j : Nat} (hi' : i < c) (hb : Bas M (b i) j) (hn : ¬ Bas M (b (i + 1)) j) : j = b i (rw i) ∧ v (i + 1) j = aim lo hi j (bl i) := by
  have e : j = b i (rw i) := Classical.byContradiction fun h => hn ((S.bas hi' j).2 (.inl ⟨hb, h⟩))
  exact ⟨e, by rw [e]; exact (S.st i hi').mv.out⟩
theorem BSeq.out (S : BSeq N M a0 b0 lo hi c a v b rw kk bl) {i : Nat} (hi' : i < c) : Bas M (b i) (b i (rw i)) ∧ ¬ Bas M (b (i + 1)) (b i (rw i)) := by
  have st := S.st i hi'
  refine ⟨⟨rw i, st.hr, rfl⟩, fun h => ?_⟩
  rcases (S.bas hi' _).1 h with h | h
  · exact h.2 rfl
  · exact st.kb _ st.hr h
/-- one that is not basic has not moved, or has left -/
theorem BSeq.past (S : BSeq N M a0 b0 lo hi c a v b rw kk bl) {s j : Nat} : ∀ d, s + d ≤ c → ¬ Bas M (b (s + d)) j →
    (¬ Bas M (b s) j ∧ v (s + d) j = v s j) ∨ ∃ t, s ≤ t ∧ t < s + d ∧ j = b t (rw t) ∧ v (s + d) j = aim lo hi j (bl t)
  | 0, _, h => .inl ⟨h, rfl⟩
  | d + 1, hd, h => by
    rw [← Nat.add_assoc] at h ⊢
    by_cases hb : Bas M (b (s + d)) j
    · obtain ⟨h1, h2⟩ := S.leave (by omega) hb h
      exact .inr ⟨s + d, by omega, by omega, h1, h2⟩
    · have hk : j ≠ kk (s + d) := fun e => h ((S.bas (by omega) j).2 (.inr e))
      obtain ⟨_, h1⟩ := S.keep (by omega) hb hk
      rcases S.past d (by omega) hb with ⟨h2, h3⟩ | ⟨t, h2, h3, h4, h5⟩
      · exact .inl ⟨h2, h1.trans h3⟩
      · exact .inr ⟨t, h2, by omega, h4, h1.trans h5⟩
theorem BSeq.stay (S : BSeq N M a0 b0 lo hi c a v b rw kk bl) {s j : Nat} (hn : ¬ Bas M (b s) j) : ∀ d, s + d ≤ c → (∀ i, s ≤ i → i < s + d → kk i ≠ j) → ¬ Bas M (b (s + d)) j ∧ v (s + d) j = v s j
  | 0, _, _ => ⟨hn, rfl⟩
  | d + 1, hd, h => by
    obtain ⟨h1, h2⟩ := S.stay hn d (by omega) fun i h1 h2 => h i h1 (by omega)
    obtain ⟨h3, h4⟩ := S.keep (i := s + d) (by omega) h1 (Ne.symm (h (s + d) (by omega) (by omega)))
    exact ⟨h3, h4.trans h2⟩
theorem max_of {F : Nat → Prop} : ∀ m, (∃ j, F j ∧ j < m) → ∃ r, F r ∧ r < m ∧ ∀ j, F j → j < m → j ≤ r
  | 0, ⟨_, _, h⟩ => by omega
  | m + 1, h => by
    by_cases hm : F m
    · exact ⟨m, hm, by omega, fun j _ hj => by omega⟩
    · obtain ⟨j, h1, h2⟩ := h
      obtain ⟨r, h3, h4, h5⟩ := max_of m ⟨j, h1, by
        rcases Nat.lt_or_ge j m with h | h
        · exact h
        · have : j = m := by omega
          subst this; exact absurd h1 hm⟩
      refine ⟨r, h3, by omega, fun j hj hjm => ?_⟩
      rcases Nat.lt_or_ge j m with h | h
      · exact h5 j hj h
      · have : j = m := by omega
        subst this; exact absurd hj hm
/-- never the same basis with the same values besides -/
theorem BSeq.never (S : BSeq N M a0 b0 lo hi c a v b rw kk bl) {s e : Nat} (hse : s < e) (he : e ≤ c) (hB : ∀ j, Bas M (b s) j ↔ Bas M (b e) j) (hV : ∀ j, j < N → ¬ Bas M (b s) j → v s j = v e j) : False := by
  -- what enters
  have hF : ∃ j, (∃ i, s ≤ i ∧ i < e ∧ kk i = j) ∧ j < N := ⟨kk s, ⟨s, by omega, hse, rfl⟩, (S.st s (by omega)).hk⟩
  obtain ⟨r, ⟨t', ht1, ht2, htk⟩, hrN, hmax0⟩ := max_of N hF
  have hmax : ∀ i, s ≤ i → i < e → kk i ≤ r := fun i h1 h2 => hmax0 _ ⟨i, h1, h2, rfl⟩ (S.st i (by omega)).hk
  -- what leaves enters
  have hout : ∀ t, s ≤ t → t < e → ∃ i, s ≤ i ∧ i < e ∧ kk i = b t (rw t) := fun t h1 h2 => by
    refine Classical.byContradiction fun hno => ?_
    have hno' : ∀ i, s ≤ i → i < e → kk i ≠ b t (rw t) := fun i h3 h4 h5 => hno ⟨i, h3, h4, h5⟩
    obtain ⟨o1, o2⟩ := S.out (i := t) (by omega)
    have q1 := (S.stay o2 (e - (t + 1)) (by omega) fun i h3 h4 => hno' i (by omega) (by omega)).1
    rw [show t + 1 + (e - (t + 1)) = e by omega] at q1
    have q2 : ¬ Bas M (b s) (b t (rw t)) := fun h => q1 ((hB _).1 h)
    have q3 := (S.stay q2 (t - s) (by omega) fun i h3 h4 => hno' i (by omega) (by omega)).1
    rw [show s + (t - s) = t by omega] at q3
    exact q3 o1
  have st' := S.st t' (by omega)
  have I' := S.ti t' (by omega)
  have hrn : ¬ Bas M (b t') r := fun ⟨i, h1, h2⟩ => st'.kb i h1 (by rw [h2, htk])
  -- a time at which r has left
  obtain ⟨t, hts, hte, hto, htv⟩ : ∃ t, s ≤ t ∧ t < e ∧ r = b t (rw t) ∧ v t' r = aim lo hi r (bl t) := by
    have p1 := S.past (s := s) (j := r) (t' - s) (by omega) (by rw [show s + (t' - s) = t' by omega]; exact hrn)
    rw [show s + (t' - s) = t' by omega] at p1
    rcases p1 with ⟨h1, h2⟩ | ⟨t, h1, h2, h3, h4⟩
    · have hne : ¬ Bas M (b e) r := fun h => h1 ((hB r).2 h)
      have p2 := S.past (s := t' + 1) (j := r) (e - (t' + 1)) (by omega) (by rw [show t' + 1 + (e - (t' + 1)) = e by omega]; exact hne)
      rw [show t' + 1 + (e - (t' + 1)) = e by omega] at p2
      rcases p2 with ⟨h3, _⟩ | ⟨t, h3, h4, h5, h6⟩
      · exact absurd ((S.bas (by omega) r).2 (.inr htk.symm)) h3
      · exact ⟨t, by omega, h4, h5, by rw [h2, hV r hrN h1]; exact h6⟩
    · exact ⟨t, h1, by omega, h3, h4⟩
  have st := S.st t (by omega)
  have I := S.ti t (by omega)
  -- below r all is within bounds at t
  have hin : ∀ j, j < N → j < r → lo j ≤ v t j ∧ v t j ≤ hi j := fun j hjN hj => by
    by_cases hb : Bas M (b t) j
    · obtain ⟨i, h1, rfl⟩ := hb
      have hn : ¬ (v t (b t i) < lo (b t i) ∨ hi (b t i) < v t (b t i)) := fun h => by have := st.least i h1 h; omega
      exact ⟨Rat.not_lt.1 fun q => hn (.inl q), Rat.not_lt.1 fun q => hn (.inr q)⟩
    · exact I.bnd j hjN fun i h1 h2 => hb ⟨i, h1, h2⟩
  -- the one that leaves at t'
  have hpb := I'.lt (rw t') st'.hr
  have hpr : b t' (rw t') < r := by
    obtain ⟨i, h1, h2, h3⟩ := hout t' ht1 ht2
    have h4 := hmax i h1 h2
    have h5 : b t' (rw t') ≠ r := fun h => st'.kb (rw t') st'.hr (by rw [h, htk])
    omega
  -- the row at t' holds of both
  have e1 := I'.sat (rw t') st'.hr
  have e2 := (I'.eqv (v t)).2 ((I.eqv (v t)).1 I.sat) (rw t') st'.hr
  have hpin := hin _ hpb hpr
  -- what did not enter has one value
  have hfix : ∀ j, ¬ Bas M (b t') j → (∀ i, s ≤ i → i < e → kk i ≠ j) → v t j = v t' j := fun j hj hno => by
    have p1 := S.past (s := s) (j := j) (t' - s) (by omega) (by rw [show s + (t' - s) = t' by omega]; exact hj)
    rw [show s + (t' - s) = t' by omega] at p1
    rcases p1 with ⟨h1, h2⟩ | ⟨q, h1, h2, h3, _⟩
    · have p2 := (S.stay h1 (t - s) (by omega) fun i h3 h4 => hno i h3 (by omega)).2
      rw [show s + (t - s) = t by omega] at p2
      rw [p2, h2]
    · obtain ⟨i, h4, h5, h6⟩ := hout q h1 (by omega)
      exact absurd (h6.trans h3.symm) (hno i h4 h5)
  have hrt : kk t' = r := htk
  have hrm := st'.room
  have hnz := st'.nz
  rw [hrt] at hrm hnz
  have hvt := st.vio
  rw [← hto] at hvt
  -- each summand
  have key : ∀ j, j < N → j ≠ r → a t' (rw t') j = 0 ∨ v t j = v t' j ∨ (¬ (if decide (0 < a t' (rw t') j) = bl t' then v t' j < hi j else lo j < v t' j) ∧ lo j ≤ v t j ∧ v t j ≤ hi j) := fun j hjN hjr => by
    by_cases hb : Bas M (b t') j
    · obtain ⟨i, h1, rfl⟩ := hb
      exact .inl (I'.z (rw t') i st'.hr h1)
    · by_cases hE : ∃ i, s ≤ i ∧ i < e ∧ kk i = j
      · obtain ⟨i, h1, h2, h3⟩ := hE
        have h4 := hmax i h1 h2
        have hlt : j < r := by omega
        by_cases hz : a t' (rw t') j = 0
        · exact .inl hz
        · exact .inr (.inr ⟨st'.kleast j (by omega) hz fun e => hb ⟨rw t', st'.hr, e.symm⟩, hin j hjN hlt⟩)
      · exact .inr (.inl (hfix j hb fun i h1 h2 h3 => hE ⟨i, h1, h2, h3⟩))
  cases hbl : bl t' with
  | true =>
    rw [hbl] at hrm
    have hvp := st'.vio
    rw [hbl, if_pos rfl] at hvp
    have hsum : sm (fun j => a t' (rw t') j * v t j) N < sm (fun j => a t' (rw t') j * v t' j) N := by
      refine sm_le_lt (r := r) (fun j hj => ?_) hrN ?_
      · by_cases hjr : j = r
        · subst hjr
          by_cases hpos : 0 < a t' (rw t') j
          · rw [if_pos (by simp [hpos])] at hrm
            have hd : v t j < v t' j := by
              rw [htv]; unfold aim
              cases hb2 : bl t with
              | true => rw [hb2, if_pos rfl] at hvt; simpa using hvt
              | false => rw [htv] at hrm; unfold aim at hrm; rw [hb2] at hrm; simp [Rat.lt_irrefl] at hrm
            exact Rat.mul_le_mul_of_nonneg_left (Rat.le_of_lt hd) (Rat.le_of_lt hpos)
          · rw [if_neg (by simp [hpos])] at hrm
            have hd : v t' j < v t j := by
              rw [htv]; unfold aim
              cases hb2 : bl t with
              | true => rw [htv] at hrm; unfold aim at hrm; rw [hb2] at hrm; simp [Rat.lt_irrefl] at hrm
              | false => rw [hb2] at hvt; simpa using hvt
            have hneg : 0 ≤ -(a t' (rw t') j) := by grind
            have := Rat.mul_le_mul_of_nonneg_left (Rat.le_of_lt hd) hneg
            grind
        · rcases key j hj hjr with h | h | ⟨h1, h2, h3⟩
          · rw [h]; grind
          · rw [h]; exact Rat.le_refl
          · rw [hbl] at h1
            by_cases hpos : 0 < a t' (rw t') j
            · rw [if_pos (by simp [hpos])] at h1
              have : v t j ≤ v t' j := Rat.le_trans h3 (Rat.not_lt.1 h1)
              exact Rat.mul_le_mul_of_nonneg_left this (Rat.le_of_lt hpos)
            · rw [if_neg (by simp [hpos])] at h1
              have : v t' j ≤ v t j := Rat.le_trans (Rat.not_lt.1 h1) h2
              have hneg : 0 ≤ -(a t' (rw t') j) := by grind
              have := Rat.mul_le_mul_of_nonneg_left this hneg
              grind
      · by_cases hpos : 0 < a t' (rw t') r
        · rw [if_pos (by simp [hpos])] at hrm
          have hd : v t r < v t' r := by
            rw [htv]; unfold aim
            cases hb2 : bl t with
            | true => rw [hb2, if_pos rfl] at hvt; simpa using hvt
            | false => rw [htv] at hrm; unfold aim at hrm; rw [hb2] at hrm; simp [Rat.lt_irrefl] at hrm
          exact Rat.mul_lt_mul_of_pos_left hd hpos
        · rw [if_neg (by simp [hpos])] at hrm
          have hd : v t' r < v t r := by
            rw [htv]; unfold aim
            cases hb2 : bl t with
            | true => rw [htv] at hrm; unfold aim at hrm; rw [hb2] at hrm; simp [Rat.lt_irrefl] at hrm
            | false => rw [hb2] at hvt; simpa using hvt
          have hneg : 0 < -(a t' (rw t') r) := by grind
          have := Rat.mul_lt_mul_of_pos_left hd hneg
          grind
    rw [← e1, ← e2] at hsum
    have := hpin.1
    grind
  | false =>
    rw [hbl] at hrm
    have hvp := st'.vio
    rw [hbl] at hvp
    simp only [Bool.false_eq_true, if_false] at hvp
    have hsum : sm (fun j => a t' (rw t') j * v t' j) N < sm (fun j => a t' (rw t') j * v t j) N := by
      refine sm_le_lt (r := r) (fun j hj => ?_) hrN ?_
      · by_cases hjr : j = r
        · subst hjr
          by_cases hpos : 0 < a t' (rw t') j
          · rw [if_neg (by simp [hpos])] at hrm
            have hd : v t' j < v t j := by
              rw [htv]; unfold aim
              cases hb2 : bl t with
              | true => rw [htv] at hrm; unfold aim at hrm; rw [hb2] at hrm; simp [Rat.lt_irrefl] at hrm
              | false => rw [hb2] at hvt; simpa using hvt
            exact Rat.mul_le_mul_of_nonneg_left (Rat.le_of_lt hd) (Rat.le_of_lt hpos)
          · rw [if_pos (by simp [hpos])] at hrm
            have hd : v t j < v t' j := by
              rw [htv]; unfold aim
              cases hb2 : bl t with
              | true => rw [hb2, if_pos rfl] at hvt; simpa using hvt
              | false => rw [htv] at hrm; unfold aim at hrm; rw [hb2] at hrm; simp [Rat.lt_irrefl] at hrm
            have hneg : 0 ≤ -(a t' (rw t') j) := by grind
            have := Rat.mul_le_mul_of_nonneg_left (Rat.le_of_lt hd) hneg
            grind
        · rcases key j hj hjr with h | h | ⟨h1, h2, h3⟩
          · rw [h]; grind
          · rw [h]; exact Rat.le_refl
          · rw [hbl] at h1
            by_cases hpos : 0 < a t' (rw t') j
            · rw [if_neg (by simp [hpos])] at h1
              have : v t' j ≤ v t j := Rat.le_trans (Rat.not_lt.1 h1) h2
              exact Rat.mul_le_mul_of_nonneg_left this (Rat.le_of_lt hpos)
            · rw [if_pos (by simp [hpos])] at h1
              have : v t j ≤ v t' j := Rat.le_trans h3 (Rat.not_lt.1 h1)
              have hneg : 0 ≤ -(a t' (rw t') j) := by grind
              have := Rat.mul_le_mul_of_nonneg_left this hneg
              grind
      · by_cases hpos : 0 < a t' (rw t') r
        · rw [if_neg (by simp [hpos])] at hrm
          have hd : v t' r < v t r := by
            rw [htv]; unfold aim
            cases hb2 : bl t with
            | true => rw [htv] at hrm; unfold aim at hrm; rw [hb2] at hrm; simp [Rat.lt_irrefl] at hrm
            | false => rw [hb2] at hvt; simpa using hvt
          exact Rat.mul_lt_mul_of_pos_left hd hpos
        · rw [if_pos (by simp [hpos])] at hrm
          have hd : v t r < v t' r := by
            rw [htv]; unfold aim
            cases hb2 : bl t with
            | true => rw [hb2, if_pos rfl] at hvt; simpa using hvt
            | false => rw [htv] at hrm; unfold aim at hrm; rw [hb2] at hrm; simp [Rat.lt_irrefl] at hrm
          have hneg : 0 < -(a t' (rw t') r) := by grind
          have := Rat.mul_lt_mul_of_pos_left hd hneg
          grind
    rw [← e1, ← e2] at hsum
    have := hpin.2
    grind
end
/-- two equal ones among many -/
theorem pigeon : ∀ (B : Nat) (f : Nat → Nat), (∀ i, i ≤ B → f i < B) → ∃ i j, i < j ∧ j ≤ B ∧ f i = f j
  | 0, f, h => by have := h 0 (Nat.le_refl _); omega
  | B + 1, f, h => by
    by_cases hx : ∃ i, i < B + 1 ∧ f i = f (B + 1)
    · obtain ⟨i, h1, h2⟩ := hx
      exact ⟨i, B + 1, h1, Nat.le_refl _, h2⟩
    · have hx' : ∀ i, i < B + 1 → f i ≠ f (B + 1) := fun i h1 h2 => hx ⟨i, h1, h2⟩
      obtain ⟨i, j, h1, h2, h3⟩ := pigeon B (fun i => if f i = B then f (B + 1) else f i) (fun i hi => by
        have h1 := h i (by omega)
        have h2 := h (B + 1) (Nat.le_refl _)
        have h3 := hx' i (by omega)
        split <;> omega)
      refine ⟨i, j, h1, by omega, ?_⟩
      have h4 := hx' i (by omega)
      have h5 := hx' j (by omega)
      split at h3 <;> split at h3 <;> omega
end Go.Proofs.Ytajpdnphamomjaa
