import Derived.KernelRfl
import Derived.Test.YtajpdnphamomjaaPackLinearSolves5

/- Plain law: the numbers of a small system stay small. -/

namespace Go.Proofs.Ytajpdnphamomjaa
open Go.RowKit Go.Q Go.Q.Num Go.V

/-! ### quotients by a common number -/
def Q1 (D B : Int) (x : Rat) : Prop := ∃ K : Int, -B ≤ K ∧ K ≤ B ∧ x * (D : Rat) = (K : Rat)
theorem mul_den (x : Rat) : x * ((x.den : Int) : Rat) = (x.num : Rat) := by
  have h := Rat.num_divInt_den x
  rw [Rat.divInt_eq_div] at h
  have h0 : ((x.den : Int) : Rat) ≠ 0 := by
    intro e; exact x.den_nz (by exact_mod_cast e)
  have e : x = (x.num : Rat) / ((x.den : Int) : Rat) := h.symm
  generalize ((x.den : Int) : Rat) = d at *
  generalize (x.num : Rat) = m at *
  rw [e]; grind
theorem q1_fits {D B : Int} {x : Rat} (h : Q1 D B x) (hD : D ≠ 0) (hb : -100000000000000000 ≤ D ∧ D ≤ 100000000000000000) (hB : B ≤ 100000000000000000) : Fits x := by
  obtain ⟨K, k1, k2, e⟩ := h
  have h1 : x.num * D = K * (x.den : Int) := by
    have h3 : ((x.num * D : Int) : Rat) = ((K * (x.den : Int) : Int) : Rat) := by
      rw [Rat.intCast_mul, Rat.intCast_mul, ← mul_den, ← e]; grind
    exact Rat.intCast_inj.1 h3
  have h2 : x.num.natAbs * D.natAbs = K.natAbs * x.den := by
    have := congrArg Int.natAbs h1
    rwa [Int.natAbs_mul, Int.natAbs_mul, Int.natAbs_natCast] at this
  have h3 : x.den ∣ D.natAbs := Nat.Coprime.dvd_of_dvd_mul_left x.reduced.symm ⟨K.natAbs, by rw [h2]; exact Nat.mul_comm _ _⟩
  have h4 := x.den_pos
  obtain ⟨m, hm⟩ := h3
  have hm0 : 0 < m := by
    rcases Nat.eq_zero_or_pos m with h | h
    · subst h; rw [Nat.mul_zero] at hm; omega
    · exact h
  have h6 : x.num.natAbs ≤ K.natAbs := by
    rw [hm] at h2
    have h5 : x.den * (x.num.natAbs * m) = x.den * K.natAbs := by
      rw [Nat.mul_comm x.den K.natAbs, ← h2, ← Nat.mul_assoc, Nat.mul_comm x.den x.num.natAbs, Nat.mul_assoc]
    have h7 := Nat.eq_of_mul_eq_mul_left h4 h5
    rw [← h7]; exact Nat.le_mul_of_pos_right _ hm0
  have h7 : x.den ≤ D.natAbs := by rw [hm]; exact Nat.le_mul_of_pos_right _ hm0
  exact ⟨by omega, by omega, by omega⟩
theorem q1_mono {D B B' : Int} {x : Rat} (h : Q1 D B x) (hb : B ≤ B') : Q1 D B' x := by
  obtain ⟨K, k1, k2, e⟩ := h
  exact ⟨K, by omega, by omega, e⟩
theorem q1_add {D A B : Int} {x y : Rat} (h : Q1 D A x) (h' : Q1 D B y) : Q1 D (A + B) (x + y) := by
  obtain ⟨K, k1, k2, e⟩ := h
  obtain ⟨L, l1, l2, f⟩ := h'
  exact ⟨K + L, by omega, by omega, by rw [Rat.intCast_add, ← e, ← f]; grind⟩
theorem q1_neg {D A : Int} {x : Rat} (h : Q1 D A x) : Q1 D A (-x) := by
  obtain ⟨K, k1, k2, e⟩ := h
  exact ⟨-K, by omega, by omega, by rw [Rat.intCast_neg, ← e]; grind⟩
theorem q1_neg0 {D A : Int} {x : Rat} (h : Q1 D A x) : Q1 D A (0 + -x) := by
  have e : (0 : Rat) + -x = -x := by grind
  rw [e]; exact q1_neg h
theorem abs_mul {a b A B : Int} (h : -A ≤ a ∧ a ≤ A) (h' : -B ≤ b ∧ b ≤ B) : -(A * B) ≤ a * b ∧ a * b ≤ A * B := by
  have h1 : a.natAbs * b.natAbs ≤ A.natAbs * B.natAbs := Nat.mul_le_mul (by omega) (by omega)
  have h2 : (a * b).natAbs = a.natAbs * b.natAbs := Int.natAbs_mul a b
  have h3 : (A * B).natAbs = A.natAbs * B.natAbs := Int.natAbs_mul A B
  have h4 : 0 ≤ A * B := Int.mul_nonneg (by omega) (by omega)
  omega
theorem q1_int {D d : Int} {z Z : Int} (hD : -d ≤ D ∧ D ≤ d) (hz : -Z ≤ z ∧ z ≤ Z) : Q1 D (Z * d) (z : Rat) := by
  obtain ⟨h1, h2⟩ := abs_mul hz hD
  exact ⟨z * D, h1, h2, by rw [Rat.intCast_mul]⟩
theorem q1_zero (D : Int) {B : Int} (hB : 0 ≤ B) : Q1 D B 0 := ⟨0, by omega, by omega, by show (0 : Rat) * _ = 0; rw [Rat.zero_mul]⟩
theorem q1_mul {D E A B : Int} {x y : Rat} (h : Q1 D A x) (h' : Q1 E B y) : Q1 (D * E) (A * B) (x * y) := by
  obtain ⟨K, k1, k2, e⟩ := h
  obtain ⟨L, l1, l2, f⟩ := h'
  obtain ⟨h1, h2⟩ := abs_mul ⟨k1, k2⟩ ⟨l1, l2⟩
  exact ⟨K * L, h1, h2, by rw [Rat.intCast_mul, Rat.intCast_mul, ← e, ← f]; grind⟩
theorem q1_mulz {D A Z : Int} {x : Rat} {z : Int} (h : Q1 D A x) (hz : -Z ≤ z ∧ z ≤ Z) : Q1 D (A * Z) (x * (z : Rat)) := by
  obtain ⟨K, k1, k2, e⟩ := h
  obtain ⟨h1, h2⟩ := abs_mul ⟨k1, k2⟩ hz
  exact ⟨K * z, h1, h2, by rw [Rat.intCast_mul, ← e]; grind⟩
theorem q1_up {D E A e : Int} {x : Rat} (h : Q1 D A x) (hE : -e ≤ E ∧ E ≤ e) : Q1 (D * E) (A * e) x := by
  obtain ⟨K, k1, k2, f⟩ := h
  obtain ⟨h1, h2⟩ := abs_mul ⟨k1, k2⟩ hE
  exact ⟨K * E, h1, h2, by rw [Rat.intCast_mul, Rat.intCast_mul, ← f]; grind⟩
theorem q1_div {D A K : Int} {x y : Rat} (h : Q1 D A x) (hy : y * (D : Rat) = (K : Rat)) (h0 : y ≠ 0) : Q1 K A (x / y) := by
  obtain ⟨L, l1, l2, e⟩ := h
  refine ⟨L, l1, l2, ?_⟩
  rw [← hy, ← e]
  grind
theorem q1_sm {D B : Int} {f : Nat → Rat} : ∀ {n : Nat}, (∀ k, k < n → Q1 D B (f k)) → Q1 D ((n : Int) * B) (sm f n)
  | 0, _ => by
    rw [show ((0 : Nat) : Int) * B = 0 by omega]
    exact q1_zero D (Int.le_refl _)
  | n + 1, h => by
    have h1 := q1_add (q1_sm (n := n) fun k hk => h k (by omega)) (h n (by omega))
    rw [show ((n + 1 : Nat) : Int) * B = (n : Int) * B + B by rw [Int.natCast_add, Int.add_mul]; omega]
    exact h1

/-! ### three equations -/
theorem det_ex {M : Nat} (hM : M ≤ 3) {C : Nat → Nat → Rat} {P : Nat → Nat → Int} (hP : ∀ r i, -10 ≤ P r i ∧ P r i ≤ 10) (h : ∀ i i', i < M → i' < M → sm (fun r => C i r * ((P r i' : Int) : Rat)) M = if i = i' then -1 else 0) :
    ∃ D : Int, D ≠ 0 ∧ (-6000 ≤ D ∧ D ≤ 6000) ∧ ∀ i r, i < M → r < M → Q1 D 200 (C i r) := by
  have b2 : ∀ a b c d, -100 ≤ P a b * P c d ∧ P a b * P c d ≤ 100 := fun a b c d => abs_mul (A := 10) (B := 10) (hP a b) (hP c d)
  match M, hM with
  | 0, _ => exact ⟨1, by decide, by decide, fun i r hi => by omega⟩
  | 1, _ =>
    have e := h 0 0 (by omega) (by omega)
    have e' : C 0 0 * ((P 0 0 : Int) : Rat) = -1 := by
      have : (0 : Rat) + C 0 0 * ((P 0 0 : Int) : Rat) = -1 := e
      grind
    have hb := hP 0 0
    refine ⟨P 0 0, fun h0 => ?_, by omega, fun i r hi hr => ?_⟩
    · rw [h0] at e'
      have : C 0 0 * ((0 : Int) : Rat) = 0 := by show C 0 0 * (0 : Rat) = 0; grind
      rw [this] at e'
      exact absurd e' (by decide)
    · obtain rfl : i = 0 := by omega
      obtain rfl : r = 0 := by omega
      exact ⟨-1, by decide, by decide, e'⟩
  | 2, _ =>
    have key : ∀ i i', i < 2 → i' < 2 → C i 0 * ((P 0 i' : Int) : Rat) + C i 1 * ((P 1 i' : Int) : Rat) = if i = i' then -1 else 0 := fun i i' hi hi' => by
      have : (0 : Rat) + C i 0 * ((P 0 i' : Int) : Rat) + C i 1 * ((P 1 i' : Int) : Rat) = if i = i' then -1 else 0 := h i i' hi hi'
      grind
    have k00 := key 0 0 (by omega) (by omega)
    have k01 := key 0 1 (by omega) (by omega)
    have k10 := key 1 0 (by omega) (by omega)
    have k11 := key 1 1 (by omega) (by omega)
    simp only [if_true, show ¬ (0 : Nat) = 1 by omega, show ¬ (1 : Nat) = 0 by omega, if_false] at k00 k01 k10 k11
    have c1 := b2 0 0 1 1
    have c2 := b2 0 1 1 0
    have hD : ((P 0 0 * P 1 1 - P 0 1 * P 1 0 : Int) : Rat) = (P 0 0 : Rat) * (P 1 1 : Rat) - (P 0 1 : Rat) * (P 1 0 : Rat) := by rw [Rat.intCast_sub, Rat.intCast_mul, Rat.intCast_mul]
    have g00 : C 0 0 * ((P 0 0 * P 1 1 - P 0 1 * P 1 0 : Int) : Rat) = ((-P 1 1 : Int) : Rat) := by rw [hD, Rat.intCast_neg]; grind
    have g01 : C 0 1 * ((P 0 0 * P 1 1 - P 0 1 * P 1 0 : Int) : Rat) = ((P 0 1 : Int) : Rat) := by rw [hD]; grind
    have g10 : C 1 0 * ((P 0 0 * P 1 1 - P 0 1 * P 1 0 : Int) : Rat) = ((P 1 0 : Int) : Rat) := by rw [hD]; grind
    have g11 : C 1 1 * ((P 0 0 * P 1 1 - P 0 1 * P 1 0 : Int) : Rat) = ((-P 0 0 : Int) : Rat) := by rw [hD, Rat.intCast_neg]; grind
    have q00 := hP 0 0
    have q01 := hP 0 1
    have q10 := hP 1 0
    have q11 := hP 1 1
    refine ⟨P 0 0 * P 1 1 - P 0 1 * P 1 0, fun h0 => ?_, by omega, fun i r hi hr => ?_⟩
    · rw [h0] at g00 g01 g10 g11
      have z : ∀ x : Rat, x * ((0 : Int) : Rat) = 0 := fun x => by show x * (0 : Rat) = 0; grind
      rw [z] at g00 g01 g10 g11
      have p00 : ((P 0 0 : Int) : Rat) = 0 := by rw [Rat.intCast_neg] at g11; grind
      rw [p00, ← g10] at k00
      have : (0 : Rat) = -1 := by grind
      exact absurd this (by decide)
    · match i, r, hi, hr with
      | 0, 0, _, _ => exact ⟨_, by omega, by omega, g00⟩
      | 0, 1, _, _ => exact ⟨_, by omega, by omega, g01⟩
      | 1, 0, _, _ => exact ⟨_, by omega, by omega, g10⟩
      | 1, 1, _, _ => exact ⟨_, by omega, by omega, g11⟩
      | i + 2, _, hi, _ => omega
      | 0, r + 2, _, hr => omega
      | 1, r + 2, _, hr => omega
  | 3, _ =>
    have key : ∀ i i', i < 3 → i' < 3 → C i 0 * ((P 0 i' : Int) : Rat) + C i 1 * ((P 1 i' : Int) : Rat) + C i 2 * ((P 2 i' : Int) : Rat) = if i = i' then -1 else 0 := fun i i' hi hi' => by
      have : (0 : Rat) + C i 0 * ((P 0 i' : Int) : Rat) + C i 1 * ((P 1 i' : Int) : Rat) + C i 2 * ((P 2 i' : Int) : Rat) = if i = i' then -1 else 0 := h i i' hi hi'
      grind
    -- cofactors
    let m : Nat → Nat → Nat → Nat → Int := fun r r' i i' => P r i * P r' i' - P r i' * P r' i
    have mb : ∀ r r' i i', -200 ≤ m r r' i i' ∧ m r r' i i' ≤ 200 := fun r r' i i' => by
      have h1 := b2 r i r' i'
      have h2 := b2 r i' r' i
      show -200 ≤ P r i * P r' i' - P r i' * P r' i ∧ P r i * P r' i' - P r i' * P r' i ≤ 200
      omega
    have mc : ∀ r r' i i', ((m r r' i i' : Int) : Rat) = (P r i : Rat) * (P r' i' : Rat) - (P r i' : Rat) * (P r' i : Rat) := fun r r' i i' => by
      show ((P r i * P r' i' - P r i' * P r' i : Int) : Rat) = _
      rw [Rat.intCast_sub, Rat.intCast_mul, Rat.intCast_mul]
    have t0 := abs_mul (hP 0 0) (mb 1 2 1 2)
    have t1 := abs_mul (hP 0 1) (mb 1 2 0 2)
    have t2 := abs_mul (hP 0 2) (mb 1 2 0 1)
    have hD : ((P 0 0 * m 1 2 1 2 - P 0 1 * m 1 2 0 2 + P 0 2 * m 1 2 0 1 : Int) : Rat) = (P 0 0 : Rat) * ((P 1 1 : Rat) * (P 2 2 : Rat) - (P 1 2 : Rat) * (P 2 1 : Rat)) - (P 0 1 : Rat) * ((P 1 0 : Rat) * (P 2 2 : Rat) - (P 1 2 : Rat) * (P 2 0 : Rat)) + (P 0 2 : Rat) * ((P 1 0 : Rat) * (P 2 1 : Rat) - (P 1 1 : Rat) * (P 2 0 : Rat)) := by
      rw [Rat.intCast_add, Rat.intCast_sub, Rat.intCast_mul, Rat.intCast_mul, Rat.intCast_mul, mc, mc, mc]
    generalize hdd : P 0 0 * m 1 2 1 2 - P 0 1 * m 1 2 0 2 + P 0 2 * m 1 2 0 1 = D at hD
    have col : ∀ i, i < 3 → ∀ e0 e1 e2 : Rat, C i 0 * ((P 0 0 : Int) : Rat) + C i 1 * ((P 1 0 : Int) : Rat) + C i 2 * ((P 2 0 : Int) : Rat) = e0 → C i 0 * ((P 0 1 : Int) : Rat) + C i 1 * ((P 1 1 : Int) : Rat) + C i 2 * ((P 2 1 : Int) : Rat) = e1 → C i 0 * ((P 0 2 : Int) : Rat) + C i 1 * ((P 1 2 : Int) : Rat) + C i 2 * ((P 2 2 : Int) : Rat) = e2 →
        C i 0 * (D : Rat) = e0 * (m 1 2 1 2 : Rat) - e1 * (m 1 2 0 2 : Rat) + e2 * (m 1 2 0 1 : Rat) ∧
        C i 1 * (D : Rat) = -(e0 * (m 0 2 1 2 : Rat)) + e1 * (m 0 2 0 2 : Rat) - e2 * (m 0 2 0 1 : Rat) ∧
        C i 2 * (D : Rat) = e0 * (m 0 1 1 2 : Rat) - e1 * (m 0 1 0 2 : Rat) + e2 * (m 0 1 0 1 : Rat) := by
      intro i _ e0 e1 e2 h0 h1 h2
      rw [hD]
      simp only [mc]
      subst h0 h1 h2
      generalize ((P 0 0 : Int) : Rat) = p00, ((P 0 1 : Int) : Rat) = p01, ((P 0 2 : Int) : Rat) = p02, ((P 1 0 : Int) : Rat) = p10, ((P 1 1 : Int) : Rat) = p11, ((P 1 2 : Int) : Rat) = p12, ((P 2 0 : Int) : Rat) = p20, ((P 2 1 : Int) : Rat) = p21, ((P 2 2 : Int) : Rat) = p22
      generalize C i 0 = c0, C i 1 = c1, C i 2 = c2
      refine ⟨?_, ?_, ?_⟩ <;> grind
    have c0 := col 0 (by omega) _ _ _ (key 0 0 (by omega) (by omega)) (key 0 1 (by omega) (by omega)) (key 0 2 (by omega) (by omega))
    have c1 := col 1 (by omega) _ _ _ (key 1 0 (by omega) (by omega)) (key 1 1 (by omega) (by omega)) (key 1 2 (by omega) (by omega))
    have c2 := col 2 (by omega) _ _ _ (key 2 0 (by omega) (by omega)) (key 2 1 (by omega) (by omega)) (key 2 2 (by omega) (by omega))
    have n01 : ¬ (0 : Nat) = 1 := by omega
    have n02 : ¬ (0 : Nat) = 2 := by omega
    have n10 : ¬ (1 : Nat) = 0 := by omega
    have n12 : ¬ (1 : Nat) = 2 := by omega
    have n20 : ¬ (2 : Nat) = 0 := by omega
    have n21 : ¬ (2 : Nat) = 1 := by omega
    simp only [if_true, n01, n02, n10, n12, n20, n21, if_false] at c0 c1 c2
    have neg : ∀ z : Int, ((-z : Int) : Rat) = -(z : Rat) := fun z => Rat.intCast_neg z
    have g00 : C 0 0 * (D : Rat) = ((-(m 1 2 1 2) : Int) : Rat) := by rw [c0.1, neg]; grind
    have g01 : C 0 1 * (D : Rat) = ((m 0 2 1 2 : Int) : Rat) := by rw [c0.2.1]; grind
    have g02 : C 0 2 * (D : Rat) = ((-(m 0 1 1 2) : Int) : Rat) := by rw [c0.2.2, neg]; grind
    have g10 : C 1 0 * (D : Rat) = ((m 1 2 0 2 : Int) : Rat) := by rw [c1.1]; grind
    have g11 : C 1 1 * (D : Rat) = ((-(m 0 2 0 2) : Int) : Rat) := by rw [c1.2.1, neg]; grind
    have g12 : C 1 2 * (D : Rat) = ((m 0 1 0 2 : Int) : Rat) := by rw [c1.2.2]; grind
    have g20 : C 2 0 * (D : Rat) = ((-(m 1 2 0 1) : Int) : Rat) := by rw [c2.1, neg]; grind
    have g21 : C 2 1 * (D : Rat) = ((m 0 2 0 1 : Int) : Rat) := by rw [c2.2.1]; grind
    have g22 : C 2 2 * (D : Rat) = ((-(m 0 1 0 1) : Int) : Rat) := by rw [c2.2.2, neg]; grind
    refine ⟨D, fun h0 => ?_, by omega, fun i r hi hr => ?_⟩
    · rw [h0] at g20 g21 g22
      have z : ∀ x : Rat, x * ((0 : Int) : Rat) = 0 := fun x => by show x * (0 : Rat) = 0; grind
      rw [z] at g20 g21 g22
      rw [neg, mc] at g20 g22
      rw [mc] at g21
      have k00 := key 0 0 (by omega) (by omega)
      have k01 := key 0 1 (by omega) (by omega)
      have k10 := key 1 0 (by omega) (by omega)
      have k11 := key 1 1 (by omega) (by omega)
      simp only [if_true, n01, n10, if_false] at k00 k01 k10 k11
      have id : (C 0 0 * ((P 0 0 : Int) : Rat) + C 0 1 * ((P 1 0 : Int) : Rat) + C 0 2 * ((P 2 0 : Int) : Rat)) * (C 1 0 * ((P 0 1 : Int) : Rat) + C 1 1 * ((P 1 1 : Int) : Rat) + C 1 2 * ((P 2 1 : Int) : Rat)) - (C 0 0 * ((P 0 1 : Int) : Rat) + C 0 1 * ((P 1 1 : Int) : Rat) + C 0 2 * ((P 2 1 : Int) : Rat)) * (C 1 0 * ((P 0 0 : Int) : Rat) + C 1 1 * ((P 1 0 : Int) : Rat) + C 1 2 * ((P 2 0 : Int) : Rat))
          = (C 0 0 * C 1 1 - C 0 1 * C 1 0) * ((P 0 0 : Rat) * (P 1 1 : Rat) - (P 0 1 : Rat) * (P 1 0 : Rat)) + (C 0 0 * C 1 2 - C 0 2 * C 1 0) * ((P 0 0 : Rat) * (P 2 1 : Rat) - (P 0 1 : Rat) * (P 2 0 : Rat)) + (C 0 1 * C 1 2 - C 0 2 * C 1 1) * ((P 1 0 : Rat) * (P 2 1 : Rat) - (P 1 1 : Rat) * (P 2 0 : Rat)) := by
        generalize ((P 0 0 : Int) : Rat) = p00, ((P 0 1 : Int) : Rat) = p01, ((P 1 0 : Int) : Rat) = p10, ((P 1 1 : Int) : Rat) = p11, ((P 2 0 : Int) : Rat) = p20, ((P 2 1 : Int) : Rat) = p21
        generalize C 0 0 = a0, C 0 1 = a1, C 0 2 = a2, C 1 0 = b0, C 1 1 = b1, C 1 2 = b2
        grind
      rw [k00, k01, k10, k11, ← g21] at id
      have e1 : (P 0 0 : Rat) * (P 1 1 : Rat) - (P 0 1 : Rat) * (P 1 0 : Rat) = 0 := by grind
      have e2 : (P 1 0 : Rat) * (P 2 1 : Rat) - (P 1 1 : Rat) * (P 2 0 : Rat) = 0 := by grind
      rw [e1, e2] at id
      have : (1 : Rat) = 0 := by grind
      exact absurd this (by decide)
    · have u : ∀ r r' i i', -200 ≤ -(m r r' i i') ∧ -(m r r' i i') ≤ 200 := fun r r' i i' => by have := mb r r' i i'; omega
      match i, r, hi, hr with
      | 0, 0, _, _ => exact ⟨_, (u _ _ _ _).1, (u _ _ _ _).2, g00⟩
      | 0, 1, _, _ => exact ⟨_, (mb _ _ _ _).1, (mb _ _ _ _).2, g01⟩
      | 0, 2, _, _ => exact ⟨_, (u _ _ _ _).1, (u _ _ _ _).2, g02⟩
      | 1, 0, _, _ => exact ⟨_, (mb _ _ _ _).1, (mb _ _ _ _).2, g10⟩
      | 1, 1, _, _ => exact ⟨_, (u _ _ _ _).1, (u _ _ _ _).2, g11⟩
      | 1, 2, _, _ => exact ⟨_, (mb _ _ _ _).1, (mb _ _ _ _).2, g12⟩
      | 2, 0, _, _ => exact ⟨_, (u _ _ _ _).1, (u _ _ _ _).2, g20⟩
      | 2, 1, _, _ => exact ⟨_, (mb _ _ _ _).1, (mb _ _ _ _).2, g21⟩
      | 2, 2, _, _ => exact ⟨_, (u _ _ _ _).1, (u _ _ _ _).2, g22⟩
      | i + 3, _, hi, _ => omega
      | 0, r + 3, _, hr => omega
      | 1, r + 3, _, hr => omega
      | 2, r + 3, _, hr => omega
end Go.Proofs.Ytajpdnphamomjaa

/- Plain law: a small system is never given up. -/



namespace Go.Proofs.Ytajpdnphamomjaa
open Go.RowKit Go.Q Go.Q.Num Go.V

theorem sm_split (f : Nat → Rat) (n : Nat) : ∀ m, sm f (n + m) = sm f n + sm (fun k => f (n + k)) m
  | 0 => by show sm f n = sm f n + 0; grind
  | m + 1 => by
    show sm f (n + m) + f (n + m) = sm f n + (sm (fun k => f (n + k)) m + f (n + m))
    rw [sm_split f n m]; grind
def Ax (T : List (List Int)) (n r j : Nat) : Int := if j < n then (T.getD r []).getD j 0 else if j = n + r then -1 else 0
def Cx (n : Nat) (B : Tb) (i r : Nat) : Rat := (if B.b i = n + r then 1 else 0) + -(B.a i (n + r))
theorem cast_ite {p : Prop} [Decidable p] (a b : Int) : (((if p then a else b) : Int) : Rat) = if p then (a : Rat) else (b : Rat) := by split <;> rfl
theorem tb_ext {T : List (List Int)} {n M : Nat} {T0 B : Tb} (I : TbI (n + M) M T0.a T0.b B) (ha : ∀ r j, r < M → j < n + M → T0.a r j = if j < n then (((T.getD r []).getD j 0 : Int) : Rat) else 0) (hb : ∀ r, r < M → T0.b r = n + r) {i j : Nat} (hi : i < M) (hj : j < n + M) :
    B.a i j = (if B.b i = j then 1 else 0) + sm (fun r => Cx n B i r * ((Ax T n r j : Int) : Rat)) M := by
  by_cases hjn : j < n
  · let y : Nat → Rat := fun q => if q < n then (if q = j then 1 else 0) else ((Ax T n (q - n) j : Int) : Rat)
    have y1 : ∀ q, q < n → y q = if q = j then 1 else 0 := fun q h => if_pos h
    have y2 : ∀ r, y (n + r) = ((Ax T n r j : Int) : Rat) := fun r => by
      show (if n + r < n then _ else _) = _
      rw [if_neg (by omega), Nat.add_sub_cancel_left]
    have hs0 : Sat (n + M) M T0.a T0.b y := by
      intro r hr
      rw [hb r hr, y2]
      have e : ∀ q, q < n + M → T0.a r q * y q = if q = j then (((T.getD r []).getD j 0 : Int) : Rat) else 0 := fun q hq => by
        rw [ha r q hr hq]
        by_cases h : q < n
        · rw [if_pos h, y1 q h]
          by_cases h2 : q = j
          · subst h2; rw [if_pos rfl, if_pos rfl]; grind
          · rw [if_neg h2, if_neg h2]; grind
        · rw [if_neg h, if_neg (by omega)]; grind
      rw [sm_congr e, sm_single (f := fun _ => (((T.getD r []).getD j 0 : Int) : Rat)) hj]
      unfold Ax; rw [if_pos hjn]
    have hsB := (I.eqv y).2 hs0 i hi
    rw [sm_split] at hsB
    have e1 : ∀ q, q < n → B.a i q * y q = if q = j then B.a i q else 0 := fun q hq => by
      rw [y1 q hq]
      by_cases h2 : q = j
      · rw [if_pos h2, if_pos h2]; grind
      · rw [if_neg h2, if_neg h2]; grind
    have e2 : ∀ r, r < M → B.a i (n + r) * y (n + r) = B.a i (n + r) * ((Ax T n r j : Int) : Rat) := fun r _ => by rw [y2]
    rw [sm_congr e1, sm_single (f := fun q => B.a i q) hjn, sm_congr e2] at hsB
    have e3 : ∀ r, r < M → Cx n B i r * ((Ax T n r j : Int) : Rat) = (if B.b i = n + r then ((Ax T n r j : Int) : Rat) else 0) + (B.a i (n + r) * ((Ax T n r j : Int) : Rat)) * (-1) := fun r _ => by
      unfold Cx
      by_cases h : B.b i = n + r
      · rw [if_pos h, if_pos h]; grind
      · rw [if_neg h, if_neg h]; grind
    rw [sm_congr e3, sm_add, sm_mul]
    have e4 : y (B.b i) = (if B.b i = j then 1 else 0) + sm (fun r => if B.b i = n + r then ((Ax T n r j : Int) : Rat) else 0) M := by
      by_cases h : B.b i < n
      · rw [y1 _ h, sm_zero fun r _ => if_neg (by omega)]; grind
      · have hlt := I.lt i hi
        obtain ⟨r0, hr0⟩ : ∃ r0, B.b i = n + r0 := ⟨B.b i - n, by omega⟩
        rw [hr0, y2, if_neg (by omega)]
        rw [sm_congr (g := fun r => if r = r0 then ((Ax T n r j : Int) : Rat) else 0) fun r _ => by
          by_cases h2 : r = r0
          · subst h2; rw [if_pos rfl, if_pos rfl]
          · rw [if_neg (by omega), if_neg h2]]
        rw [sm_single (f := fun r => ((Ax T n r j : Int) : Rat)) (by omega : r0 < M)]; grind
    rw [e4] at hsB
    grind
  · obtain ⟨r0, rfl⟩ : ∃ r0, j = n + r0 := ⟨j - n, by omega⟩
    rw [sm_congr (g := fun r => if r = r0 then -(Cx n B i r) else 0) fun r _ => by
      unfold Ax
      rw [if_neg (by omega)]
      by_cases h : r = r0
      · subst h; rw [if_pos rfl, if_pos rfl]; show _ * (-1 : Rat) = _; grind
      · rw [if_neg (by omega), if_neg h]; show _ * (0 : Rat) = _; grind]
    rw [sm_single (f := fun r => -(Cx n B i r)) (by omega : r0 < M)]
    unfold Cx
    grind

structure SmallS (up : List Int) (T : List (List Int)) (rt ls hs : List Int) : Prop where
  n : up.length ≤ 4
  m : T.length ≤ 3
  c : ∀ row ∈ T, ∀ x ∈ row, -10 ≤ x ∧ x ≤ 10
  r : ∀ x ∈ rt, -1000000 ≤ x ∧ x ≤ 1000000
  l : ∀ x ∈ ls, -1000000 ≤ x ∧ x ≤ 1000000
  h : ∀ x ∈ hs, -1000000 ≤ x ∧ x ≤ 1000000
  A : SysA up T rt
  ll : ls.length = up.length
  hl : hs.length = up.length
  le : ∀ (k : Nat) a b, ls[k]? = some a → hs[k]? = some b → a ≤ b
section
variable {up : List Int} {T : List (List Int)} {rt ls hs : List Int}
abbrev Tz (up : List Int) (T : List (List Int)) (rt ls hs : List Int) : Tb := tb0 up T rt ls hs T.length
theorem SmallS.lo (S : SmallS up T rt ls hs) {j : Nat} (hj : j < up.length + T.length) : ∃ z : Int, (-1000000 ≤ z ∧ z ≤ 1000000) ∧ (Tz up T rt ls hs).lo j = (z : Rat) := by
  rcases Nat.lt_or_ge j up.length with h | h
  · obtain ⟨x, hx⟩ : ∃ x, ls[j]? = some x := ⟨_, List.getElem?_eq_getElem (by have := S.ll; omega)⟩
    exact ⟨x, S.l x (mem_at hx), tb0_lo hx⟩
  · obtain ⟨y, hy⟩ : ∃ x, rt[j - up.length]? = some x := ⟨_, List.getElem?_eq_getElem (by have := S.A.1; omega)⟩
    have := tb0_lob (T := T) (hs := hs) S.ll S.A.1 hy
    rw [show up.length + (j - up.length) = j by omega] at this
    exact ⟨y, S.r y (mem_at hy), this⟩
theorem SmallS.hi (S : SmallS up T rt ls hs) {j : Nat} (hj : j < up.length + T.length) : ∃ z : Int, (-1000000 ≤ z ∧ z ≤ 1000000) ∧ (Tz up T rt ls hs).hi j = (z : Rat) := by
  rcases Nat.lt_or_ge j up.length with h | h
  · obtain ⟨x, hx⟩ : ∃ x, hs[j]? = some x := ⟨_, List.getElem?_eq_getElem (by have := S.hl; omega)⟩
    exact ⟨x, S.h x (mem_at hx), tb0_hi hx⟩
  · obtain ⟨y, hy⟩ : ∃ x, rt[j - up.length]? = some x := ⟨_, List.getElem?_eq_getElem (by have := S.A.1; omega)⟩
    have := tb0_hib (T := T) (ls := ls) S.hl S.A.1 hy
    rw [show up.length + (j - up.length) = j by omega] at this
    exact ⟨y, S.r y (mem_at hy), this⟩
theorem SmallS.lh (S : SmallS up T rt ls hs) : ∀ j, j < up.length + T.length → (Tz up T rt ls hs).lo j ≤ (Tz up T rt ls hs).hi j := fun j hj => by
  rcases Nat.lt_or_ge j up.length with h | h
  · obtain ⟨x, hx⟩ : ∃ x, ls[j]? = some x := ⟨_, List.getElem?_eq_getElem (by have := S.ll; omega)⟩
    obtain ⟨y, hy⟩ : ∃ x, hs[j]? = some x := ⟨_, List.getElem?_eq_getElem (by have := S.hl; omega)⟩
    rw [tb0_lo hx, tb0_hi hy]
    exact Rat.intCast_le_intCast.2 (S.le j x y hx hy)
  · obtain ⟨y, hy⟩ : ∃ x, rt[j - up.length]? = some x := ⟨_, List.getElem?_eq_getElem (by have := S.A.1; omega)⟩
    have e1 := tb0_lob (T := T) (hs := hs) S.ll S.A.1 hy
    have e2 := tb0_hib (T := T) (ls := ls) S.hl S.A.1 hy
    rw [show up.length + (j - up.length) = j by omega] at e1 e2
    rw [e1, e2]; exact Rat.le_refl
theorem SmallS.at0 (S : SmallS up T rt ls hs) : ∀ j, j < up.length + T.length → (∀ i, i < T.length → (Tz up T rt ls hs).b i ≠ j) → (Tz up T rt ls hs).v j = (Tz up T rt ls hs).lo j ∨ (Tz up T rt ls hs).v j = (Tz up T rt ls hs).hi j := fun j hj hn => by
  rcases Nat.lt_or_ge j up.length with h | h
  · obtain ⟨x, hx⟩ : ∃ x, ls[j]? = some x := ⟨_, List.getElem?_eq_getElem (by have := S.ll; omega)⟩
    left; rw [tb0_lo hx, tb0_v hx]
  · exact absurd (by rw [tb0_b (by omega)]; omega) (hn (j - up.length) (by omega))
theorem getD_mem0 {l : List Int} {P : Int → Prop} (h : ∀ x ∈ l, P x) (h0 : P 0) (k : Nat) : P (l.getD k 0) := by
  rw [List.getD_eq_getElem?_getD]
  cases hk : l[k]? with
  | none => exact h0
  | some x => exact h x (mem_at hk)
theorem SmallS.ax (S : SmallS up T rt ls hs) (r j : Nat) : -10 ≤ Ax T up.length r j ∧ Ax T up.length r j ≤ 10 := by
  unfold Ax
  split
  · refine getD_mem0 (P := fun x => -10 ≤ x ∧ x ≤ 10) (fun x hx => ?_) (by omega) j
    rw [List.getD_eq_getElem?_getD] at hx
    cases hr : T[r]? with
    | none => rw [hr] at hx; simp at hx
    | some row => rw [hr] at hx; exact S.c row (mem_at hr) x hx
  · split <;> omega
theorem SmallS.inv (S : SmallS up T rt ls hs) {c : Nat} {B : Tb} (hR : Rch (up.length + T.length) T.length (Tz up T rt ls hs) c B) : TbI (up.length + T.length) T.length (Tz up T rt ls hs).a (Tz up T rt ls hs).b B ∧ B.lo = (Tz up T rt ls hs).lo ∧ B.hi = (Tz up T rt ls hs).hi := by
  obtain ⟨I, e1, e2⟩ := Rch.inv (tb0_I S.A S.ll S.hl S.le) S.lh hR
  exact ⟨I, by funext j; unfold Tb.lo; rw [e1], by funext j; unfold Tb.hi; rw [e2]⟩
theorem SmallS.ext (S : SmallS up T rt ls hs) {B : Tb} (I : TbI (up.length + T.length) T.length (Tz up T rt ls hs).a (Tz up T rt ls hs).b B) {i j : Nat} (hi : i < T.length) (hj : j < up.length + T.length) :
    B.a i j = (if B.b i = j then 1 else 0) + sm (fun r => Cx up.length B i r * ((Ax T up.length r j : Int) : Rat)) T.length :=
  tb_ext I (fun r j hr hj => by
    have hrow : T[r]? = some (T.getD r []) := by rw [List.getD_eq_getElem?_getD, List.getElem?_eq_getElem hr]; rfl
    have hrl : (T.getD r []).length = up.length := S.A.2 _ (mem_at hrow)
    rw [tb0_a hrow (by omega)]
    by_cases h : j < up.length
    · rw [if_pos h]
    · rw [if_neg h, List.getD_eq_getElem?_getD (l := T.getD r []), List.getElem?_eq_none (by omega)]; rfl) (fun r hr => tb0_b hr) hi hj
structure Nums (n M : Nat) (B : Tb) (D : Int) : Prop where
  nz : D ≠ 0
  b : -6000 ≤ D ∧ D ≤ 6000
  c : ∀ i r, i < M → r < M → Q1 D 200 (Cx n B i r)
  a : ∀ i j, i < M → j < n + M → Q1 D 12000 (B.a i j)
  z : ∀ j, j < n + M → (∀ i, i < M → B.b i ≠ j) → ∃ z : Int, (-1000000 ≤ z ∧ z ≤ 1000000) ∧ B.v j = (z : Rat)
  v : ∀ j, j < n + M → Q1 D 84000000000 (B.v j)
theorem SmallS.nums (S : SmallS up T rt ls hs) {c : Nat} {B : Tb} (hR : Rch (up.length + T.length) T.length (Tz up T rt ls hs) c B) : ∃ D, Nums up.length T.length B D := by
  obtain ⟨I, _, _⟩ := S.inv hR
  have hn := S.n
  have hm := S.m
  obtain ⟨D, d1, d2, d3⟩ := det_ex S.m (C := Cx up.length B) (P := fun r i => Ax T up.length r (B.b i)) (fun r i => S.ax r _) (fun i i' hi hi' => by
    have h1 := S.ext I hi (I.lt i' hi')
    rw [I.z i i' hi hi'] at h1
    by_cases e : i = i'
    · subst e; rw [if_pos rfl] at h1 ⊢; grind
    · rw [if_neg (fun h => e (I.inj i i' hi hi' h))] at h1
      rw [if_neg e]; grind)
  have ha : ∀ i j, i < T.length → j < up.length + T.length → Q1 D 12000 (B.a i j) := fun i j hi hj => by
    rw [S.ext I hi hj]
    have h1 : Q1 D 6000 (if B.b i = j then (1 : Rat) else 0) := by
      have := q1_int (D := D) (d := 6000) (z := if B.b i = j then 1 else 0) (Z := 1) d2 (by split <;> omega)
      rw [cast_ite] at this
      exact q1_mono this (by omega)
    have h2 := q1_sm (D := D) (B := 200 * 10) (f := fun r => Cx up.length B i r * ((Ax T up.length r j : Int) : Rat)) (n := T.length) fun r hr => q1_mulz (d3 i r hi hr) (S.ax r j)
    exact q1_mono (q1_add h1 h2) (by omega)
  have hz : ∀ j, j < up.length + T.length → (∀ i, i < T.length → B.b i ≠ j) → ∃ z : Int, (-1000000 ≤ z ∧ z ≤ 1000000) ∧ B.v j = (z : Rat) := fun j hj hnb => by
    rcases hR.atb (tb0_I S.A S.ll S.hl S.le) S.lh S.at0 j hj hnb with h | h
    · rw [h]; exact S.lo hj
    · rw [h]; exact S.hi hj
  refine ⟨D, d1, d2, d3, ha, hz, fun j hj => ?_⟩
  by_cases hb : ∃ i, i < T.length ∧ B.b i = j
  · obtain ⟨i, hi, rfl⟩ := hb
    rw [I.sat i hi]
    have h1 := q1_sm (D := D) (B := 12000 * 1000000) (f := fun j => B.a i j * B.v j) (n := up.length + T.length) fun q hq => by
      by_cases hqb : ∃ i', i' < T.length ∧ B.b i' = q
      · obtain ⟨i', hi', rfl⟩ := hqb
        rw [I.z i i' hi hi', Rat.zero_mul]
        exact q1_zero D (by omega)
      · obtain ⟨z, z1, z2⟩ := hz q hq fun i' hi' e => hqb ⟨i', hi', e⟩
        rw [z2]; exact q1_mulz (ha i q hi hq) z1
    exact q1_mono h1 (by omega)
  · obtain ⟨z, z1, z2⟩ := hz j hj fun i hi e => hb ⟨i, hi, e⟩
    rw [z2]
    exact q1_mono (q1_int d2 z1) (by omega)
theorem SmallS.mv (S : SmallS up T rt ls hs) {c : Nat} {B : Tb} (hR : Rch (up.length + T.length) T.length (Tz up T rt ls hs) c B) (ok : TbOk (up.length + T.length) T.length B) {row k : Nat} {below : Bool} (hs' : Stp (up.length + T.length) T.length B row below k) :
    MvFit (up.length + T.length) T.length B row k (goal B row below) := by
  obtain ⟨I, elo, ehi⟩ := S.inv hR
  obtain ⟨D, U⟩ := S.nums hR
  obtain ⟨hw, hk, hcan, _⟩ := hs'
  have hr := wr_lt hw
  dsimp only at hr
  have hnz := hcan.1
  have hkb : ∀ i, i < T.length → B.b i ≠ k := fun i hi e => hnz (by rw [← e]; exact I.z row i hr hi)
  have hb := I.lt row hr
  have D0 := U.nz
  have Db := U.b
  obtain ⟨K, K1, K2, hK⟩ := U.a row k hr hk
  have K0 : K ≠ 0 := by
    intro h
    rw [h] at hK
    have h1 : B.a row k * (D : Rat) = 0 := hK
    have h2 : (D : Rat) ≠ 0 := fun e => D0 (by exact_mod_cast e)
    rcases Rat.mul_eq_zero.1 h1 with q | q
    · exact hnz q
    · exact h2 q
  have hDK : D * K ≠ 0 := Int.mul_ne_zero D0 K0
  have bDK := abs_mul Db ⟨K1, K2⟩
  obtain ⟨zg, g1, g2⟩ : ∃ z : Int, (-1000000 ≤ z ∧ z ≤ 1000000) ∧ goal B row below = (z : Rat) := by
    unfold goal
    rw [elo, ehi]
    split
    · exact S.lo hb
    · exact S.hi hb
  obtain ⟨zk, zk1, zk2⟩ := U.z k hk hkb
  have q1' : Q1 D 90000000000 (goal B row below + -(B.v (B.b row))) := by
    rw [g2]; exact q1_mono (q1_add (q1_int Db g1) (q1_neg (U.v _ hb))) (by omega)
  have qby : Q1 K 90000000000 (B.by row k (goal B row below)) := q1_div q1' hK hnz
  have f2 : ∀ {E A : Int} {x : Rat}, E = K ∨ E = D → Q1 E A x → A ≤ 100000000000000000 → Fits x := fun {E A x} hE h hA => by
    rcases hE with rfl | rfl
    · exact q1_fits h K0 (by omega) hA
    · exact q1_fits h D0 (by omega) hA
  have f3 : ∀ {A : Int} {x : Rat}, Q1 (D * K) A x → A ≤ 100000000000000000 → Fits x := fun {A x} h hA => q1_fits h hDK (by omega) hA
  have hone : Q1 D 6000 (1 : Rat) := q1_int (z := 1) (Z := 1) Db (by omega)
  have hnr : ∀ j, j < up.length + T.length → Q1 K 12000 ((B.nr row k).getD j 0) := fun j hj => by
    rw [nr_val ok hr hj]
    unfold nrow
    split
    · exact q1_mono (q1_div hone hK hnz) (by omega)
    · split
      · exact q1_zero K (by omega)
      · exact q1_neg0 (q1_div (U.a row j hr hj) hK hnz)
  refine ⟨f2 (.inr rfl) q1' (by omega), f2 (.inl rfl) qby (by omega), ?_, fun i hi hir _ => ?_, fun j hj _ => ?_, ?_, fun i hi hir _ j hj _ => ?_⟩
  · rw [zk2]
    exact f2 (.inl rfl) (q1_add (q1_int (d := 12000) ⟨K1, K2⟩ zk1) qby) (by omega)
  · have e : (B.vN row k (goal B row below) i).getD (B.b i) 0 = B.v (B.b i) := by
      rw [vN_other fun i' h1 _ e => by have := I.inj i' i (by omega) hi e; omega, v0_val ok (ok.b_lt hi), if_neg (fun e => hkb i hi e.symm), if_neg (fun e => hir (I.inj row i hr hi e).symm)]
    have h1 := q1_mul (U.a i k hi hk) qby
    refine ⟨f3 h1 (by omega), ?_⟩
    rw [e]
    exact f3 (q1_add (q1_up (e := 12000) (U.v _ (I.lt i hi)) ⟨K1, K2⟩) h1) (by omega)
  · have h1 := q1_div (U.a row j hr hj) hK hnz
    exact ⟨f2 (.inl rfl) h1 (by omega), f2 (.inl rfl) (q1_neg0 h1) (by omega)⟩
  · exact f2 (.inl rfl) (q1_div hone hK hnz) (by omega)
  · have h1 := q1_mul (U.a i k hi hk) (hnr j hj)
    refine ⟨f3 h1 (by omega), ?_⟩
    have hl := ok.row_len hi
    rw [addN_val (by rw [List.length_set, hl]; exact hj), if_neg (by omega), getD_set_in (by rw [hl]; exact hj)]
    have h2 : Q1 D 12000 (if k = j then 0 else (B.rows.getD i []).getD j 0) := by
      split
      · exact q1_zero D (by omega)
      · exact U.a i j hi hj
    exact f3 (q1_add (q1_up (e := 12000) h2 ⟨K1, K2⟩) h1) (by omega)
theorem sumQ_zero (row : List Int) (n : Nat) : ∀ k, sumQ row (List.replicate n 0) k = 0
  | 0 => rfl
  | k + 1 => by
    have h0 : (List.replicate n (0 : Int)).getD k 0 = 0 := getD_mem0 (P := fun x => x = 0) (fun x hx => (List.mem_replicate.1 hx).2) rfl k
    unfold sumQ
    rw [sumQ_zero row n k, h0]
    split
    · show (0 : Rat) + _ * (0 : Rat) = 0; grind
    · rfl
theorem bg_zero (n m : Nat) (T : List (List Int)) : BgFit m T (List.replicate n 0) := by
  intro row _ k _ _
  have h0 : (List.replicate n (0 : Int)).getD k 0 = 0 := getD_mem0 (P := fun x => x = 0) (fun x hx => (List.mem_replicate.1 hx).2) rfl k
  rw [sumQ_zero, h0]
  have e1 : ((row.getD k 0 : Int) : Rat) * ((0 : Int) : Rat) = ((0 : Int) : Rat) := by show _ * (0 : Rat) = (0 : Rat); grind
  rw [e1]
  have e2 : (0 : Rat) + ((0 : Int) : Rat) = ((0 : Int) : Rat) := by show (0 : Rat) + 0 = 0; grind
  rw [e2]
  exact ⟨fits_of_int (by omega), fits_of_int (by omega)⟩
theorem dead {N M : Nat} {B : Tb} {a0 : Nat → Nat → Rat} {b0 : Nat → Nat} (I : TbI N M a0 b0 B) {row : Nat} {below : Bool} (hr : row < M) (hv : if below = true then B.v (B.b row) < B.lo (B.b row) else B.hi (B.b row) < B.v (B.b row)) (hd : ∀ k, k < N → ¬ B.can row below k)
    (y : Nat → Rat) (hy : ∀ j, j < N → B.lo j ≤ y j ∧ y j ≤ B.hi j) : if below = true then sm (fun j => B.a row j * y j) N < y (B.b row) else y (B.b row) < sm (fun j => B.a row j * y j) N := by
  have hb := hy _ (I.lt row hr)
  have hsat := I.sat row hr
  have each : ∀ j, j < N → B.a row j = 0 ∨ (¬ (if decide (0 < B.a row j) = below then B.v j < B.hi j else B.lo j < B.v j)) := fun j hj => by
    by_cases hz : B.a row j = 0
    · exact .inl hz
    · refine .inr fun h => hd j hj ⟨hz, fun e => hz (by rw [e]; exact I.z row row hr hr), h⟩
  cases below with
  | true =>
    rw [if_pos rfl] at hv ⊢
    have : sm (fun j => B.a row j * y j) N ≤ sm (fun j => B.a row j * B.v j) N := sm_le fun j hj => by
      rcases each j hj with h | h
      · rw [h]; grind
      · have hyj := hy j hj
        by_cases hp : 0 < B.a row j
        · rw [if_pos (by simp [hp])] at h
          exact Rat.mul_le_mul_of_nonneg_left (Rat.le_trans hyj.2 (Rat.not_lt.1 h)) (Rat.le_of_lt hp)
        · rw [if_neg (by simp [hp])] at h
          have := Rat.mul_le_mul_of_nonneg_left (Rat.le_trans (Rat.not_lt.1 h) hyj.1) (show 0 ≤ -(B.a row j) by grind)
          grind
    rw [← hsat] at this
    grind
  | false =>
    simp only [Bool.false_eq_true, if_false] at hv ⊢
    have : sm (fun j => B.a row j * B.v j) N ≤ sm (fun j => B.a row j * y j) N := sm_le fun j hj => by
      rcases each j hj with h | h
      · rw [h]; grind
      · have hyj := hy j hj
        by_cases hp : 0 < B.a row j
        · rw [if_neg (by simp [hp])] at h
          exact Rat.mul_le_mul_of_nonneg_left (Rat.le_trans (Rat.not_lt.1 h) hyj.1) (Rat.le_of_lt hp)
        · rw [if_pos (by simp [hp])] at h
          have := Rat.mul_le_mul_of_nonneg_left (Rat.le_trans hyj.2 (Rat.not_lt.1 h)) (show 0 ≤ -(B.a row j) by grind)
          grind
    rw [← hsat] at this
    grind
theorem low_sm (T : List (List Int)) (M : List (Int × Int)) (lo hi : List Int) : ∀ n, lowN T M lo hi n = sm (fun k => colQ T M k * ((pickB (colQ T M k) lo hi k : Int) : Rat)) n
  | 0 => rfl
  | n + 1 => by show lowN T M lo hi n + _ = sm _ n + _; rw [low_sm T M lo hi n]
theorem mults_get {B : Tb} (I : TbI (up.length + T.length) T.length (Tz up T rt ls hs).a (Tz up T rt ls hs).b B) {row r : Nat} (hr : row < T.length) (hrM : r < T.length) : (mults up.length T.length B row)[r]? = some (Cx up.length B row r) := by
  unfold mults
  rw [List.getElem?_map, List.getElem?_range hrM]
  show some _ = some _
  congr 1
  dsimp only
  unfold Cx
  by_cases h : B.b row = up.length + r
  · rw [if_pos h, if_pos h]
    have := I.z row row hr hr
    rw [h] at this
    rw [this]; grind
  · rw [if_neg h, if_neg h]
theorem SmallS.bnd (S : SmallS up T rt ls hs) (hok : sysE up T rt = 0) {c : Nat} {B : Tb} (hR : Rch (up.length + T.length) T.length (Tz up T rt ls hs) c B) {row : Nat} {below : Bool} (hw : B.wr T.length = some (row, below)) (hd : ∀ k, k < up.length + T.length → ¬ B.can row below k) :
    BndP up T rt ls hs ((mults up.length T.length B row).map prQ) := by
  obtain ⟨I, elo, ehi⟩ := S.inv hR
  obtain ⟨D, U⟩ := S.nums hR
  obtain ⟨hr, hv1, hv2, _⟩ := wr_spec hw
  dsimp only at hr hv1 hv2
  have hA := S.A
  have hn := S.n
  have hm := S.m
  have hget : ∀ r, r < T.length → ((mults up.length T.length B row).map prQ)[r]? = some (prQ (Cx up.length B row r)) := fun r h => by rw [List.getElem?_map, mults_get I hr h]; rfl
  have hcfit : ∀ r, r < T.length → Fits (Cx up.length B row r) := fun r h => q1_fits (U.c row r hr h) U.nz (by have := U.b; omega) (by omega)
  have hcol : ∀ k, k < up.length → colQ T ((mults up.length T.length B row).map prQ) k = sm (fun r => Cx up.length B row r * ((Ax T up.length r k : Int) : Rat)) T.length := fun k hk => by
    unfold colQ
    rw [dotN_sm']
    refine sm_congr fun r h => ?_
    have hrow : T[r]? = some (T.getD r []) := by rw [List.getD_eq_getElem?_getD, List.getElem?_eq_getElem h]; rfl
    have hrl : (T.getD r []).length = up.length := hA.2 _ (mem_at hrow)
    rw [dotT_at (c := (T.getD r []).getD k 0) (colI_get hrow (by rw [List.getD_eq_getElem?_getD (l := T.getD r []), List.getElem?_eq_getElem (by omega)]; rfl)) (hget r h), ratv_fits]
    unfold Ax
    rw [if_pos hk]
  have hrhs : rhsQ T rt ((mults up.length T.length B row).map prQ) = sm (fun r => Cx up.length B row r * ((rt.getD r 0 : Int) : Rat)) T.length := by
    unfold rhsQ
    rw [dotN_sm']
    refine sm_congr fun r h => ?_
    rw [dotT_at (c := rt.getD r 0) (by rw [List.getD_eq_getElem?_getD, List.getElem?_eq_getElem (by have := hA.1; omega)]; rfl) (hget r h), ratv_fits]
  have hcolQ : ∀ k, k < up.length → Q1 D 6000 (colQ T ((mults up.length T.length B row).map prQ) k) := fun k hk => by
    rw [hcol k hk]
    exact q1_mono (q1_sm (B := 200 * 10) fun r h => q1_mulz (U.c row r hr h) (S.ax r k)) (by omega)
  have hrhsQ : Q1 D 600000000 (rhsQ T rt ((mults up.length T.length B row).map prQ)) := by
    rw [hrhs]
    exact q1_mono (q1_sm (B := 200 * 1000000) fun r h => q1_mulz (U.c row r hr h) (getD_mem0 (P := fun x => -1000000 ≤ x ∧ x ≤ 1000000) S.r (by omega) r)) (by omega)
  have Db := U.b
  refine ⟨combE_0 hok (by simp [mults]) (fun p hp => ?_) ⟨fun k hk => q1_fits (hcolQ k hk) U.nz (by omega) (by omega), q1_fits hrhsQ U.nz (by omega) (by omega)⟩, S.ll, S.hl, fun x hx => ?_, fun x hx => ?_, ?_⟩
  · obtain ⟨r, hr'⟩ := List.getElem?_of_mem hp
    have hrM : r < T.length := by have := (List.getElem?_eq_some_iff.1 hr').1; simpa [mults] using this
    rw [hget r hrM] at hr'
    cases hr'
    exact frac_fits (hcfit r hrM)
  · have := S.l x hx; exact ⟨by omega, by omega⟩
  · have := S.h x hx; exact ⟨by omega, by omega⟩
  -- a point of the box
  have point : ∀ z : Nat → Int, (∀ k, k < up.length → ls.getD k 0 ≤ z k ∧ z k ≤ hs.getD k 0) → (if below = true then sm (fun k => colQ T ((mults up.length T.length B row).map prQ) k * ((z k : Int) : Rat)) up.length < rhsQ T rt ((mults up.length T.length B row).map prQ) else rhsQ T rt ((mults up.length T.length B row).map prQ) < sm (fun k => colQ T ((mults up.length T.length B row).map prQ) k * ((z k : Int) : Rat)) up.length) := fun z hz => by
    let y : Nat → Rat := fun j => if j < up.length then ((z j : Int) : Rat) else ((rt.getD (j - up.length) 0 : Int) : Rat)
    have y1 : ∀ j, j < up.length → y j = ((z j : Int) : Rat) := fun j h => if_pos h
    have y2 : ∀ r, y (up.length + r) = ((rt.getD r 0 : Int) : Rat) := fun r => by
      show (if up.length + r < up.length then _ else _) = _
      rw [if_neg (by omega), Nat.add_sub_cancel_left]
    have hyb : ∀ j, j < up.length + T.length → B.lo j ≤ y j ∧ y j ≤ B.hi j := fun j hj => by
      rw [elo, ehi]
      rcases Nat.lt_or_ge j up.length with h | h
      · obtain ⟨a, ha⟩ : ∃ x, ls[j]? = some x := ⟨_, List.getElem?_eq_getElem (by have := S.ll; omega)⟩
        obtain ⟨b, hb⟩ : ∃ x, hs[j]? = some x := ⟨_, List.getElem?_eq_getElem (by have := S.hl; omega)⟩
        have := hz j h
        rw [getD_some ha, getD_some hb] at this
        rw [y1 j h, tb0_lo ha, tb0_hi hb]
        exact ⟨Rat.intCast_le_intCast.2 this.1, Rat.intCast_le_intCast.2 this.2⟩
      · obtain ⟨r, rfl⟩ : ∃ r, j = up.length + r := ⟨j - up.length, by omega⟩
        obtain ⟨x, hx⟩ : ∃ x, rt[r]? = some x := ⟨_, List.getElem?_eq_getElem (by have := hA.1; omega)⟩
        rw [y2, getD_some hx, tb0_lob S.ll hA.1 hx, tb0_hib S.hl hA.1 hx]
        exact ⟨Rat.le_refl, Rat.le_refl⟩
    have hdd := dead I hr (by
      rw [hv2]
      by_cases h : B.v (B.b row) < B.lo (B.b row)
      · rw [if_pos (by simpa using h)]; exact h
      · rw [if_neg (by simpa using h)]; exact hv1.resolve_left h) hd y hyb
    -- the row is a combination of the first rows
    have e1 : sm (fun j => B.a row j * y j) (up.length + T.length) = y (B.b row) + (sm (fun k => colQ T ((mults up.length T.length B row).map prQ) k * ((z k : Int) : Rat)) up.length + -(rhsQ T rt ((mults up.length T.length B row).map prQ))) := by
      have e2 : ∀ j, j < up.length + T.length → B.a row j * y j = (if j = B.b row then y j else 0) + sm (fun r => Cx up.length B row r * ((Ax T up.length r j : Int) : Rat)) T.length * y j := fun j hj => by
        rw [S.ext I hr hj]
        by_cases h : B.b row = j
        · rw [if_pos h, if_pos h.symm]; grind
        · rw [if_neg h, if_neg (fun e => h e.symm)]; grind
      rw [sm_congr e2, sm_add, sm_single (I.lt row hr), sm_split]
      congr 1
      congr 1
      · exact sm_congr fun k hk => by rw [y1 k hk, hcol k hk]
      · rw [hrhs]
        have e3 : ∀ r, r < T.length → sm (fun r' => Cx up.length B row r' * ((Ax T up.length r' (up.length + r) : Int) : Rat)) T.length * y (up.length + r) = Cx up.length B row r * ((rt.getD r 0 : Int) : Rat) * (-1) := fun r h => by
          rw [sm_congr (g := fun r' => if r' = r then -(Cx up.length B row r') else 0) fun r' _ => by
            unfold Ax
            rw [if_neg (by omega)]
            by_cases h : r' = r
            · subst h; rw [if_pos rfl, if_pos rfl]; show _ * (-1 : Rat) = _; grind
            · rw [if_neg (by omega), if_neg h]; show _ * (0 : Rat) = _; grind]
          rw [sm_single (f := fun r' => -(Cx up.length B row r')) h, y2]
          grind
        rw [sm_congr e3, sm_mul]
        grind
    rw [e1] at hdd
    cases below with
    | true => rw [if_pos rfl] at hdd ⊢; grind
    | false => simp only [Bool.false_eq_true, if_false] at hdd ⊢; grind
  have pk : ∀ k, k < up.length → ∃ a b, ls[k]? = some a ∧ hs[k]? = some b ∧ a ≤ b ∧ ls.getD k 0 = a ∧ hs.getD k 0 = b := fun k hk => by
    obtain ⟨a, ha⟩ : ∃ x, ls[k]? = some x := ⟨_, List.getElem?_eq_getElem (by have := S.ll; omega)⟩
    obtain ⟨b, hb⟩ : ∃ x, hs[k]? = some x := ⟨_, List.getElem?_eq_getElem (by have := S.hl; omega)⟩
    exact ⟨a, b, ha, hb, S.le k a b ha hb, getD_some ha, getD_some hb⟩
  right
  cases hbl : below with
  | true =>
    right
    rw [low_sm]
    have := point (fun k => pickB (colQ T ((mults up.length T.length B row).map prQ) k) hs ls k) fun k hk => by
      obtain ⟨a, b, ha, hb, hab, e1, e2⟩ := pk k hk
      rw [pick_at hb ha, e1, e2]
      split <;> omega
    rw [hbl, if_pos rfl] at this
    exact this
  | false =>
    left
    rw [low_sm]
    have := point (fun k => pickB (colQ T ((mults up.length T.length B row).map prQ) k) ls hs k) fun k hk => by
      obtain ⟨a, b, ha, hb, hab, e1, e2⟩ := pk k hk
      rw [pick_at ha hb, e1, e2]
      split <;> omega
    rw [hbl] at this
    simpa using this
theorem small_never (S : SmallS up T rt (List.replicate up.length 0) up) (hok : sysE up T rt = 0) : ¬ RlxC up T rt (List.replicate up.length 0) up 2000 := by
  rintro (h | ⟨c, B, hR, ok, h⟩)
  · exact h (bg_zero _ _ _)
  · rcases h with h | ⟨row, below, k, h1, h2⟩ | ⟨row, below, h1, h2, h3⟩
    · have := rch_short S.A S.ll S.hl S.le S.n S.m hR
      omega
    · exact h2 (S.mv hR ok h1)
    · exact h3 (S.bnd hok hR h1 h2)
end
end Go.Proofs.Ytajpdnphamomjaa

/- The conditions of functions, printed by our tool; each is checked against the code by the kernel. -/



namespace Go.Proofs
open Go Go.V Go.RowKit
def S10 (l_a : Option Addr) (l_n : Nat) (l_c : Nat) (w0 : World) (R : Value → World → Prop) : Prop :=
 wr Try.prog (Instr.box 50 (.agg #[(.slice l_a l_n l_c), (.int .i64 0)])) (.one .addr) w0 fun (x1 : Addr) w2 =>
 call Try.prog 34 [(.pointer (some x1)), (.int .i64 4), (.int .i64 3), (.int .i64 20)] (.one (.agg [.slice, .slice, .slice])) w2 fun (x3 : (Hd3 × Hd3 × Hd3 × Unit)) w4 =>
 wr Try.prog (Instr.alloc 43 true (.tuple #[])) (.one .addr) w4 fun (x5 : Addr) w6 =>
 wu Try.prog (Instr.storeAt 43 (.pointer (some x5)) (.agg #[(.slice x3.1.1 x3.1.2.1 x3.1.2.2), (.slice x3.2.1.1 x3.2.1.2.1 x3.2.1.2.2), (.slice x3.2.2.1.1 x3.2.2.1.2.1 x3.2.2.1.2.2)])) w6 fun w7 =>
 rd Try.prog (Instr.loadAt 43 (.pointer (some x5))) (.agg [.slice, .slice, .slice]) w7 fun (x8 : (Hd3 × Hd3 × Hd3 × Unit)) =>
 call Try.prog 43 [(.agg #[(.slice x8.1.1 x8.1.2.1 x8.1.2.2), (.slice x8.2.1.1 x8.2.1.2.1 x8.2.1.2.2), (.slice x8.2.2.1.1 x8.2.2.1.2.1 x8.2.2.1.2.2)])] (.many [(.one .slice), (.one .slice), (.one (.int .i64))]) w7 fun (x9 : (Hd3 × Hd3 × Int × Unit)) w10 =>
 br (x9.2.2.1 != 0) (R (.bool false) w10)
 (br (decide (((x9.1.2.1 : Nat) : Int) > 0)) (rd Try.prog (Instr.loadAt 43 (.pointer (some x5))) (.agg [.slice, .slice, .slice]) w10 fun (x11 : (Hd3 × Hd3 × Hd3 × Unit)) =>
 call Try.prog 33 [(.agg #[(.slice x11.1.1 x11.1.2.1 x11.1.2.2), (.slice x11.2.1.1 x11.2.1.2.1 x11.2.1.2.2), (.slice x11.2.2.1.1 x11.2.2.1.2.1 x11.2.2.1.2.2)]), (.slice x9.1.1 x9.1.2.1 x9.1.2.2)] (.one (.one .bool)) w10 fun (x12 : Bool) w13 =>
 br x12 (R (.bool (((x9.2.1.2.1 : Nat) : Int) == 0)) w13)
 (R (.bool false) w13))
 (rd Try.prog (Instr.loadAt 40 (.pointer (some x5))) (.one .slice) w10 fun (x14 : Hd3) =>
 br (((x14.2.1 : Nat) : Int) == 0) (rd Try.prog (Instr.loadAt 43 (.pointer (some x5))) (.agg [.slice, .slice, .slice]) w10 fun (x15 : (Hd3 × Hd3 × Hd3 × Unit)) =>
 call Try.prog 33 [(.agg #[(.slice x15.1.1 x15.1.2.1 x15.1.2.2), (.slice x15.2.1.1 x15.2.1.2.1 x15.2.1.2.2), (.slice x15.2.2.1.1 x15.2.2.1.2.1 x15.2.2.1.2.2)]), (.slice x9.1.1 x9.1.2.1 x9.1.2.2)] (.one (.one .bool)) w10 fun (x16 : Bool) w17 =>
 br x16 (R (.bool (((x9.2.1.2.1 : Nat) : Int) == 0)) w17)
 (R (.bool false) w17))
 (drw w10 fun w18 => flEx fun F19 =>
 rd Try.prog (Instr.loadAt 43 (.pointer (some x5))) (.agg [.slice, .slice, .slice]) w18 fun (x20 : (Hd3 × Hd3 × Hd3 × Unit)) =>
 rd Try.prog (Instr.loadAt 40 (.pointer (some x5))) (.one .slice) w18 fun (x21 : Hd3) =>
 flc bel w18 (fun _w23 => True) (fun w22 =>
   wr Try.prog (Instr.makeSlice 40 (.int .i64 ((x21.2.1 : Nat) : Int)) (.int .i64 ((x21.2.1 : Nat) : Int))) (.one .slice) w22 fun (x24 : Hd3) w25 =>
 (bel w22 w25 ∧ F19 4 [] (.slice x24.1 x24.2.1 x24.2.2) w25))
  fun (x26 : Hd3) =>
 rd Try.prog (Instr.loadAt 40 (.pointer (some x5))) (.one .slice) w18 fun (x27 : Hd3) =>
 flend bel w18 (fun w29 => F19 4 [] (.slice x26.1 x26.2.1 x26.2.2) w29 ∧ True) fun w28 =>
 call Try.prog 42 [(.agg #[(.slice x20.1.1 x20.1.2.1 x20.1.2.2), (.slice x20.2.1.1 x20.2.1.2.1 x20.2.1.2.2), (.slice x20.2.2.1.1 x20.2.2.1.2.1 x20.2.2.1.2.2)]), (.slice x26.1 x26.2.1 x26.2.2), (.slice x27.1 x27.2.1 x27.2.2), (.slice x9.2.1.1 x9.2.1.2.1 x9.2.1.2.2)] (.one (.one .bool)) w28 fun (x30 : Bool) w31 =>
 R (.bool x30) w31)))
def H10 : Hints := ⟨[], [(8, 8)], [], []⟩
set_option maxRecDepth 100000 in
theorem S10_eq (l_a : Option Addr) (l_n : Nat) (l_c : Nat) (w0 : World) (R : Value → World → Prop) : vcFn Try.prog H10 Try.f10 [(.slice l_a l_n l_c)] w0 R = S10 l_a l_n l_c w0 R := by kernel_rfl
set_option maxRecDepth 100000 in
theorem S10_calls (l_a : Option Addr) (l_n : Nat) (l_c : Nat) (w0 : World) (R : Value → World → Prop) (h : S10 l_a l_n l_c w0 R) : Calls Try.prog 10 #[(.slice l_a l_n l_c)] w0 (ret R) := by
  rw [← S10_eq] at h; exact vcFn_sound follows_ Try.func10 h

end Go.Proofs

/- LinearSolves. -/



namespace Go.Proofs.Ytajpdnphamomjaa
open Go.RowKit Go.Q Go.Q.Num Go.V

theorem SmallS.of {up : List Int} {T : List (List Int)} {rt : List Int} (hok : sysE up T rt = 0) (hn : up.length ≤ 4) (hm : T.length ≤ 3) (hc : ∀ row ∈ T, ∀ x ∈ row, -10 ≤ x ∧ x ≤ 10) (hr : ∀ x ∈ rt, -1000000 ≤ x ∧ x ≤ 1000000) (hu : ∀ x ∈ up, 0 ≤ x ∧ x ≤ 1000000) : SmallS up T rt (List.replicate up.length 0) up := by
  obtain ⟨_, _, _, hA⟩ := sysE_ok hok
  refine ⟨hn, hm, hc, hr, fun x hx => by rw [(List.mem_replicate.1 hx).2]; omega, fun x hx => by have := hu x hx; omega, hA, by simp, rfl, fun k a b ha hb => ?_⟩
  have h0 := (List.mem_replicate.1 (mem_at ha)).2
  have := hu b (mem_at hb)
  omega
set_option maxHeartbeats 1600000 in
theorem linSolves (l : Hdr) (L : List Int) (w : World) (HL : Sl w l.1 l.2.1 l.2.2 1 (ints .i64 L)) (hL : ∀ x ∈ L, I64 x) :
    Calls Try.prog 10 #[.slice l.1 l.2.1 l.2.2] w (fun e w' => e = .returned (.bool true) ∧ Below w.heap.size w w') := by
  refine Calls.mono (S10_calls l.1 l.2.1 l.2.2 w (fun v w' => v = .bool true ∧ bel w w') ?_) (by rintro e w' ⟨v, rfl, rfl, hb⟩; exact ⟨rfl, hb⟩)
  unfold S10
  refine wr_box fun x1 w2 TB h2 hx1 _ => ?_
  have ht := tape_new HL hL TB h2 hx1
  refine call_mono (systemF 4 3 20 ht (by omega) (by omega) (by omega) (by omega) (by omega)) ?_
  rintro ((x3 : Hdr × Hdr × Hdr × Unit)) w4 ⟨up, T, rt, p, MS, HS, _, _, hg4⟩
  obtain ⟨u, r, b, _⟩ := x3
  dsimp only at HS
  have hok := made_ok' MS (by omega) (by omega) (by omega)
  have b4 : bel w w4 := h2.grownAt hg4 (by omega)
  have H4 := HS w4 (grown_refl _ _)
  refine var_mk (v := sysv u r b) (z := .agg #[.slice none 0 0, .slice none 0 0, .slice none 0 0]) (by kernel_rfl) (by kernel_rfl) rfl rfl fun x5 w7 X h7 hx5 => ?_
  replace X : Box w7 x5 (sysc u r b) := X
  have b7 := b4.trans h7
  have H7 := H4.up h7
  refine rd_boxN X (by kernel_rfl) rfl ?_
  refine call_mono (linSolve u r b up T rt w7 H7 hok MS.n1) fun (x9 : Hdr × Hdr × Int × Unit) w10 q => ?_
  obtain ⟨hres, h10⟩ := q
  have b10 := b7.trans h10
  have H10 := H7.up h10
  have X10 := X.up h10
  have n1 := MS.n1
  have hsm : SmallS up T rt (List.replicate up.length 0) up := SmallS.of hok MS.n2 MS.t (fun row hrow x hx => by have := (MS.row row hrow).2 x hx; omega) (fun x hx => by have := MS.rt x hx; omega) (fun x hx => by have := MS.up x hx; omega)
  rcases hres with ⟨e1, e2, M, hM, O, hf, hs⟩ | ⟨e1, e2, e3, M, hM, O, hf, hs⟩ | ⟨e1, e2, e3, hC⟩
  · have hl := slQ_len O.sl
    refine br_f (by rw [e1]; rfl) ?_
    refine br_t (by simp; omega) ?_
    refine rd_boxN X10 (by kernel_rfl) rfl ?_
    have SM := O.sl
    rw [flat_prQ] at SM
    refine call_mono (sol11 u r b x9.1 up T rt _ w10 H10 SM (prQ_i64 hf)) fun (x12 : Bool) w13 q => ?_
    refine br_t (q.1.2 hs) ?_
    exact ⟨by rw [e2]; rfl, b10.trans q.2⟩
  · have hl := slQ_len O.sl
    have hur := H10.u.int
    have hu2 := MS.n2
    refine br_f (by rw [e1]; rfl) ?_
    refine br_f (by rw [e2]; rfl) ?_
    refine rd_box0 (by kernel_rfl) X10 rfl rfl ?_
    refine br_f (by simp; omega) ?_
    refine drw_mk fun w14 h14 _ => ?_
    have X14 := X10.up h14
    refine flEx_mk (fun _ _ v w' => ∃ ad, v = .slice (some ad) up.length up.length ∧ Sl w' (some ad) up.length up.length 1 (ints .i64 (List.replicate up.length 0))) (fun _ _ _ _ _ q hb => by obtain ⟨ad, h1, h2⟩ := q; exact ⟨ad, h1, h2.up hb⟩) ?_
    refine rd_boxN X14 (by kernel_rfl) rfl ?_
    refine rd_box0 (by kernel_rfl) X14 rfl rfl ?_
    refine flc_mk (fun w18 h18 _ => ?_) fun x22 => ?_
    · refine wr_make tyI64 up.length (by dsimp only; omega) (by dsimp only; omega) (by omega) (by unfold maxLen; omega) fun xd w13 OX hb _ _ => ?_
      refine ⟨hb, xd, rfl, ?_⟩
      have := (OX w18.heap.size (Nat.le_refl _)).sl
      rw [Nat.mul_one, show (madeCells (Value.int .i64 0).cells up.length).toList = ints .i64 (List.replicate up.length 0) from made_int .i64 _] at this
      exact this
    refine rd_box0 (by kernel_rfl) X14 rfl rfl ?_
    refine flend_mk fun w24 h24 q => ?_
    obtain ⟨⟨ad, ev, SZ⟩, _⟩ := q
    obtain rfl : x22 = (some ad, up.length, up.length) := hv_inj ev
    have b24 := h14.trans h24
    have SM := (O.sl).up b24
    rw [flat_prQ] at SM
    refine call_mono (bnd11 u r b (some ad, up.length, up.length) u x9.2.1 up T rt _ up _ w24 (H10.up b24) SM (prQ_i64 hf) SZ (H10.up b24).u) fun (x26 : Bool) w27 q => ?_
    exact ⟨by rw [q.1.2 hs], (b10.trans b24).trans q.2⟩
  · exact absurd hC (small_never hsm hok)
end Go.Proofs.Ytajpdnphamomjaa
