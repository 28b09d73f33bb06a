/- FractionOrders: the plain law. -/
import Derived.Test.YtajpdnphamomjaaGreatFH
import Derived.Test.YtajpdnphamomjaaGreatOpen
namespace Go.Proofs.YtajpdnphamomjaaGreat
open Go.RowKit Go.Q Go.Q.Num

set_option maxRecDepth 100000 in
theorem argFrac {w : World} {v : Value} (h : Arg Tryz.prog w 60 v) : ∃ n d : Int, v = fracv n d ∧ -9223372036854775808 ≤ n ∧ n ≤ 9223372036854775807 ∧ -9223372036854775808 ≤ d ∧ d ≤ 9223372036854775807 := by
  obtain ⟨⟨r, b, ho⟩, hr⟩ := h
  unfold Value.okWide at ho
  rw [Tryz.underlying60] at ho
  obtain ⟨cs, rfl, hsz, _⟩ := ho
  have hsz' : cs.size = 2 := by rw [hsz]; kernel_rfl
  obtain ⟨x, y, rfl⟩ : ∃ x y, cs = #[x, y] := by
    rcases cs with ⟨l⟩
    rcases l with _ | ⟨x, _ | ⟨y, _ | ⟨z, l⟩⟩⟩ <;> simp at hsz'
    exact ⟨x, y, rfl⟩
  have h := (Go.Q.Read.struct Tryz.underlying60 hr).2
  have e1 : Go.Q.Read Tryz.prog w 2 [x] := h _ (List.mem_cons_self ..)
  have e2 : Go.Q.Read Tryz.prog w 2 [y] := h _ (List.mem_cons_of_mem _ (List.mem_cons_self ..))
  obtain ⟨n, hn, hw⟩ := Go.Q.Read.int Tryz.underlying2 e1
  obtain ⟨d, hd, hw'⟩ := Go.Q.Read.int Tryz.underlying2 e2
  cases hn; cases hd
  have a := bounds_i64 hw
  have b := bounds_i64 hw'
  exact ⟨n, d, rfl, by omega, by omega, by omega, by omega⟩

theorem comp_swap {n d n' d' : Int} : compv n' d' n d = - compv n d n' d' := by
  unfold compv
  by_cases h : IsFrac n d ∧ IsFrac n' d'
  · rw [if_pos h, if_pos ⟨h.2, h.1⟩]
    unfold cmpi
    rcases Int.lt_trichotomy (n * d') (n' * d) with h | h | h
    · rw [if_neg (by omega), if_pos (by omega), if_pos (by omega)]; rfl
    · rw [if_neg (by omega), if_neg (by omega), if_neg (by omega), if_neg (by omega)]; rfl
    · rw [if_pos (by omega), if_neg (by omega), if_pos (by omega)]
  · rw [if_neg h, if_neg (by rintro ⟨a, b⟩; exact h ⟨b, a⟩)]; rfl
theorem comp_self (n d : Int) : compv n d n d = 0 := by
  unfold compv cmpi; split
  · rw [if_neg (by omega), if_neg (by omega)]
  · rfl
theorem comp_le {n d n' d' : Int} (h : IsFrac n d) (h' : IsFrac n' d') : compv n d n' d' ≤ 0 ↔ n * d' ≤ n' * d := by
  unfold compv cmpi; rw [if_pos ⟨h, h'⟩]; split
  · simp; omega
  · split <;> simp <;> omega
theorem comp_lt {n d n' d' : Int} (h : IsFrac n d) (h' : IsFrac n' d') : compv n d n' d' < 0 ↔ n * d' < n' * d := by
  unfold compv cmpi; rw [if_pos ⟨h, h'⟩]; split
  · simp; omega
  · split <;> simp <;> omega
theorem comp_eq {n d n' d' : Int} (h : IsFrac n d) (h' : IsFrac n' d') : compv n d n' d' = 0 ↔ n = n' ∧ d = d' := by
  have h1 : compv n d n' d' = 0 ↔ n * d' = n' * d := by
    unfold compv cmpi; rw [if_pos ⟨h, h'⟩]; split
    · simp; omega
    · split <;> simp <;> omega
  rw [h1]
  constructor
  · intro e
    obtain ⟨r, hr, hr2, _⟩ := ratOf h
    obtain ⟨s, hs, hs2, _⟩ := ratOf h'
    have : r = s := by
      rw [← Rat.mkRat_self r, ← Rat.mkRat_self s]
      exact (Rat.mkRat_eq_iff r.den_nz s.den_nz).2 (by rw [hr, hs, hr2, hs2]; exact e)
    subst this
    exact ⟨by rw [← hr, ← hs], by rw [← hr2, ← hs2]⟩
  · rintro ⟨rfl, rfl⟩; rfl
theorem comp_trans {n d n' d' n'' d'' : Int} (h : IsFrac n d) (h' : IsFrac n' d') (h'' : IsFrac n'' d'') (e1 : compv n d n' d' ≤ 0) (e2 : compv n' d' n'' d'' ≤ 0) : compv n d n'' d'' ≤ 0 := by
  rw [comp_le h h'] at e1
  rw [comp_le h' h''] at e2
  rw [comp_le h h'']
  have k : 0 < d' := by have := h'.1; omega
  have a1 := Int.mul_le_mul_of_nonneg_right e1 (show 0 ≤ d'' by have := h''.1; omega)
  have a2 := Int.mul_le_mul_of_nonneg_right e2 (show 0 ≤ d by have := h.1; omega)
  have b1 : n * d' * d'' = n * d'' * d' := by rw [Int.mul_right_comm]
  have b2 : n' * d * d'' = n' * d'' * d := by rw [Int.mul_right_comm]
  have b3 : n'' * d' * d = n'' * d * d' := by rw [Int.mul_right_comm]
  exact Int.le_of_mul_le_mul_right (by omega : n * d'' * d' ≤ n'' * d * d') k
theorem isFrac_one {n : Int} (h1 : -100000000000000000 ≤ n) (h2 : n ≤ 100000000000000000) : IsFrac n 1 := ⟨by omega, by omega, h1, h2, Nat.gcd_one_right _⟩
theorem floor_in {n d : Int} (h : IsFrac n d) : -100000000000000000 ≤ floorq n d ∧ floorq n d ≤ 100000000000000000 := by
  unfold floorq; rw [if_pos h]
  obtain ⟨h1, h2, h3, h4, _⟩ := h
  constructor
  · exact (Int.le_ediv_iff_mul_le (by omega)).2 (by omega)
  · have := (Int.ediv_lt_iff_lt_mul (show 0 < d by omega) (a := n) (b := 100000000000000001)).2 (by omega)
    omega
theorem floor_le {n d : Int} (h : IsFrac n d) : compv (floorq n d) 1 n d ≤ 0 := by
  rw [comp_le (isFrac_one (floor_in h).1 (floor_in h).2) h]
  unfold floorq; rw [if_pos h, Int.mul_one]
  have := Int.ediv_mul_le n (show d ≠ 0 by have := h.1; omega)
  omega
theorem floor_gt {n d : Int} (h : IsFrac n d) (h' : IsFrac (floorq n d + 1) 1) : compv n d (floorq n d + 1) 1 < 0 := by
  rw [comp_lt h h']
  unfold floorq; rw [if_pos h, Int.mul_one]
  exact Int.lt_ediv_add_one_mul_self n (by have := h.1; omega)
end Go.Proofs.YtajpdnphamomjaaGreat
