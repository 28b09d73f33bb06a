/- The reference of layer 10: Plus, Times, Make, Turned, Sign of Bigs. -/
import Derived.Test.YtajpdnphamomjaaDoorR10f
namespace Go.Proofs.YtajpdnphamomjaaDoor
open Go.RowKit Go.Q Go.Q.Num

theorem sg_nat (x : Int) : sg (decide (x < 0)) x.natAbs = x := by
  unfold sg; by_cases h : x < 0 <;> simp [h] <;> omega
theorem sg_mul (s s' : Bool) (p q : Nat) : sg (s != s') (p * q) = sg s p * sg s' q := by
  unfold sg; cases s <;> cases s' <;> simp [Int.neg_mul, Int.mul_neg]
theorem sg_mul' (s : Bool) (p q : Nat) : sg s (p * q) = sg s p * q := by
  unfold sg; cases s <;> simp [Int.neg_mul]
theorem times_norm (r1 r2 : Rat) (s s' : Bool) (h : s = decide (r1.num < 0)) (h' : s' = decide (r2.num < 0)) : Rat.normalize (sg (s != s') (r1.num.natAbs * r2.num.natAbs)) (r1.den * r2.den) (Nat.mul_ne_zero r1.den_nz r2.den_nz) = r1 * r2 := by
  rw [Rat.mul_def]
  subst h h'
  congr 1
  rw [sg_mul, sg_nat, sg_nat]
theorem sg_add (s : Bool) (x y : Nat) : sg s (x + y) = sg s x + sg s y := by unfold sg; cases s <;> simp <;> omega
theorem sg_sub (s s' : Bool) (x y : Nat) (h : y ≤ x) (hs : s ≠ s') : sg s (x - y) = sg s x + sg s' y := by
  unfold sg; cases s <;> cases s' <;> simp at * <;> omega
theorem sg_sub' (s s' : Bool) (x y : Nat) (h : x ≤ y) (hs : s ≠ s') : sg s' (y - x) = sg s x + sg s' y := by
  rw [sg_sub s' s y x h (Ne.symm hs), Int.add_comm]
theorem plus_num (r1 r2 : Rat) (s s' : Bool) (h : s = decide (r1.num < 0)) (h' : s' = decide (r2.num < 0)) : sg s (r1.num.natAbs * r2.den) + sg s' (r2.num.natAbs * r1.den) = r1.num * r2.den + r2.num * r1.den := by
  subst h h'
  rw [sg_mul', sg_mul', sg_nat, sg_nat]

end Go.Proofs.YtajpdnphamomjaaDoor
