import Derived.Test.YtedfmhdeghpmgaaLib
import Derived.Test.YtedfmhdeghpmgaaProg
namespace Go.Proofs.Ytedfmhdeghpmgaa
open Go.RowKit Go.Q


theorem eq_of_take {xs ys : List Int} {n : Nat} (hx : xs.length = n) (hy : ys.length = n) (h : xs.take n = ys.take n) : xs = ys := by
  rw [List.take_of_length_le (by omega), List.take_of_length_le (by omega)] at h; exact h
theorem take_succ_eq {xs ys : List Int} {k : Nat} {x : Int} (hx : xs[k]? = some x) (hy : ys[k]? = some x) (h : xs.take k = ys.take k) : xs.take (k+1) = ys.take (k+1) := by
  rw [List.take_add_one, List.take_add_one, h, hx, hy]
theorem ne_of_get {xs ys : List Int} {k : Nat} {x y : Int} (hx : xs[k]? = some x) (hy : ys[k]? = some y) (h : x ≠ y) : xs ≠ ys := by
  rintro rfl; rw [hx] at hy; exact h (by simpa using hy)

set_option maxHeartbeats 400000 in
theorem same_any (a b : Option Addr) (n m ca cb : Nat) (xs ys : List Int) (w : World)
   (hx : Sl w a n 1 (ints .i64 xs)) (hy : Sl w b m 1 (ints .i64 ys)) :
    Calls Try.prog 12 #[.slice a n ca, .slice b m cb] w (QB (decide (xs = ys)) w) := by
  have hn := hx.le
  have hm := hy.le
  have HX := Lib.hid hx.int
  have HY := Lib.hid hy.int
  by_cases hnm : n = m
  · subst hnm
    go_enter Try.func12, Try.ntmps12
    go_wp2
    go_loopw [5] (fun i wr => ∃ k : Nat, k ≤ n ∧ i = .int .i64 k ∧ Hid (xs.take k = ys.take k) ∧ Dr w wr) (fun i _ => n - (intOf i).toNat)
    case atStart => exact ⟨0, Nat.zero_le _, rfl, rfl, Dr.refl _⟩
    case round =>
      obtain ⟨k, hk, rfl, ht, hd⟩ := hrel
      by_cases hlt : k < n
      · obtain ⟨ad, x, rfl, h1, hx1, _⟩ := (hx.dr hd).get hlt
        obtain ⟨bd, y, rfl, h2, hy1, _⟩ := (hy.dr hd).get hlt
        by_cases he : x = y
        · subst he
          go_wp2
          go_quiet (fail)
          go_wp2
          go_roundw
          case rel => exact ⟨k + 1, by omega, by go_num, take_succ_eq hx1.out hy1.out ht, by repeat (first | exact Dr.refl _ | assumption | apply Dr.drewN | apply Dr.drew)⟩
          case measure => simp [intOf]; omega
        · have hb : (x != y) = true := by simpa using he
          have HE := Lib.hid he
          clear he
          go_wp2
          go_quiet (fail)
          go_wp2
          go_ret
          refine ⟨?_, by repeat (first | exact Dr.refl _ | assumption | apply Dr.drewN | apply Dr.drew)⟩
          rw [decide_eq_false (ne_of_get hx1.out hy1.out HE.out)]
          rfl
      · have HK : Hid (k = n) := Lib.hid (by omega)
        go_wp2
        go_ret
        refine ⟨?_, by repeat (first | exact Dr.refl _ | assumption | apply Dr.drewN | apply Dr.drew)⟩
        rw [decide_eq_true (eq_of_take HX.out HY.out (HK.out ▸ ht))]
        rfl
  · have hb : ((n : Int) != (m : Int)) = true := by simpa using (by omega : ¬ (n : Int) = m)
    have HE := Lib.hid hnm
    clear hnm
    go_enter Try.func12, Try.ntmps12
    go_wp2
    go_ret
    refine ⟨?_, by repeat (first | exact Dr.refl _ | assumption | apply Dr.drewN | apply Dr.drew)⟩
    rw [decide_eq_false (by rintro rfl; have := HX.out; have := HY.out; have := HE.out; omega)]
    rfl
end Go.Proofs.Ytedfmhdeghpmgaa
