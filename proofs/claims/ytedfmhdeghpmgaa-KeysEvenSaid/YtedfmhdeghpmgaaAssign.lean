import Derived.Test.YtedfmhdeghpmgaaLib
import Derived.Test.YtedfmhdeghpmgaaProg
namespace Go.Proofs.Ytedfmhdeghpmgaa
open Go.RowKit Go.Q

theorem info3 : (Try.prog.info? 3).map (fun i => (i.zero, i.size, i.bytes)) = some (some (.int .i64 0), 1, 8) := by kernel_rfl

/-- the remainders of the first n numbers -/
def mods (n : Nat) (d : Int) : List Int := (List.range n).map fun j : Nat => (j : Int) % d

theorem mods_succ (n : Nat) (d : Int) : mods (n + 1) d = mods n d ++ [(n : Int) % d] := by simp [mods, List.range_succ]

/-- a list and an error are returned; nothing that was there has turned -/
def QLE (xs : List Int) (err : Int) (w : World) (e : Ending) (w' : World) : Prop :=
  ∃ a n c, e = .returned (.tuple #[.slice a n c, .int .i64 err]) ∧ Sl w' a n 1 (ints .i64 xs) ∧ Below w.heap.size w w'

theorem qle_nil (err : Int) (w : World) : QLE [] err w (.returned (.tuple #[.slice none 0 0, .int .i64 err])) w :=
  ⟨none, 0, 0, rfl, Sl.nil _ _ _, Below.refl _ _⟩

set_option maxHeartbeats 400000 in
theorem assign8_ok (n p d : Int) (w : World) (h0 : 0 ≤ n) (h1 : n ≤ 1000) (h2 : 0 ≤ p) (h3 : 0 ≤ d) (h4 : d ≤ p) (h5 : d ≤ n) (h6 : 0 < d ∨ n = 0) :
    Calls Try.prog 8 #[.int .i64 n, .int .i64 p, .int .i64 d] w (QLE (mods n.toNat d) 0 w) := by
  obtain ⟨B, hB⟩ : ∃ B, B = w.heap.size := ⟨_, rfl⟩
  have hb0 : Below B w w := Below.refl _ _
  have hB' : B ≤ w.heap.size := by omega
  have HB := Lib.hid hB
  clear hB
  by_cases hd : d = 0
  · obtain rfl : n = 0 := by omega
    subst hd
    go_enter Try.func8, Try.ntmps8
    go_wp2
    refine wp_loop_rounds 1 ?_
    rw [rounds_succ]
    go_wp2
    go_ret2
    exact qle_nil _ _
  · have hd' : 1 ≤ d := by omega
    have hd2 : (d == 0) = false := by simpa using hd
    clear hd h6
    go_enter Try.func8, Try.ntmps8
    go_wp2
    go_loopw [8, 9, 42] (fun v _ i wr => ∃ (k : Nat) (a : Option Addr) (c : Nat), k ≤ n.toNat ∧ i = .int .i64 k ∧ v = .slice a k c ∧ Own wr B 3 1 a k c (ints .i64 (mods k d)) ∧ Below B w wr ∧ B ≤ wr.heap.size) (fun v _ i _ => n.toNat - (intOf i).toNat)
    case atStart => exact ⟨0, none, 0, Nat.zero_le _, rfl, rfl, Own.nil _ _ _ _, hb0, hB'⟩
    case round =>
      obtain ⟨k, a, c, hk, rfl, rfl, hown, hb, hBr⟩ := hrel
      by_cases hlt : (k : Int) < n
      · go_wp2_with (at_builtin; refine wpList_app rfl _ _ 22 rfl B 3 _ _ _ Try.underlying22 info3 rfl (by decide) _ _ _ _ rfl (hown.alloc _) _ 1 1 [.int .i64 ((k : Int) % d)] rfl rfl (cell_new _ _ _) (by simp [Value.oneCell']) (by omega) (by unfold maxLen; omega) (by simp; omega) ?_)
        intro a' c' w1 hap
        have hb1 : Below B w w1 := hap.below (hown.alloc _) (hb.alloc hBr _) (by simp; omega)
        have hB1 : B ≤ w1.heap.size := by have := hap.size; simp at this; omega
        go_wp2
        go_roundw
        case rel => exact ⟨k + 1, a', c', by omega, by go_num, rfl, by rw [mods_succ, ints_app]; exact hap.own, hb1, hB1⟩
        case measure => simp [intOf]; omega
      · have HN : Hid (n.toNat = k) := Lib.hid (by omega)
        go_wp2
        go_ret2
        exact ⟨a, k, c, rfl, by rw [HN.out]; exact hown.sl (by omega), by rw [← HB.out]; exact hb⟩

theorem assign8_err (n p d : Int) (w : World) :
    (n < 0 ∨ p < 0 ∨ d < 0 → Calls Try.prog 8 #[.int .i64 n, .int .i64 p, .int .i64 d] w (QLE [] 1 w)) ∧
    (0 ≤ n → 0 ≤ p → 0 ≤ d → 1000 < n → Calls Try.prog 8 #[.int .i64 n, .int .i64 p, .int .i64 d] w (QLE [] 8 w)) ∧
    (0 ≤ n → 0 ≤ p → 0 ≤ d → n ≤ 1000 → (p < d ∨ n < d ∨ (d = 0 ∧ 0 < n)) → Calls Try.prog 8 #[.int .i64 n, .int .i64 p, .int .i64 d] w (QLE [] 12 w)) := by
  refine ⟨fun h => ?_, fun h1 h2 h3 h4 => ?_, fun h1 h2 h3 h4 h => ?_⟩
  · by_cases ha : n < 0
    · go_enter Try.func8, Try.ntmps8
      go_wp2
      go_ret2
      exact qle_nil _ _
    · by_cases hc : p < 0
      · go_enter Try.func8, Try.ntmps8
        go_wp2
        go_ret2
        exact qle_nil _ _
      · have hd : d < 0 := by omega
        clear h
        go_enter Try.func8, Try.ntmps8
        go_wp2
        go_ret2
        exact qle_nil _ _
  · go_enter Try.func8, Try.ntmps8
    go_wp2
    go_ret2
    exact qle_nil _ _
  · by_cases ha : p < d
    · clear h
      go_enter Try.func8, Try.ntmps8
      go_wp2
      go_ret2
      exact qle_nil _ _
    · by_cases hc : n < d
      · clear h
        go_enter Try.func8, Try.ntmps8
        go_wp2
        go_ret2
        exact qle_nil _ _
      · obtain ⟨rfl, hn⟩ : d = 0 ∧ 0 < n := by omega
        clear h
        go_enter Try.func8, Try.ntmps8
        go_wp2
        go_ret2
        exact qle_nil _ _

set_option maxHeartbeats 400000 in
theorem assign9_ok (n p d : Int) (w : World) (h0 : 0 ≤ n) (h1 : n ≤ 1000) (h2 : 0 ≤ p) (h3 : 0 ≤ d) (h4 : d ≤ p) (h5 : d ≤ n) (h6 : 0 < d ∨ n = 0) :
    Calls Try.prog 9 #[.int .i64 n, .int .i64 p, .int .i64 d] w (QLE (mods n.toNat d) 0 w) := by
  obtain ⟨B, hB⟩ : ∃ B, B = w.heap.size := ⟨_, rfl⟩
  have hb0 : Below B w w := Below.refl _ _
  have hB' : B ≤ w.heap.size := by omega
  have HB := Lib.hid hB
  clear hB
  by_cases hd : d = 0
  · obtain rfl : n = 0 := by omega
    subst hd
    go_enter Try.func9, Try.ntmps9
    go_wp2
    refine wp_loop_rounds 1 ?_
    rw [rounds_succ]
    go_wp2
    go_ret2
    exact qle_nil _ _
  · have hd' : 1 ≤ d := by omega
    have hd2 : (d == 0) = false := by simpa using hd
    clear hd h6
    go_enter Try.func9, Try.ntmps9
    go_wp2
    go_loopw [8, 9] (fun v i wr => ∃ (k : Nat) (a : Option Addr) (c : Nat), k ≤ n.toNat ∧ i = .int .i64 k ∧ v = .slice a k c ∧ Own wr B 3 1 a k c (ints .i64 (mods k d)) ∧ Below B w wr ∧ B ≤ wr.heap.size) (fun v i _ => n.toNat - (intOf i).toNat)
    case atStart => exact ⟨0, none, 0, Nat.zero_le _, rfl, rfl, Own.nil _ _ _ _, hb0, hB'⟩
    case round =>
      obtain ⟨k, a, c, hk, rfl, rfl, hown, hb, hBr⟩ := hrel
      by_cases hlt : (k : Int) < n
      · go_wp2_with (at_builtin; refine wpList_app rfl _ _ 22 rfl B 3 _ _ _ Try.underlying22 info3 rfl (by decide) _ _ _ _ rfl (hown.alloc _) _ 1 1 [.int .i64 ((k : Int) % d)] rfl rfl (cell_new _ _ _) (by simp [Value.oneCell']) (by omega) (by unfold maxLen; omega) (by simp; omega) ?_)
        intro a' c' w1 hap
        have hb1 : Below B w w1 := hap.below (hown.alloc _) (hb.alloc hBr _) (by simp; omega)
        have hB1 : B ≤ w1.heap.size := by have := hap.size; simp at this; omega
        go_wp2
        go_roundw
        case rel => exact ⟨k + 1, a', c', by omega, by go_num, rfl, by rw [mods_succ, ints_app]; exact hap.own, hb1, hB1⟩
        case measure => simp [intOf]; omega
      · have HN : Hid (n.toNat = k) := Lib.hid (by omega)
        go_wp2
        go_ret2
        exact ⟨a, k, c, rfl, by rw [HN.out]; exact hown.sl (by omega), by rw [← HB.out]; exact hb⟩

theorem assign9_err (n p d : Int) (w : World) :
    (n < 0 ∨ p < 0 ∨ d < 0 → Calls Try.prog 9 #[.int .i64 n, .int .i64 p, .int .i64 d] w (QLE [] 1 w)) ∧
    (0 ≤ n → 0 ≤ p → 0 ≤ d → 1000 < n → Calls Try.prog 9 #[.int .i64 n, .int .i64 p, .int .i64 d] w (QLE [] 8 w)) ∧
    (0 ≤ n → 0 ≤ p → 0 ≤ d → n ≤ 1000 → (p < d ∨ n < d ∨ (d = 0 ∧ 0 < n)) → Calls Try.prog 9 #[.int .i64 n, .int .i64 p, .int .i64 d] w (QLE [] 12 w)) := by
  refine ⟨fun h => ?_, fun h1 h2 h3 h4 => ?_, fun h1 h2 h3 h4 h => ?_⟩
  · by_cases ha : n < 0
    · go_enter Try.func9, Try.ntmps9
      go_wp2
      go_ret2
      exact qle_nil _ _
    · by_cases hc : p < 0
      · go_enter Try.func9, Try.ntmps9
        go_wp2
        go_ret2
        exact qle_nil _ _
      · have hd : d < 0 := by omega
        clear h
        go_enter Try.func9, Try.ntmps9
        go_wp2
        go_ret2
        exact qle_nil _ _
  · go_enter Try.func9, Try.ntmps9
    go_wp2
    go_ret2
    exact qle_nil _ _
  · by_cases ha : p < d
    · clear h
      go_enter Try.func9, Try.ntmps9
      go_wp2
      go_ret2
      exact qle_nil _ _
    · by_cases hc : n < d
      · clear h
        go_enter Try.func9, Try.ntmps9
        go_wp2
        go_ret2
        exact qle_nil _ _
      · obtain ⟨rfl, hn⟩ : d = 0 ∧ 0 < n := by omega
        clear h
        go_enter Try.func9, Try.ntmps9
        go_wp2
        go_ret2
        exact qle_nil _ _

def assignErr (n p d : Int) : Int := if n < 0 ∨ p < 0 ∨ d < 0 then 1 else if 1000 < n then 8 else if p < d ∨ n < d ∨ (d = 0 ∧ 0 < n) then 12 else 0
def assignList (n p d : Int) : List Int := if assignErr n p d = 0 then mods n.toNat d else []

theorem assign8 (n p d : Int) (w : World) : Calls Try.prog 8 #[.int .i64 n, .int .i64 p, .int .i64 d] w (QLE (assignList n p d) (assignErr n p d) w) := by
  obtain ⟨e1, e2, e3⟩ := assign8_err n p d w
  unfold assignList assignErr
  by_cases h1 : n < 0 ∨ p < 0 ∨ d < 0
  · simp only [if_pos h1]; exact e1 h1
  · by_cases h2 : 1000 < n
    · simp only [if_neg h1, if_pos h2]; exact e2 (by omega) (by omega) (by omega) h2
    · by_cases h3 : p < d ∨ n < d ∨ (d = 0 ∧ 0 < n)
      · simp only [if_neg h1, if_neg h2, if_pos h3]; exact e3 (by omega) (by omega) (by omega) (by omega) h3
      · simp only [if_neg h1, if_neg h2, if_neg h3, if_true]; exact assign8_ok n p d w (by omega) (by omega) (by omega) (by omega) (by omega) (by omega) (by omega)

theorem assign9 (n p d : Int) (w : World) : Calls Try.prog 9 #[.int .i64 n, .int .i64 p, .int .i64 d] w (QLE (assignList n p d) (assignErr n p d) w) := by
  obtain ⟨e1, e2, e3⟩ := assign9_err n p d w
  unfold assignList assignErr
  by_cases h1 : n < 0 ∨ p < 0 ∨ d < 0
  · simp only [if_pos h1]; exact e1 h1
  · by_cases h2 : 1000 < n
    · simp only [if_neg h1, if_pos h2]; exact e2 (by omega) (by omega) (by omega) h2
    · by_cases h3 : p < d ∨ n < d ∨ (d = 0 ∧ 0 < n)
      · simp only [if_neg h1, if_neg h2, if_pos h3]; exact e3 (by omega) (by omega) (by omega) (by omega) h3
      · simp only [if_neg h1, if_neg h2, if_neg h3, if_true]; exact assign9_ok n p d w (by omega) (by omega) (by omega) (by omega) (by omega) (by omega) (by omega)

end Go.Proofs.Ytedfmhdeghpmgaa
