import Derived.Test.YtedfmhdeghpmgaaLib
import Derived.Test.YtedfmhdeghpmgaaProg
import Derived.Test.YtedfmhdeghpmgaaAssign
namespace Go.Proofs.Ytedfmhdeghpmgaa
open Go.RowKit Go.Q

/-- how often each of the first n numbers stands in a list -/
def cnts (n : Nat) (l : List Int) : List Int := (List.range n).map fun j : Nat => (l.count (j : Int) : Int)
theorem cnts_len (n : Nat) (l : List Int) : (cnts n l).length = n := by simp [cnts]
theorem cnts_nil (n : Nat) : cnts n [] = List.replicate n 0 := by
  apply List.ext_getElem <;> simp [cnts]
theorem cnts_get (n : Nat) (l : List Int) (i : Nat) (x : Int) (h : (cnts n l)[i]? = some x) : i < n ∧ x = l.count (i : Int) := by
  obtain ⟨h1, h2⟩ := List.getElem?_eq_some_iff.1 h
  simp [cnts] at h1 h2
  exact ⟨h1, h2.symm⟩
theorem cnts_snoc (n : Nat) (l : List Int) (i : Nat) (x : Int) (h : (cnts n l)[i]? = some x) : cnts n (l ++ [(i : Int)]) = (cnts n l).set i (x + 1) := by
  obtain ⟨hi, rfl⟩ := cnts_get n l i x h
  apply List.ext_getElem
  · simp [cnts]
  · intro j h1 h2
    simp [cnts, List.getElem_set, List.count_append, List.count_singleton]
    by_cases e : i = j
    · simp [e]
    · simp [e, show ¬ (i : Int) = j from by omega]

/-- what Loads accepts -/
def loadsOk (l : List Int) (p : Int) : Bool := decide (0 ≤ p ∧ p ≤ 1000 ∧ ∀ x ∈ l, 0 ≤ x ∧ x < p)
def loadsList (l : List Int) (p : Int) : List Int := if loadsOk l p = true then cnts p.toNat l else []

def QLB (xs : List Int) (b : Bool) (w : World) (e : Ending) (w' : World) : Prop :=
  ∃ a n c, e = .returned (.tuple #[.slice a n c, .bool b]) ∧ Sl w' a n 1 (ints .i64 xs) ∧ Below w.heap.size w w'

theorem qlb_bad (l : List Int) (p : Int) (w w' : World) (h : loadsOk l p = false) (hb : Below w.heap.size w w') : QLB (loadsList l p) (loadsOk l p) w (.returned (.tuple #[.slice none 0 0, .bool false])) w' := by
  unfold loadsList; rw [h]
  exact ⟨none, 0, 0, rfl, Sl.nil _ _ _, hb⟩

theorem bad1 {l : List Int} {p : Int} (h : p < 0) : loadsOk l p = false := by simp [loadsOk]; omega
theorem bad2 {l : List Int} {p : Int} (h : 1000 < p) : loadsOk l p = false := by simp [loadsOk]; omega
theorem bad3 {l : List Int} {p : Int} {k : Nat} {x : Int} (hx : l[k]? = some x) (h : x < 0 ∨ p ≤ x) : loadsOk l p = false := by
  simp only [loadsOk, decide_eq_false_iff_not]
  rintro ⟨_, _, h3⟩
  have := h3 x (List.mem_of_getElem? hx)
  omega
theorem good {l : List Int} {p : Int} (h1 : 0 ≤ p) (h2 : p ≤ 1000) (h3 : ∀ x ∈ l, 0 ≤ x ∧ x < p) : loadsOk l p = true := by
  simp only [loadsOk, decide_eq_true_eq]; exact ⟨h1, h2, h3⟩

theorem all_take_succ {l : List Int} {p : Int} {k : Nat} {x : Int} (hx : l[k]? = some x) (h : ∀ y ∈ l.take k, 0 ≤ y ∧ y < p) (h1 : 0 ≤ x) (h2 : x < p) : ∀ y ∈ l.take (k + 1), 0 ≤ y ∧ y < p := by
  intro y hy
  rw [List.take_add_one, hx] at hy
  simp at hy
  rcases hy with hy | rfl
  · exact h y hy
  · exact ⟨h1, h2⟩
theorem take_snoc {l : List Int} {k : Nat} {x : Int} (hx : l[k]? = some x) : l.take (k + 1) = l.take k ++ [x] := by
  rw [List.take_add_one, hx]; rfl
theorem cnts_le {n : Nat} {l : List Int} {i : Nat} {x : Int} (h : (cnts n l)[i]? = some x) : 0 ≤ x ∧ x ≤ l.length := by
  obtain ⟨hi, rfl⟩ := cnts_get n l i x h
  have := List.count_le_length (a := (i : Int)) (l := l)
  omega
theorem idx_cast {x : Int} (h : 0 ≤ x) : ∃ i : Nat, x = (i : Int) := ⟨x.toNat, by omega⟩

set_option maxHeartbeats 400000 in
theorem loads10 (a0 : Option Addr) (n c : Nat) (l : List Int) (p : Int) (w : World) (hs : Sl w a0 n 1 (ints .i64 l)) :
    Calls Try.prog 10 #[.slice a0 n c, .int .i64 p] w (QLB (loadsList l p) (loadsOk l p) w) := by
  obtain ⟨B, hB⟩ : ∃ B, B = w.heap.size := ⟨_, rfl⟩
  have hb0 : Below B w w := Below.refl _ _
  have hB' : B ≤ w.heap.size := by omega
  have HB := Lib.hid hB
  have hn := hs.le
  have HL := Lib.hid hs.int
  clear hB
  by_cases h0 : p < 0
  · go_enter Try.func10, Try.ntmps10
    go_wp2
    go_ret2
    exact qlb_bad _ _ _ _ (bad1 h0) (Below.refl _ _)
  by_cases h1 : 1000 < p
  · go_enter Try.func10, Try.ntmps10
    go_wp2
    go_ret2
    exact qlb_bad _ _ _ _ (bad2 h1) (Below.refl _ _)
  go_enter Try.func10, Try.ntmps10
  go_wp2_with (at_make; refine wpList_mk rfl _ _ 22 rfl B 3 _ _ _ Try.underlying22 info3 .i64 .i64 p p p.toNat rfl rfl (by omega) (by omega) (by omega) (by unfold maxLen; omega) (by omega) ?_)
  intro ad w1 hown hg hblk
  have hb1 : Below B w w1 := hb0.grown hg hB' (by intro k h; cases h)
  have hB1 : B ≤ w1.heap.size := by have := hg.size; omega
  have HM : Hid _ := Lib.hid (made_int .i64 p.toNat)
  have hown0 : Own w1 B 3 1 (some ad) p.toNat p.toNat (ints .i64 (cnts p.toNat (l.take 0))) := by
    rw [List.take_zero, cnts_nil, ← HM.out]; exact hown
  clear hown hg hblk
  go_wp2
  go_loopw [8, 19] (fun _ i wr => ∃ (k : Nat), k ≤ n ∧ i = .int .i64 k ∧ Own wr B 3 1 (some ad) p.toNat p.toNat (ints .i64 (cnts p.toNat (l.take k))) ∧ Hid (∀ x ∈ l.take k, 0 ≤ x ∧ x < p) ∧ Below B w wr ∧ B ≤ wr.heap.size) (fun _ i _ => n - (intOf i).toNat)
  case atStart => exact ⟨0, Nat.zero_le _, rfl, hown0, by intro x h; simp at h, hb1, hB1⟩
  case round =>
    obtain ⟨k, hk, rfl, hown, hall, hb, hBr⟩ := hrel
    by_cases hlt : k < n
    · obtain ⟨ld, x, rfl, hc, hx, hblk⟩ := (hs.below hb (by rw [HB.out]; exact hs.lt (by omega))).get hlt
      by_cases hx0 : x < 0
      · go_wp2
        go_ret2
        exact qlb_bad _ _ _ _ (bad3 hx.out (.inl hx0)) (by rw [← HB.out]; exact hb)
      by_cases hxp : p ≤ x
      · go_wp2
        go_ret2
        exact qlb_bad _ _ _ _ (bad3 hx.out (.inr hxp)) (by rw [← HB.out]; exact hb)
      obtain ⟨j, rfl⟩ := idx_cast (by omega : 0 ≤ x)
      obtain ⟨ad', y, had, hc2, hf2, hy, hb2, hb3⟩ := hown.geti (i := j) (by omega)
      cases had
      obtain ⟨hy0, hyn⟩ : 0 ≤ y ∧ y ≤ k := by have h := cnts_le hy.out; have h' := List.length_take_le k l; omega
      go_wp2
      go_roundw
      case rel =>
        refine ⟨k + 1, by omega, by go_num, ?_, all_take_succ hx.out hall (by omega) (by omega), hb.setCell (by rw [add_block]; exact hb2) _, by simp [World.setCell]; omega⟩
        rw [take_snoc hx.out, cnts_snoc _ _ _ _ hy.out, ← ints_set]
        exact hown.set _ _
      case measure => simp [intOf]; omega
    · have HN : Hid (l.take k = l) := Lib.hid (List.take_of_length_le (by rw [HL.out]; omega))
      go_wp2
      go_ret2
      have hg := good (l := l) (by omega) (by omega) (by rw [← HN.out]; exact hall)
      unfold loadsList
      rw [hg]
      exact ⟨some ad, _, _, rfl, by rw [if_pos rfl]; rw [HN.out] at hown; exact hown.sl (by omega), by rw [← HB.out]; exact hb⟩

set_option maxHeartbeats 400000 in
theorem loads11 (a0 : Option Addr) (n c : Nat) (l : List Int) (p : Int) (w : World) (hs : Sl w a0 n 1 (ints .i64 l)) :
    Calls Try.prog 11 #[.slice a0 n c, .int .i64 p] w (QLB (loadsList l p) (loadsOk l p) w) := by
  obtain ⟨B, hB⟩ : ∃ B, B = w.heap.size := ⟨_, rfl⟩
  have hb0 : Below B w w := Below.refl _ _
  have hB' : B ≤ w.heap.size := by omega
  have HB := Lib.hid hB
  have hn := hs.le
  have HL := Lib.hid hs.int
  clear hB
  by_cases h0 : p < 0
  · go_enter Try.func11, Try.ntmps11
    go_wp2
    go_ret2
    exact qlb_bad _ _ _ _ (bad1 h0) (Below.refl _ _)
  by_cases h1 : 1000 < p
  · go_enter Try.func11, Try.ntmps11
    go_wp2
    go_ret2
    exact qlb_bad _ _ _ _ (bad2 h1) (Below.refl _ _)
  go_enter Try.func11, Try.ntmps11
  go_wp2_with (at_make; refine wpList_mk rfl _ _ 22 rfl B 3 _ _ _ Try.underlying22 info3 .i64 .i64 p p p.toNat rfl rfl (by omega) (by omega) (by omega) (by unfold maxLen; omega) (by omega) ?_)
  intro ad w1 hown hg hblk
  have hb1 : Below B w w1 := hb0.grown hg hB' (by intro k h; cases h)
  have hB1 : B ≤ w1.heap.size := by have := hg.size; omega
  have HM : Hid _ := Lib.hid (made_int .i64 p.toNat)
  have hown0 : Own w1 B 3 1 (some ad) p.toNat p.toNat (ints .i64 (cnts p.toNat (l.take 0))) := by
    rw [List.take_zero, cnts_nil, ← HM.out]; exact hown
  clear hown hg hblk
  go_wp2
  go_loopw [7] (fun i wr => ∃ (k : Nat), k ≤ n ∧ i = .int .i64 k ∧ Own wr B 3 1 (some ad) p.toNat p.toNat (ints .i64 (cnts p.toNat (l.take k))) ∧ Hid (∀ x ∈ l.take k, 0 ≤ x ∧ x < p) ∧ Below B w wr ∧ B ≤ wr.heap.size) (fun i _ => n - (intOf i).toNat)
  case atStart => exact ⟨0, Nat.zero_le _, rfl, hown0, by intro x h; simp at h, hb1, hB1⟩
  case round =>
    obtain ⟨k, hk, rfl, hown, hall, hb, hBr⟩ := hrel
    by_cases hlt : k < n
    · obtain ⟨ld, x, rfl, hc, hx, hblk⟩ := (hs.below hb (by rw [HB.out]; exact hs.lt (by omega))).get hlt
      by_cases hx0 : x < 0
      · go_wp2
        go_ret2
        exact qlb_bad _ _ _ _ (bad3 hx.out (.inl hx0)) (by rw [← HB.out]; exact hb)
      by_cases hxp : p ≤ x
      · go_wp2
        go_ret2
        exact qlb_bad _ _ _ _ (bad3 hx.out (.inr hxp)) (by rw [← HB.out]; exact hb)
      obtain ⟨j, rfl⟩ := idx_cast (by omega : 0 ≤ x)
      obtain ⟨ad', y, had, hc2, hf2, hy, hb2, hb3⟩ := hown.geti (i := j) (by omega)
      cases had
      obtain ⟨hy0, hyn⟩ : 0 ≤ y ∧ y ≤ k := by have h := cnts_le hy.out; have h' := List.length_take_le k l; omega
      go_wp2
      go_roundw
      case rel =>
        refine ⟨k + 1, by omega, by go_num, ?_, all_take_succ hx.out hall (by omega) (by omega), hb.setCell (by rw [add_block]; exact hb2) _, by simp [World.setCell]; omega⟩
        rw [take_snoc hx.out, cnts_snoc _ _ _ _ hy.out, ← ints_set]
        exact hown.set _ _
      case measure => simp [intOf]; omega
    · have HN : Hid (l.take k = l) := Lib.hid (List.take_of_length_le (by rw [HL.out]; omega))
      go_wp2
      go_ret2
      have hg := good (l := l) (by omega) (by omega) (by rw [← HN.out]; exact hall)
      unfold loadsList
      rw [hg]
      exact ⟨some ad, _, _, rfl, by rw [if_pos rfl]; rw [HN.out] at hown; exact hown.sl (by omega), by rw [← HB.out]; exact hb⟩

end Go.Proofs.Ytedfmhdeghpmgaa
