import Derived.Test.YtedfmhdeghpmgaaLib
import Derived.Test.YtedfmhdeghpmgaaProg
namespace Go.Proofs.Ytedfmhdeghpmgaa
open Go.RowKit Go.Q

theorem neg20 (x : Int) (w : World) : Calls Try.prog 20 #[.int .i64 x] w (QB (decide (x < 0)) w) := by
  go_enter Try.func20, Try.ntmps20
  go_wp2
  go_ret
  exact ⟨rfl, Dr.refl _⟩

theorem nan24 (x : Int) (w : World) : Calls Try.prog 24 #[.int .i64 x] w (QB false w) := by
  go_enter Try.func24, Try.ntmps24
  go_wp2
  go_ret
  exact ⟨by simp, Dr.refl _⟩
theorem nan25 (x : Int) (w : World) : Calls Try.prog 25 #[.int .i64 x] w (QB false w) := by
  go_enter Try.func25, Try.ntmps25
  go_wp2
  go_ret
  exact ⟨by simp, Dr.refl _⟩

theorem less23 (x y : Int) (w : World) : Calls Try.prog 23 #[.int .i64 x, .int .i64 y] w (QB (decide (x < y)) w) := by
  go_enter Try.func23, Try.ntmps23
  go_wp2_with fail
  refine (nan25 _ _).mono ?_
  rintro e wa ⟨rfl, hd⟩
  go_wp2
  go_ret
  exact ⟨rfl, hd⟩

theorem nonneg_succ {l : List Int} {k : Nat} {x : Int} (hx : l[k]? = some x) (h : ∀ y ∈ l.take k, 0 ≤ y) (h1 : 0 ≤ x) : ∀ y ∈ l.take (k + 1), 0 ≤ y := by
  intro y hy
  rw [List.take_add_one, hx] at hy
  simp at hy
  rcases hy with hy | rfl
  · exact h y hy
  · exact h1
/-- the place of the first negative number, or -1 -/
def QIdx (l : List Int) (w : World) (e : Ending) (w' : World) : Prop :=
  ∃ r : Int, e = .returned (.int .i64 r) ∧ (0 ≤ r ↔ ∃ x ∈ l, x < 0) ∧ Dr w w'

theorem idx22 (a : Option Addr) (n c : Nat) (l : List Int) (w : World) (hs : Sl w a n 1 (ints .i64 l)) :
    Calls Try.prog 22 #[.slice a n c, .func (.func 20) #[] #[]] w (QIdx l w) := by
  have hn := hs.le
  have HL := Lib.hid hs.int
  go_enter Try.func22, Try.ntmps22
  go_wp2
  go_loopw [5, 8] (fun _ i wr => ∃ k : Nat, k ≤ n ∧ i = .int .i64 k ∧ Hid (∀ x ∈ l.take k, 0 ≤ x) ∧ Dr w wr) (fun _ i _ => n - (intOf i).toNat)
  case atStart => exact ⟨0, Nat.zero_le _, rfl, by intro x h; simp at h, Dr.refl _⟩
  case round =>
    obtain ⟨k, hk, rfl, ht, hd⟩ := hrel
    by_cases hlt : k < n
    · obtain ⟨ad, x, rfl, h1, hx, _⟩ := (hs.dr hd).get hlt
      by_cases hx0 : x < 0
      · go_wp2_with fail
        refine (neg20 _ _).mono ?_
        rintro e wa ⟨rfl, hda⟩
        rw [decide_eq_true hx0]
        have hd' := hd.trans hda
        go_wp2
        go_ret
        exact ⟨k, rfl, iff_of_true (by omega) ⟨x, List.mem_of_getElem? hx.out, hx0⟩, hd'⟩
      · go_wp2_with fail
        refine (neg20 _ _).mono ?_
        rintro e wa ⟨rfl, hda⟩
        rw [decide_eq_false (by omega)]
        have hd' := hd.trans hda
        go_wp2
        go_roundw
        case rel => exact ⟨k + 1, by omega, by go_num, nonneg_succ hx.out ht (by omega), hd'⟩
        case measure => simp [intOf]; omega
    · have HN : Hid (l.take k = l) := Lib.hid (List.take_of_length_le (by rw [HL.out]; omega))
      go_wp2
      go_ret
      exact ⟨-1, rfl, iff_of_false (by omega) (by rintro ⟨x, hx, h⟩; have := ht x (by rw [HN.out]; exact hx); omega), hd⟩

/-- is any number negative? -/
def anyNeg (l : List Int) : Bool := decide (∃ x ∈ l, x < 0)

theorem contains19 (a : Option Addr) (n c : Nat) (l : List Int) (w : World) (hs : Sl w a n 1 (ints .i64 l)) :
    Calls Try.prog 19 #[.slice a n c, .func (.func 20) #[] #[]] w (QB (anyNeg l) w) := by
  go_enter Try.func19, Try.ntmps19
  go_wp2_with fail
  refine (idx22 _ _ _ _ _ hs).mono ?_
  rintro e wa ⟨r, rfl, hr, hd⟩
  have HR := Lib.hid hr
  clear hr
  go_wp2
  go_ret
  refine ⟨?_, hd⟩
  have e1 : decide (0 ≤ r) = anyNeg l := by unfold anyNeg; exact decide_eq_decide.2 HR.out
  rw [← e1]; rfl

/-- the sum of the first k numbers -/
def pre (l : List Int) (k : Nat) : Int := (l.take k).sum
def psums (l : List Int) : List Int := (List.range (l.length + 1)).map (pre l)
theorem pre_zero (l : List Int) : pre l 0 = 0 := by simp [pre]
theorem pre_succ {l : List Int} {k : Nat} {x : Int} (h : l[k]? = some x) : pre l (k + 1) = pre l k + x := by
  unfold pre; rw [List.take_add_one, h]; simp
theorem pre_all (l : List Int) (k : Nat) (h : l.length ≤ k) : pre l k = l.sum := by unfold pre; rw [List.take_of_length_le h]
theorem psums_get {l : List Int} {i : Nat} {x : Int} (h : (psums l)[i]? = some x) : i ≤ l.length ∧ x = pre l i := by
  obtain ⟨h1, h2⟩ := List.getElem?_eq_some_iff.1 h
  simp [psums] at h1 h2
  exact ⟨by omega, h2.symm⟩
theorem psums_len (l : List Int) : (psums l).length = l.length + 1 := by simp [psums]
theorem psums_take {l : List Int} {k : Nat} {x : Int} (h : l[k]? = some x) : psums (l.take (k + 1)) = psums (l.take k) ++ [pre l (k + 1)] := by
  have hk : k < l.length := (List.getElem?_eq_some_iff.1 h).1
  have e1 : (l.take (k + 1)).length = k + 1 := by simp; omega
  have e2 : (l.take k).length = k := by simp; omega
  unfold psums
  rw [e1, e2, List.range_succ, List.map_append]
  congr 1
  · apply List.map_congr_left
    intro j hj
    simp at hj
    simp only [pre, List.take_take]
    rw [show min j (k + 1) = j by omega, show min j k = j by omega]
  · simp [pre, List.take_take]
theorem psums_nil : psums [] = [0] := by simp [psums, pre]
theorem nonneg_of {l : List Int} (h : anyNeg l = false) : ∀ x ∈ l, 0 ≤ x := by
  intro x hx
  simp only [anyNeg, decide_eq_false_iff_not] at h
  by_cases h0 : x < 0
  · exact absurd ⟨x, hx, h0⟩ h
  · omega
theorem pre_mono {l : List Int} (h : ∀ x ∈ l, 0 ≤ x) : ∀ (d k : Nat), pre l k ≤ pre l (k + d) := by
  intro d
  induction d with
  | zero => intro k; exact Int.le_refl _
  | succ d ih =>
    intro k
    have h1 := ih k
    rcases hx : l[k + d]? with _ | x
    · have e : pre l (k + (d + 1)) = pre l (k + d) := by
        have := List.getElem?_eq_none_iff.1 hx
        rw [pre_all l _ (by omega), pre_all l (k + d) this]
      rw [e]; exact h1
    · have h2 := h x (List.mem_of_getElem? hx)
      have e : pre l (k + (d + 1)) = pre l (k + d) + x := pre_succ hx
      omega
theorem pre_le {l : List Int} (h : ∀ x ∈ l, 0 ≤ x) {i j : Nat} (hij : i ≤ j) : pre l i ≤ pre l j := by
  have := pre_mono h (j - i) i
  rwa [show i + (j - i) = j by omega] at this
theorem pre_le_sum {l : List Int} (h : ∀ x ∈ l, 0 ≤ x) (k : Nat) : pre l k ≤ l.sum := by
  by_cases hk : l.length ≤ k
  · rw [pre_all l k hk]; exact Int.le_refl _
  · have := pre_le h (show k ≤ l.length by omega)
    rwa [pre_all l l.length (Nat.le_refl _)] at this

def offsErr (l : List Int) : Int := if anyNeg l then 1 else if 1000000000 < l.sum then 8 else 0
def offsList (l : List Int) : List Int := if offsErr l = 0 then psums l else []
def QLE (xs : List Int) (err : Int) (w : World) (e : Ending) (w' : World) : Prop :=
  ∃ a n c, e = .returned (.tuple #[.slice a n c, .int .i64 err]) ∧ Sl w' a n 1 (ints .i64 xs) ∧ Below w.heap.size w w'
theorem offs_bad {l : List Int} {err : Int} (h : offsErr l = err) (h0 : err ≠ 0) {w w' : World} (hb : Below w.heap.size w w') :
    QLE (offsList l) (offsErr l) w (.returned (.tuple #[.slice none 0 0, .int .i64 err])) w' := by
  unfold offsList; rw [h, if_neg h0]
  exact ⟨none, 0, 0, rfl, Sl.nil _ _ _, hb⟩
theorem offs_neg {l : List Int} (h : anyNeg l = true) : offsErr l = 1 := by simp [offsErr, h]
theorem offs_big {l : List Int} {k : Nat} {x : Int} (h : anyNeg l = false) (hx : l[k]? = some x) (hb : 1000000000 - pre l k < x) : offsErr l = 8 := by
  have h1 := pre_le_sum (nonneg_of h) (k + 1)
  rw [pre_succ hx] at h1
  simp [offsErr, h]; omega
theorem offs_ok {l : List Int} (h : anyNeg l = false) (hb : pre l l.length ≤ 1000000000) : offsErr l = 0 := by
  rw [pre_all l _ (Nat.le_refl _)] at hb
  simp [offsErr, h]; omega

theorem info3 : (Try.prog.info? 3).map (fun i => (i.zero, i.size, i.bytes)) = some (some (.int .i64 0), 1, 8) := by kernel_rfl

set_option maxHeartbeats 400000 in
theorem offs15 (a0 : Option Addr) (n c : Nat) (l : List Int) (w : World) (hs : Sl w a0 n 1 (ints .i64 l)) (hn2 : n ≤ 200) :
    Calls Try.prog 15 #[.slice a0 n c] w (QLE (offsList l) (offsErr l) w) := by
  obtain ⟨B, hB⟩ : ∃ B, B = w.heap.size := ⟨_, rfl⟩
  have HB := Lib.hid hB
  have hn := hs.le
  have HL := Lib.hid hs.int
  rcases hneg : anyNeg l
  · have HG := Lib.hid hneg
    have HP := Lib.hid (nonneg_of hneg)
    go_enter Try.func15, Try.ntmps15
    go_wp2_with fail
    refine (contains19 _ _ _ _ _ hs).mono ?_
    rintro e wa ⟨rfl, hda⟩
    rw [hneg]
    clear hneg
    have hba : Below B w wa := hda.below
    have hBa : B ≤ wa.heap.size := by rw [hda.size]; omega
    clear hB
    go_wp2
    go_loopw [4, 5, 7, 13] (fun v at' _ i wr => ∃ (k : Nat) (a : Option Addr) (c t : _), k ≤ n ∧ i = .int .i64 k ∧ v = .slice a (k + 1) c ∧ at' = .int .i64 t ∧ Hid (t = pre l k) ∧ 0 ≤ t ∧ t ≤ 1000000000 ∧ Own wr B 3 1 a (k + 1) c (ints .i64 (psums (l.take k))) ∧ Below B w wr ∧ B ≤ wr.heap.size) (fun _ _ _ i _ => n - (intOf i).toNat)
    case atStart => exact ⟨0, _, _, 0, Nat.zero_le _, rfl, rfl, rfl, (pre_zero l).symm, by omega, by omega, by rw [List.take_zero, psums_nil]; exact Own.lit wa B 3 1 1 _ hBa rfl (by decide), hba.alloc hBa _, by simp; omega⟩
    case round =>
      obtain ⟨k, a, c, t, hk, rfl, rfl, rfl, ht, ht0, ht1, hown, hb, hBr⟩ := hrel
      by_cases hlt : k < n
      · obtain ⟨ld, x, rfl, hc, hx, hblk⟩ := (hs.below hb (by rw [HB.out]; exact hs.lt (by omega))).get hlt
        have hx0 : 0 ≤ x := HP.out x (List.mem_of_getElem? hx.out)
        by_cases hbig : 1000000000 - t < x
        · go_wp2
          go_ret2
          exact offs_bad (offs_big HG.out hx.out (by rw [← ht.out]; exact hbig)) (by decide) (by rw [← HB.out]; exact hb)
        · go_wp2_with (at_builtin; refine wpList_app rfl _ _ 22 rfl B 3 _ _ _ Try.underlying22 info3 rfl (by decide) _ _ _ _ rfl (hown.alloc _) _ 1 1 [.int .i64 (t + x)] rfl rfl (cell_new _ _ _) (by simp [Value.oneCell']) (by omega) (by unfold maxLen; omega) (by simp; omega) ?_)
          intro a' c' w1 hap
          have hb1 : Below B w w1 := hap.below (hown.alloc _) (hb.alloc hBr _) (by simp; omega)
          have hB1 : B ≤ w1.heap.size := by have := hap.size; simp at this; omega
          have HT : Hid (t + x = pre l (k + 1)) := Lib.hid (by rw [pre_succ hx.out, ← ht.out])
          go_wp2
          go_roundw
          case rel => exact ⟨k + 1, a', c', t + x, by omega, by go_num, rfl, rfl, HT, by omega, by omega, by rw [psums_take hx.out, ints_app, ← HT.out]; exact hap.own, hb1, hB1⟩
          case measure => simp [intOf]; omega
      · have HN : Hid (l.take k = l) := Lib.hid (List.take_of_length_le (by rw [HL.out]; omega))
        have HK : Hid (k = l.length) := Lib.hid (by rw [HL.out]; omega)
        go_wp2
        go_ret2
        have he := offs_ok HG.out (by rw [← HK.out, ← ht.out]; exact ht1)
        unfold offsList
        rw [he, if_pos rfl]
        rw [HN.out] at hown
        exact ⟨a, _, c, rfl, hown.sl (by omega), by rw [← HB.out]; exact hb⟩
  · have HG := Lib.hid hneg
    go_enter Try.func15, Try.ntmps15
    go_wp2_with fail
    refine (contains19 _ _ _ _ _ hs).mono ?_
    rintro e wa ⟨rfl, hda⟩
    rw [hneg]
    clear hneg
    go_wp2
    go_ret2
    exact offs_bad (offs_neg HG.out) (by decide) hda.below
end Go.Proofs.Ytedfmhdeghpmgaa
