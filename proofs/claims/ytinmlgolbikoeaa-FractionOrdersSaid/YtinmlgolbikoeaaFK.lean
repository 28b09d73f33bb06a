/- FractionOrders: the walk, by conditions. -/
import Derived.Test.YtinmlgolbikoeaaFI
import Derived.Test.YtinmlgolbikoeaaFC1
import Derived.Test.YtinmlgolbikoeaaVM
namespace Go.Proofs.Ytinmlgolbikoeaa
open Go.RowKit Go.Q Go.Q.Num Go.V

/-- elder contracts in the calculus' words -/
theorem callI {f : FuncId} {args : List Value} {w : World} {z : Int} (h : Calls Try.prog f args.toArray w (QIntB z w)) : call Try.prog f args (.one (.one (.int .i64))) w (fun x w' => x = z ∧ bel w w') :=
  Calls.mono h fun _ _ ⟨he, hb⟩ => ⟨z, he, rfl, hb⟩
theorem callB {f : FuncId} {args : List Value} {w : World} {b : Bool} (h : Calls Try.prog f args.toArray w (QBool b w)) : call Try.prog f args (.one (.one .bool)) w (fun x w' => x = b ∧ bel w w') :=
  Calls.mono h fun _ _ ⟨he, hb⟩ => ⟨b, he, rfl, hb⟩
/-- what the calls of the law return -/
def Told (l : List Value) (v : Value) : Prop :=
  (∀ n d n' d', l = [fracv n d, fracv n' d'] → v = .int .i64 (compv n d n' d')) ∧ (∀ n d, l = [fracv n d] → v = .bool (decide (IsFrac n d)))
theorem told2 {n d n' d' z : Int} (h : z = compv n d n' d') : Told [fracv n d, fracv n' d'] (.int .i64 z) :=
  ⟨fun a b c e he => by
    simp only [fracv, List.cons.injEq, Value.agg.injEq, Array.mk.injEq, Value.int.injEq, true_and, and_true] at he
    obtain ⟨⟨rfl, rfl⟩, rfl, rfl⟩ := he
    rw [h], fun a b he => by simp at he⟩
theorem told1 {n d : Int} {b : Bool} (h : b = decide (IsFrac n d)) : Told [fracv n d] (.bool b) :=
  ⟨fun a b c e he => by simp at he, fun a b he => by
    simp only [fracv, List.cons.injEq, Value.agg.injEq, Array.mk.injEq, Value.int.injEq, true_and, and_true] at he
    obtain ⟨rfl, rfl⟩ := he
    rw [h]⟩
theorem Told.two {n d n' d' z : Int} (h : Told [fracv n d, fracv n' d'] (.int .i64 z)) : z = compv n d n' d' := by
  have := h.1 n d n' d' rfl
  simpa using this
theorem Told.one {n d : Int} {b : Bool} (h : Told [fracv n d] (.bool b)) : b = decide (IsFrac n d) := by
  have := h.2 n d rfl
  simpa using this
theorem comp_bd (n d n' d' : Int) : -1 ≤ compv n d n' d' ∧ compv n d n' d' ≤ 1 := by
  unfold compv cmpi
  split
  · split
    · omega
    · split <;> omega
  · omega
theorem eq_frac {n d n' d' : Int} {w : World} {x y : Operand} : (cmpS .eql 23 x y (fracv n d) (fracv n' d')).run Try.prog w = .ok (.bool (n == n' && d == d')) w := by
  have := run_eqStruct (P := Try.prog) (t := 23) (k := .i64) (a := x) (b := y) (xs := [n, d]) (ys := [n', d']) (w := w) (by kernel_rfl) (by kernel_rfl) (by kernel_rfl) (by kernel_rfl) (by kernel_rfl) (by kernel_rfl)
  simpa [eqInts, fracv] using this

set_option maxHeartbeats 1000000 in
theorem orders (n d n' d' n'' d'' : Int) (w : World) (a1 : -9223372036854775808 ≤ n) (a2 : n ≤ 9223372036854775807) (a3 : -9223372036854775808 ≤ d) (a4 : d ≤ 9223372036854775807)
    (b1 : -9223372036854775808 ≤ n') (b2 : n' ≤ 9223372036854775807) (b3 : -9223372036854775808 ≤ d') (b4 : d' ≤ 9223372036854775807)
    (c1 : -9223372036854775808 ≤ n'') (c2 : n'' ≤ 9223372036854775807) (c3 : -9223372036854775808 ≤ d'') (c4 : d'' ≤ 9223372036854775807) :
    Calls Try.prog 3 #[fracv n d, fracv n' d', fracv n'' d''] w (fun e w' => e = .returned (.bool true) ∧ Below w.heap.size w w') := by
  refine Calls.mono (S3_calls n d n' d' n'' d'' w (fun v w' => v = .bool true ∧ bel w w') ?_) (by rintro e w' ⟨v, rfl, rfl, hb⟩; exact ⟨rfl, hb⟩)
  unfold S3
  refine wr_box fun x1 w2 X1 h _ _ => ?_
  refine wr_box fun x3 w4 X3 h' _ _ => ?_
  replace h := h.trans h'; replace X1 := X1.up h'; clear h'
  refine wr_box fun x5 w6 X5 h' _ _ => ?_
  replace h := h.trans h'; replace X1 := X1.up h'; replace X3 := X3.up h'; clear h'
  refine join_mk (fun s w' => s.1 = (!(decide (IsFrac n d) && (decide (IsFrac n' d') && decide (IsFrac n'' d'')))) ∧ Box w' x1 [.int .i64 n, .int .i64 d] ∧ Box w' x3 [.int .i64 n', .int .i64 d'] ∧ Box w' x5 [.int .i64 n'', .int .i64 d''] ∧ bel w w') (fun K hK => ?_) (fun s w' => ?_)
  · refine rd_boxN X1 (by kernel_rfl) rfl ?_
    refine call_mono (callB (valid10 n d _ a1 a2 a3 a4)) ?_
    rintro x w7 ⟨rfl, h'⟩
    replace h := h.trans h'; replace X1 := X1.up h'; replace X3 := X3.up h'; replace X5 := X5.up h'; clear h'
    refine br_not (fun e1 => hK _ _ ⟨by rw [e1]; rfl, X1, X3, X5, h⟩) (fun e1 => ?_)
    refine rd_boxN X3 (by kernel_rfl) rfl ?_
    refine call_mono (callB (valid10 n' d' _ b1 b2 b3 b4)) ?_
    rintro x w8 ⟨rfl, h'⟩
    replace h := h.trans h'; replace X1 := X1.up h'; replace X3 := X3.up h'; replace X5 := X5.up h'; clear h'
    refine br_not (fun e2 => hK _ _ ⟨by rw [e1, e2]; rfl, X1, X3, X5, h⟩) (fun e2 => ?_)
    refine rd_boxN X5 (by kernel_rfl) rfl ?_
    refine call_mono (callB (valid10 n'' d'' _ c1 c2 c3 c4)) ?_
    rintro x w9 ⟨rfl, h'⟩
    replace h := h.trans h'; replace X1 := X1.up h'; replace X3 := X3.up h'; replace X5 := X5.up h'; clear h'
    exact hK _ _ ⟨by rw [e1, e2]; rfl, X1, X3, X5, h⟩
  · rintro ⟨hs, X1, X3, X5, h⟩ _
    rw [hs]
    refine br_not (fun hv => ?_) (fun hv => ?_)
    · refine rd_boxN X1 (by kernel_rfl) rfl ?_
      refine rd_boxN X1 (by kernel_rfl) rfl ?_
      refine call_mono (callI (compF n d n d _ a1 a2 a3 a4 a1 a2 a3 a4)) ?_
      rintro x w7 ⟨rfl, h'⟩
      replace h := h.trans h'; replace X1 := X1.up h'; replace X3 := X3.up h'; replace X5 := X5.up h'; clear h'
      refine br_eq (fun _ => ?_) (fun e => absurd (comp_self n d) e)
      refine rd_boxN X1 (by kernel_rfl) rfl ?_
      refine call_mono (callB (valid10 n d _ a1 a2 a3 a4)) ?_
      rintro x w8 ⟨rfl, h'⟩
      replace h := h.trans h'; replace X1 := X1.up h'; replace X3 := X3.up h'; replace X5 := X5.up h'; clear h'
      refine br_mk (fun _ => ⟨rfl, h⟩) (fun e => ?_)
      refine rd_boxN X1 (by kernel_rfl) rfl ?_
      refine call_mono (callI (floorF n d _ a1 a2 a3 a4)) ?_
      rintro x w8 ⟨rfl, h'⟩
      replace h := h.trans h'; replace X1 := X1.up h'; replace X3 := X3.up h'; replace X5 := X5.up h'; clear h'
      refine ⟨?_, h⟩
      rw [show floorq n d = 0 by unfold floorq; rw [if_neg (by simpa using e)]]; rfl
    · simp only [Bool.and_eq_true, decide_eq_true_eq] at hv
      obtain ⟨va, vb, vc⟩ := hv
      refine join_mk (fun _ w' => Box w' x1 [.int .i64 n, .int .i64 d] ∧ Box w' x3 [.int .i64 n', .int .i64 d'] ∧ Box w' x5 [.int .i64 n'', .int .i64 d''] ∧ bel w w') (fun K hK => ?_) (fun _ w' => ?_)
      · refine drw_mk fun w1 h' _ => ?_
        replace h := h.trans h'; replace X1 := X1.up h'; replace X3 := X3.up h'; replace X5 := X5.up h'; clear h'
        refine flEx_mk (fun _ l v _ => Told l v) (fun _ _ _ _ _ h _ => h) ?_
        refine rd_boxN X1 (by kernel_rfl) rfl ?_
        refine rd_boxN X3 (by kernel_rfl) rfl ?_
        refine flc_mk (fun w2 _ _ => call_mono (callI (compF n d n' d' _ a1 a2 a3 a4 b1 b2 b3 b4)) fun x w' ⟨hx, hb⟩ => ⟨hb, told2 hx⟩) (fun x => ?_)
        refine rd_boxN X3 (by kernel_rfl) rfl ?_
        refine rd_boxN X1 (by kernel_rfl) rfl ?_
        refine flc_mk (fun w2 _ _ => call_mono (callI (compF n' d' n d _ b1 b2 b3 b4 a1 a2 a3 a4)) fun x w' ⟨hx, hb⟩ => ⟨hb, told2 hx⟩) (fun y => ?_)
        refine z_eq rfl ?_
        have cb := comp_bd n' d' n d
        have sw : compv n' d' n d = - compv n d n' d' := comp_swap
        refine br_ne (fun e => flend_mk fun w2 _ hp => ?_) (fun _ => ?_)
        · obtain ⟨p1, p2, _⟩ := hp
          have q1 : y = compv n' d' n d := p1.two
          have q2 : x = compv n d n' d' := p2.two
          refine absurd ?_ e
          rw [q1, q2, IntWalk.i64_in _ (by omega)]; omega
        refine rd_boxN X1 (by kernel_rfl) rfl ?_
        refine rd_boxN X3 (by kernel_rfl) rfl ?_
        refine flc_mk (fun w2 _ _ => call_mono (callI (compF n d n' d' _ a1 a2 a3 a4 b1 b2 b3 b4)) fun x w' ⟨hx, hb⟩ => ⟨hb, told2 hx⟩) (fun z => ?_)
        have fin : ∀ w2, bel w1 w2 → Box w2 x1 [.int .i64 n, .int .i64 d] ∧ Box w2 x3 [.int .i64 n', .int .i64 d'] ∧ Box w2 x5 [.int .i64 n'', .int .i64 d''] ∧ bel w w2 := fun w2 hb => ⟨X1.up hb, X3.up hb, X5.up hb, h.trans hb⟩
        refine br_dec (fun l1 => ?_) (fun _ => flend_mk fun w2 hb _ => hK _ _ (fin w2 hb))
        refine rd_boxN X3 (by kernel_rfl) rfl ?_
        refine rd_boxN X5 (by kernel_rfl) rfl ?_
        refine flc_mk (fun w2 _ _ => call_mono (callI (compF n' d' n'' d'' _ b1 b2 b3 b4 c1 c2 c3 c4)) fun x w' ⟨hx, hb⟩ => ⟨hb, told2 hx⟩) (fun u => ?_)
        refine br_dec (fun l2 => ?_) (fun _ => ?_)
        · refine rd_boxN X1 (by kernel_rfl) rfl ?_
          refine rd_boxN X5 (by kernel_rfl) rfl ?_
          refine flend_mk fun w2 hb hp => ?_
          obtain ⟨p1, p2, _⟩ := hp
          have hb' := fin w2 hb
          obtain ⟨X1, X3, X5, h⟩ := hb'
          refine call_mono (callI (compF n d n'' d'' _ a1 a2 a3 a4 c1 c2 c3 c4)) ?_
          rintro x w3 ⟨rfl, h'⟩
          replace h := h.trans h'; replace X1 := X1.up h'; replace X3 := X3.up h'; replace X5 := X5.up h'; clear h'
          have q1 : u = compv n' d' n'' d'' := p1.two
          have q2 : z = compv n d n' d' := p2.two
          have := comp_trans va vb vc (by rw [← q2]; exact l1) (by rw [← q1]; exact l2)
          exact br_dec (fun e => absurd e (by omega)) (fun _ => hK _ _ ⟨X1, X3, X5, h⟩)
        · exact flend_mk fun w2 hb _ => hK _ _ (fin w2 hb)
      · rintro ⟨X1, X3, X5, h⟩ _
        refine rd_boxN X1 (by kernel_rfl) rfl ?_
        refine call_mono (callI (floorF n d _ a1 a2 a3 a4)) ?_
        rintro (x : Int) w8 ⟨hx, h'⟩
        replace h := h.trans h'; replace X1 := X1.up h'; replace X3 := X3.up h'; replace X5 := X5.up h'; clear h'
        have hfl := floor_in va
        have hx' : x = floorq n d := hx
        have f1 := isFrac_one hfl.1 hfl.2
        have f2 := floor_le va
        have f3 := floor_gt (n := n) (d := d) va
        rw [← hx'] at hfl f1 f2 f3
        refine wr_alloc (z := fracv 0 0) (by kernel_rfl) fun x26 w9 Y h' hy _ => ?_
        have n1 := X1.ne hy; have n3 := X3.ne hy
        have hw : w.heap.size ≤ x26.block := by rw [hy]; exact h.size
        replace h := h.trans h'; replace X1 := X1.up h'; replace X3 := X3.up h'; replace X5 := X5.up h'; clear h'
        refine wu_box Y (by kernel_rfl) (Nat.le_refl 2) rfl fun w10 Y h' _ => ?_
        replace X1 := X1.grown h' n1; replace X3 := X3.grown h' n3; replace h := h.grownAt h' hw; clear h' n1 n3 X5
        replace Y : Box w10 x26 [.int .i64 x, .int .i64 1] := Y
        refine rd_box0 (by kernel_rfl) Y rfl rfl ?_
        refine z_i64 (by omega) ?_
        refine wr_alloc (z := fracv 0 0) (by kernel_rfl) fun x31 w11 Z h' hz _ => ?_
        have n1 := X1.ne hz; have n3 := X3.ne hz; have n4 := Y.ne hz
        have hw : w.heap.size ≤ x31.block := by rw [hz]; exact h.size
        replace h := h.trans h'; replace X1 := X1.up h'; replace X3 := X3.up h'; replace Y := Y.up h'; clear h'
        refine wu_box Z (by kernel_rfl) (Nat.le_refl 2) rfl fun w12 Z h' _ => ?_
        replace X1 := X1.grown h' n1; replace X3 := X3.grown h' n3; replace Y := Y.grown h' n4; replace h := h.grownAt h' hw; clear h' n1 n3 n4
        replace Z : Box w12 x31 [.int .i64 (x + 1), .int .i64 1] := Z
        refine drw_mk fun w13 h' _ => ?_
        replace h := h.trans h'; replace X1 := X1.up h'; replace X3 := X3.up h'; replace Y := Y.up h'; replace Z := Z.up h'; clear h'
        refine flEx_mk (fun _ l v _ => Told l v) (fun _ _ _ _ _ h _ => h) ?_
        refine rd_boxN Y (by kernel_rfl) rfl ?_
        refine rd_boxN X1 (by kernel_rfl) rfl ?_
        refine flc_mk (fun w2 _ _ => call_mono (callI (compF x 1 n d _ (by omega) (by omega) (by omega) (by omega) a1 a2 a3 a4)) fun x w' ⟨hx, hb⟩ => ⟨hb, told2 hx⟩) (fun y => ?_)
        refine br_dec (fun _ => ?_) (fun e => flend_mk fun w2 _ hp => absurd (by rw [show y = compv x 1 n d from hp.1.two]; exact f2) e)
        refine rd_boxN Z (by kernel_rfl) rfl ?_
        refine flc_mk (fun w2 _ _ => call_mono (callB (valid10 (x + 1) 1 _ (by omega) (by omega) (by omega) (by omega))) fun x w' ⟨hx, hb⟩ => ⟨hb, told1 hx⟩) (fun v => ?_)
        have last : ∀ (w2 : World) (c : Int), bel w13 w2 → Told [fracv n d, fracv n' d'] (.int .i64 c) → (Value.bool ((n == n' && d == d') == (c == 0)) = .bool true ∧ bel w w2) := by
          intro w2 c hb hc
          refine ⟨?_, h.trans hb⟩
          have q : c = compv n d n' d' := hc.two
          have := comp_eq va vb
          rw [← q] at this
          congr 1
          rw [beq_iff_eq, Bool.eq_iff_iff]
          simp only [Bool.and_eq_true, beq_iff_eq]
          exact this.symm
        refine br_not (fun ev => ?_) (fun ev => ?_)
        · refine rd_boxN X1 (by kernel_rfl) rfl ?_
          refine rd_boxN X3 (by kernel_rfl) rfl ?_
          refine ⟨n == n' && d == d', fun w' _ => eq_frac, ?_⟩
          refine rd_boxN X1 (by kernel_rfl) rfl ?_
          refine rd_boxN X3 (by kernel_rfl) rfl ?_
          refine flc_mk (fun w2 _ _ => call_mono (callI (compF n d n' d' _ a1 a2 a3 a4 b1 b2 b3 b4)) fun x w' ⟨hx, hb⟩ => ⟨hb, told2 hx⟩) (fun c => ?_)
          exact flend_mk fun w2 hb hp => last w2 c hb hp.1
        · refine rd_boxN X1 (by kernel_rfl) rfl ?_
          refine rd_boxN Z (by kernel_rfl) rfl ?_
          refine flc_mk (fun w2 _ _ => call_mono (callI (compF n d (x + 1) 1 _ a1 a2 a3 a4 (by omega) (by omega) (by omega) (by omega))) fun x w' ⟨hx, hb⟩ => ⟨hb, told2 hx⟩) (fun c => ?_)
          refine br_dec (fun _ => ?_) (fun e => flend_mk fun w2 _ hp => ?_)
          · refine rd_boxN X1 (by kernel_rfl) rfl ?_
            refine rd_boxN X3 (by kernel_rfl) rfl ?_
            refine ⟨n == n' && d == d', fun w' _ => eq_frac, ?_⟩
            refine rd_boxN X1 (by kernel_rfl) rfl ?_
            refine rd_boxN X3 (by kernel_rfl) rfl ?_
            refine flc_mk (fun w2 _ _ => call_mono (callI (compF n d n' d' _ a1 a2 a3 a4 b1 b2 b3 b4)) fun x w' ⟨hx, hb⟩ => ⟨hb, told2 hx⟩) (fun c => ?_)
            exact flend_mk fun w2 hb hp => last w2 c hb hp.1
          · obtain ⟨p1, p2, _⟩ := hp
            have q1 : c = compv n d (x + 1) 1 := p1.two
            have q2 : v = decide (IsFrac (x + 1) 1) := p2.one
            rw [q2] at ev
            exact absurd (by rw [q1]; exact f3 (by simpa using ev)) e
end Go.Proofs.Ytinmlgolbikoeaa
