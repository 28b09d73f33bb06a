import Derived.KernelRfl
import Derived.Test.YtajpdnphamomjaaOpen
import Derived.DataReads
import Derived.Test.YtajpdnphamomjaaPackFractionField2

/- Package fraction: Sub, Div. -/

namespace Go.Proofs.Ytajpdnphamomjaa
open Go.RowKit Go.Q Go.Q.Num Go.V

theorem frac_neg {n d : Int} (h : IsFrac n d) : IsFrac (-n) d := ⟨h.1, h.2.1, by have := h.2.2.2.1; omega, by have := h.2.2.1; omega, by rw [Int.natAbs_neg]; exact h.2.2.2.2⟩
theorem ratv_neg {n d : Int} (h : IsFrac n d) : ratv (-n) d = -ratv n d := by
  rw [ratv_div h, ratv_div (frac_neg h), Rat.neg_divInt]

set_option maxHeartbeats 400000 in
theorem opS (n d n' d' : Int) (w : World) (a : I64 n ∧ I64 d) (b : I64 n' ∧ I64 d') : call Try.prog 21 [fracv n d, fracv n' d'] rFE w (fun x w' => x = opT n d n' d' (fun r s => r + -s) ∧ bel w w') := by
  refine call_of (S21_calls n d n' d' w _ ?_)
  unfold S21
  refine wr_box fun x1 w1 X1 h _ _ => ?_
  refine wr_box fun x3 w2 X3 h' hx3 _ => ?_
  have hne3 : w.heap.size ≤ x3.block := by rw [hx3]; exact h.size
  have h13 := X1.lt
  replace h := h.trans h'; replace X1 := X1.up h'; clear h'
  refine wr_alloc (z := fracv 0 0) (by kernel_rfl) fun x5 w3 Y h' hy _ => ?_
  have hne : w.heap.size ≤ x5.block := by rw [hy]; exact h.size
  have h35 := X3.lt
  replace h := h.trans h'; replace X1 := X1.up h'; replace X3 := X3.up h'; clear h'
  refine rd_boxN X3 (by kernel_rfl) rfl ?_
  refine call_mono (callB (valid10f n' d' _ b.1 b.2)) ?_
  rintro x w4 ⟨rfl, h'⟩
  replace h := h.trans h'; replace X1 := X1.up h'; replace X3 := X3.up h'; replace Y := Y.up h'; clear h'
  refine br_not (fun e1 => ?_) (fun e1 => ?_)
  · refine wu_box Y (by kernel_rfl) (Nat.le_refl 2) rfl fun w5 Y h' _ => ?_
    exact rd_boxV Y (by kernel_rfl) rfl ⟨(invT : FE), rfl, (opT_no (.inr e1)).symm, h.grownAt h' hne⟩
  simp only [decide_eq_true_eq] at e1
  refine rd_box0 (by kernel_rfl) X3 rfl rfl ?_
  refine z_i64 (by have := e1.2.2; omega) ?_
  refine wu_box X3 (by kernel_rfl) (show 1 ≤ 2 by omega) rfl fun w5 X3 h' _ => ?_
  replace h := h.grownAt h' hne3
  replace X1 := X1.grown h' (by intro e; injection e; omega)
  replace Y := Y.grown h' (by intro e; injection e; omega)
  clear h'
  refine rd_boxN X1 (by kernel_rfl) rfl ?_
  refine rd_boxN X3 (by kernel_rfl) rfl ?_
  refine call_mono (opA n d (0 - n') d' w5 a ⟨by have := e1.2.2; omega, b.2⟩) ?_
  rintro (t : FE) w6 ⟨ht, h'⟩
  replace h := h.trans h'; replace Y := Y.up h'; clear h'
  refine wu_box Y (by kernel_rfl) (Nat.le_refl 2) rfl fun w7 Y h' _ => ?_
  refine rd_boxV Y (by kernel_rfl) rfl ⟨t, rfl, ?_, h.grownAt h' hne⟩
  rw [ht, Int.zero_sub]
  unfold opT
  have e2 := frac_neg e1
  by_cases e0 : IsFrac n d
  · rw [if_pos ⟨e0, e2⟩, if_pos ⟨e0, e1⟩, ratv_neg e1]
  · rw [if_neg (fun q => e0 q.1), if_neg (fun q => e0 q.1)]

theorem inv_frac {n d : Int} (h : IsFrac n d) (h0 : 0 < n) : IsFrac d n := ⟨by omega, h.2.2.2.1, by have := h.1; omega, h.2.1, by rw [Nat.gcd_comm]; exact h.2.2.2.2⟩
theorem inv_frac' {n d : Int} (h : IsFrac n d) (h0 : n < 0) : IsFrac (-d) (-n) := ⟨by omega, by have := h.2.2.1; omega, by have := h.2.1; omega, by have := h.1; omega, by rw [Int.natAbs_neg, Int.natAbs_neg, Nat.gcd_comm]; exact h.2.2.2.2⟩
theorem ratv_inv {n d : Int} (h : IsFrac n d) (h0 : 0 < n) : ratv d n = (ratv n d)⁻¹ := by
  rw [ratv_div h, ratv_div (inv_frac h h0), Rat.inv_divInt]
theorem ratv_inv' {n d : Int} (h : IsFrac n d) (h0 : n < 0) : ratv (-d) (-n) = (ratv n d)⁻¹ := by
  rw [ratv_div h, ratv_div (inv_frac' h h0), Rat.inv_divInt, Rat.divInt_eq_divInt_iff (by omega) (by omega), Int.neg_mul, Int.mul_neg]

set_option maxHeartbeats 400000 in
theorem opD (n d n' d' : Int) (w : World) (a : I64 n ∧ I64 d) (b : I64 n' ∧ I64 d') : call Try.prog 25 [fracv n d, fracv n' d'] rFE w (fun x w' => x = divT n d n' d' ∧ bel w w') := by
  refine call_of (S25_calls n d n' d' w _ ?_)
  unfold S25
  refine wr_box fun x1 w1 X1 h _ _ => ?_
  refine wr_box fun x3 w2 X3 h' hx3 _ => ?_
  replace h := h.trans h'; replace X1 := X1.up h'; clear h'
  refine wr_alloc (z := fracv 0 0) (by kernel_rfl) fun x5 w3 Y h' hy _ => ?_
  have hne : w.heap.size ≤ x5.block := by rw [hy]; exact h.size
  replace h := h.trans h'; replace X1 := X1.up h'; replace X3 := X3.up h'; clear h'
  refine rd_boxN X3 (by kernel_rfl) rfl ?_
  refine call_mono (callB (valid10f n' d' _ b.1 b.2)) ?_
  rintro x w4 ⟨rfl, h'⟩
  replace h := h.trans h'; replace X1 := X1.up h'; replace X3 := X3.up h'; replace Y := Y.up h'; clear h'
  refine br_not (fun e1 => ?_) (fun e1 => ?_)
  · refine wu_box Y (by kernel_rfl) (Nat.le_refl 2) rfl fun w5 Y h' _ => ?_
    exact rd_boxV Y (by kernel_rfl) rfl ⟨(invT : FE), rfl, by unfold divT; rw [if_neg]; rintro ⟨_, q, _⟩; simp [q] at e1, h.grownAt h' hne⟩
  simp only [decide_eq_true_eq] at e1
  refine rd_box0 (by kernel_rfl) X3 rfl rfl ?_
  refine br_eq (fun e2 => ?_) (fun e2 => ?_)
  · refine wu_box Y (by kernel_rfl) (Nat.le_refl 2) rfl fun w5 Y h' _ => ?_
    exact rd_boxV Y (by kernel_rfl) rfl ⟨(invT : FE), rfl, by unfold divT; rw [if_neg]; rintro ⟨_, _, q⟩; exact q e2, h.grownAt h' hne⟩
  refine rd_box (by kernel_rfl) X3 rfl rfl ?_
  refine rd_box0 (by kernel_rfl) X3 rfl rfl ?_
  refine wr_alloc (z := fracv 0 0) (by kernel_rfl) fun x17 w5 Z h' hz _ => ?_
  have hne2 : w.heap.size ≤ x17.block := by rw [hz]; exact h.size
  have l1 := X1.lt
  have l3 := X3.lt
  have l5 := Y.lt
  replace h := h.trans h'; replace X1 := X1.up h'; replace X3 := X3.up h'; replace Y := Y.up h'; clear h'
  refine wu_box Z (by kernel_rfl) (Nat.le_refl 2) rfl fun w6 Z h' _ => ?_
  replace h := h.grownAt h' hne2
  replace X1 := X1.grown h' (by intro e; injection e; omega)
  replace Y := Y.grown h' (by intro e; injection e; omega)
  clear h' X3
  refine join_mk (fun _ w7 => ∃ p q : Int, IsFrac p q ∧ ratv p q = (ratv n' d')⁻¹ ∧ Box w7 x17 [.int .i64 p, .int .i64 q] ∧ bel w w7 ∧ Box w7 x1 [.int .i64 n, .int .i64 d] ∧ Box w7 x5 [.int .i64 0, .int .i64 0]) (fun K hK => ?_) ?_
  · refine rd_box (by kernel_rfl) Z rfl rfl ?_
    refine br_dec (fun e3 => ?_) (fun e3 => ?_)
    · refine rd_box0 (by kernel_rfl) Z rfl rfl ?_
      refine z_i64 (by have := e1.1; have := e1.2.1; omega) ?_
      refine rd_box (by kernel_rfl) Z rfl rfl ?_
      refine z_i64 (by have := e1.2.2; omega) ?_
      refine wu_box Z (by kernel_rfl) (Nat.le_refl 2) rfl fun w7 Z h' _ => ?_
      refine hK _ _ ⟨-d', -n', inv_frac' e1 e3, ratv_inv' e1 e3, ?_, h.grownAt h' hne2, X1.grown h' (by intro e; injection e; omega), Y.grown h' (by intro e; injection e; omega)⟩
      rw [← Int.zero_sub, ← Int.zero_sub n']; exact Z
    · exact hK _ _ ⟨d', n', inv_frac e1 (by omega), ratv_inv e1 (by omega), Z, h, X1, Y⟩
  rintro _ w7 ⟨p, q, f1, f2, Z, h, X1, Y⟩ _
  refine rd_boxN X1 (by kernel_rfl) rfl ?_
  refine rd_boxN Z (by kernel_rfl) rfl ?_
  refine call_mono (opM n d p q w7 a ⟨⟨by have := f1.2.2; omega, by have := f1.2.2; omega⟩, ⟨by have := f1.1; omega, by have := f1.2.1; omega⟩⟩) ?_
  rintro (t : FE) w8 ⟨ht, h'⟩
  replace h := h.trans h'; replace Y := Y.up h'; clear h'
  refine wu_box Y (by kernel_rfl) (Nat.le_refl 2) rfl fun w9 Y h' _ => ?_
  refine rd_boxV Y (by kernel_rfl) rfl ⟨t, rfl, ?_, h.grownAt h' hne⟩
  rw [ht]
  unfold opT divT
  by_cases e0 : IsFrac n d
  · rw [if_pos ⟨e0, f1⟩, if_pos ⟨e0, e1, e2⟩, f2, Rat.div_def]
  · rw [if_neg (fun q => e0 q.1), if_neg (fun q => e0 q.1)]
end Go.Proofs.Ytajpdnphamomjaa

/- The conditions of functions, printed by our tool; each is checked against the code by the kernel. -/



namespace Go.Proofs
open Go Go.V Go.RowKit
/-- querylab/querylablaw10.FractionExact -/
def S4 (a_0 : Int) (a_1 : Int) (b_0 : Int) (b_1 : Int) (w0 : World) (R : Value → World → Prop) : Prop :=
 wr Try.prog (Instr.box 23 (.agg #[(.int .i64 a_0), (.int .i64 a_1)])) (.one .addr) w0 fun (x1 : Addr) (w2 : World) =>
 wr Try.prog (Instr.box 23 (.agg #[(.int .i64 b_0), (.int .i64 b_1)])) (.one .addr) w2 fun (x3 : Addr) (w4 : World) =>
 rd Try.prog (Instr.loadAt 23 (.pointer (some x1))) (.agg [(.int .i64), (.int .i64)]) w4 fun (x5 : (Int × Int × Unit)) =>
 rd Try.prog (Instr.loadAt 23 (.pointer (some x3))) (.agg [(.int .i64), (.int .i64)]) w4 fun (x6 : (Int × Int × Unit)) =>
 call Try.prog 18 [(.agg #[(.int .i64 x5.1), (.int .i64 x5.2.1)]), (.agg #[(.int .i64 x6.1), (.int .i64 x6.2.1)])] (.many [(.agg [(.int .i64), (.int .i64)]), (.one (.int .i64))]) w4 fun (x7 : ((Int × Int × Unit) × Int × Unit)) (w8 : World) =>
 wr Try.prog (Instr.alloc 23 true (.tuple #[])) (.one .addr) w8 fun (x9 : Addr) (w10 : World) =>
 wu Try.prog (Instr.storeAt 23 (.pointer (some x9)) (.agg #[(.int .i64 x7.1.1), (.int .i64 x7.1.2.1)])) w10 fun (w11 : World) =>
 rd Try.prog (Instr.loadAt 23 (.pointer (some x1))) (.agg [(.int .i64), (.int .i64)]) w11 fun (x12 : (Int × Int × Unit)) =>
 rd Try.prog (Instr.loadAt 23 (.pointer (some x3))) (.agg [(.int .i64), (.int .i64)]) w11 fun (x13 : (Int × Int × Unit)) =>
 call Try.prog 19 [(.agg #[(.int .i64 x12.1), (.int .i64 x12.2.1)]), (.agg #[(.int .i64 x13.1), (.int .i64 x13.2.1)])] (.many [(.agg [(.int .i64), (.int .i64)]), (.one (.int .i64))]) w11 fun (x14 : ((Int × Int × Unit) × Int × Unit)) (w15 : World) =>
 wr Try.prog (Instr.alloc 23 true (.tuple #[])) (.one .addr) w15 fun (x16 : Addr) (w17 : World) =>
 wu Try.prog (Instr.storeAt 23 (.pointer (some x16)) (.agg #[(.int .i64 x14.1.1), (.int .i64 x14.1.2.1)])) w17 fun (w18 : World) =>
 drw w18 fun w19 => flEx fun F20 =>
 rd Try.prog (Instr.loadAt 23 (.pointer (some x9))) (.agg [(.int .i64), (.int .i64)]) w19 fun (x21 : (Int × Int × Unit)) =>
 rd Try.prog (Instr.loadAt 23 (.pointer (some x16))) (.agg [(.int .i64), (.int .i64)]) w19 fun (x22 : (Int × Int × Unit)) =>
 rd Try.prog (cmpS .neq 23 (.tmp 21) (.tmp 22) (.agg #[(.int .i64 x21.1), (.int .i64 x21.2.1)]) (.agg #[(.int .i64 x22.1), (.int .i64 x22.2.1)])) (.one .bool) w19 fun (x23 : Bool) =>
 br x23 (R (.bool false) w19)
 (br (x7.2.1 != x14.2.1) (R (.bool false) w19)
 (rd Try.prog (Instr.loadAt 23 (.pointer (some x1))) (.agg [(.int .i64), (.int .i64)]) w19 fun (x24 : (Int × Int × Unit)) =>
 flc bel w19 (fun _w26 => True) (fun (w25 : World) =>
   call Try.prog 20 [(.agg #[(.int .i64 x24.1), (.int .i64 x24.2.1)])] (.one (.one .bool)) w25 fun (x27 : Bool) (w28 : World) =>
 (bel w25 w28 ∧ F20 10 [(.agg #[(.int .i64 x24.1), (.int .i64 x24.2.1)])] (.bool x27) w28))
  fun (x29 : Bool) =>
 rd Try.prog (Instr.loadAt 23 (.pointer (some x1))) (.agg [(.int .i64), (.int .i64)]) w19 fun (x30 : (Int × Int × Unit)) =>
 flend bel w19 (fun w32 => F20 10 [(.agg #[(.int .i64 x24.1), (.int .i64 x24.2.1)])] (.bool x29) w32 ∧ True) fun w31 =>
 call Try.prog 15 [(.agg #[(.int .i64 x30.1), (.int .i64 x30.2.1)])] (.one (.one .bool)) w31 fun (x33 : Bool) (w34 : World) =>
 br (!(x29 == x33)) (R (.bool false) w34)
 (rd Try.prog (Instr.loadAt 23 (.pointer (some x1))) (.agg [(.int .i64), (.int .i64)]) w34 fun (x35 : (Int × Int × Unit)) =>
 rd Try.prog (Instr.loadAt 23 (.pointer (some x3))) (.agg [(.int .i64), (.int .i64)]) w34 fun (x36 : (Int × Int × Unit)) =>
 call Try.prog 21 [(.agg #[(.int .i64 x35.1), (.int .i64 x35.2.1)]), (.agg #[(.int .i64 x36.1), (.int .i64 x36.2.1)])] (.many [(.agg [(.int .i64), (.int .i64)]), (.one (.int .i64))]) w34 fun (x37 : ((Int × Int × Unit) × Int × Unit)) (w38 : World) =>
 wu Try.prog (Instr.storeAt 23 (.pointer (some x9)) (.agg #[(.int .i64 x37.1.1), (.int .i64 x37.1.2.1)])) w38 fun (w39 : World) =>
 rd Try.prog (Instr.loadAt 23 (.pointer (some x1))) (.agg [(.int .i64), (.int .i64)]) w39 fun (x40 : (Int × Int × Unit)) =>
 rd Try.prog (Instr.loadAt 23 (.pointer (some x3))) (.agg [(.int .i64), (.int .i64)]) w39 fun (x41 : (Int × Int × Unit)) =>
 call Try.prog 22 [(.agg #[(.int .i64 x40.1), (.int .i64 x40.2.1)]), (.agg #[(.int .i64 x41.1), (.int .i64 x41.2.1)])] (.many [(.agg [(.int .i64), (.int .i64)]), (.one (.int .i64))]) w39 fun (x42 : ((Int × Int × Unit) × Int × Unit)) (w43 : World) =>
 wu Try.prog (Instr.storeAt 23 (.pointer (some x16)) (.agg #[(.int .i64 x42.1.1), (.int .i64 x42.1.2.1)])) w43 fun (w44 : World) =>
 rd Try.prog (Instr.loadAt 23 (.pointer (some x9))) (.agg [(.int .i64), (.int .i64)]) w44 fun (x45 : (Int × Int × Unit)) =>
 rd Try.prog (Instr.loadAt 23 (.pointer (some x16))) (.agg [(.int .i64), (.int .i64)]) w44 fun (x46 : (Int × Int × Unit)) =>
 rd Try.prog (cmpS .neq 23 (.tmp 48) (.tmp 49) (.agg #[(.int .i64 x45.1), (.int .i64 x45.2.1)]) (.agg #[(.int .i64 x46.1), (.int .i64 x46.2.1)])) (.one .bool) w44 fun (x47 : Bool) =>
 br x47 (R (.bool false) w44)
 (br (x37.2.1 != x42.2.1) (R (.bool false) w44)
 (rd Try.prog (Instr.loadAt 23 (.pointer (some x1))) (.agg [(.int .i64), (.int .i64)]) w44 fun (x48 : (Int × Int × Unit)) =>
 rd Try.prog (Instr.loadAt 23 (.pointer (some x3))) (.agg [(.int .i64), (.int .i64)]) w44 fun (x49 : (Int × Int × Unit)) =>
 call Try.prog 23 [(.agg #[(.int .i64 x48.1), (.int .i64 x48.2.1)]), (.agg #[(.int .i64 x49.1), (.int .i64 x49.2.1)])] (.many [(.agg [(.int .i64), (.int .i64)]), (.one (.int .i64))]) w44 fun (x50 : ((Int × Int × Unit) × Int × Unit)) (w51 : World) =>
 wu Try.prog (Instr.storeAt 23 (.pointer (some x9)) (.agg #[(.int .i64 x50.1.1), (.int .i64 x50.1.2.1)])) w51 fun (w52 : World) =>
 rd Try.prog (Instr.loadAt 23 (.pointer (some x1))) (.agg [(.int .i64), (.int .i64)]) w52 fun (x53 : (Int × Int × Unit)) =>
 rd Try.prog (Instr.loadAt 23 (.pointer (some x3))) (.agg [(.int .i64), (.int .i64)]) w52 fun (x54 : (Int × Int × Unit)) =>
 call Try.prog 24 [(.agg #[(.int .i64 x53.1), (.int .i64 x53.2.1)]), (.agg #[(.int .i64 x54.1), (.int .i64 x54.2.1)])] (.many [(.agg [(.int .i64), (.int .i64)]), (.one (.int .i64))]) w52 fun (x55 : ((Int × Int × Unit) × Int × Unit)) (w56 : World) =>
 wu Try.prog (Instr.storeAt 23 (.pointer (some x16)) (.agg #[(.int .i64 x55.1.1), (.int .i64 x55.1.2.1)])) w56 fun (w57 : World) =>
 rd Try.prog (Instr.loadAt 23 (.pointer (some x9))) (.agg [(.int .i64), (.int .i64)]) w57 fun (x58 : (Int × Int × Unit)) =>
 rd Try.prog (Instr.loadAt 23 (.pointer (some x16))) (.agg [(.int .i64), (.int .i64)]) w57 fun (x59 : (Int × Int × Unit)) =>
 rd Try.prog (cmpS .neq 23 (.tmp 68) (.tmp 69) (.agg #[(.int .i64 x58.1), (.int .i64 x58.2.1)]) (.agg #[(.int .i64 x59.1), (.int .i64 x59.2.1)])) (.one .bool) w57 fun (x60 : Bool) =>
 br x60 (R (.bool false) w57)
 (br (x50.2.1 != x55.2.1) (R (.bool false) w57)
 (rd Try.prog (Instr.loadAt 23 (.pointer (some x1))) (.agg [(.int .i64), (.int .i64)]) w57 fun (x61 : (Int × Int × Unit)) =>
 rd Try.prog (Instr.loadAt 23 (.pointer (some x3))) (.agg [(.int .i64), (.int .i64)]) w57 fun (x62 : (Int × Int × Unit)) =>
 call Try.prog 25 [(.agg #[(.int .i64 x61.1), (.int .i64 x61.2.1)]), (.agg #[(.int .i64 x62.1), (.int .i64 x62.2.1)])] (.many [(.agg [(.int .i64), (.int .i64)]), (.one (.int .i64))]) w57 fun (x63 : ((Int × Int × Unit) × Int × Unit)) (w64 : World) =>
 wu Try.prog (Instr.storeAt 23 (.pointer (some x9)) (.agg #[(.int .i64 x63.1.1), (.int .i64 x63.1.2.1)])) w64 fun (w65 : World) =>
 rd Try.prog (Instr.loadAt 23 (.pointer (some x1))) (.agg [(.int .i64), (.int .i64)]) w65 fun (x66 : (Int × Int × Unit)) =>
 rd Try.prog (Instr.loadAt 23 (.pointer (some x3))) (.agg [(.int .i64), (.int .i64)]) w65 fun (x67 : (Int × Int × Unit)) =>
 call Try.prog 26 [(.agg #[(.int .i64 x66.1), (.int .i64 x66.2.1)]), (.agg #[(.int .i64 x67.1), (.int .i64 x67.2.1)])] (.many [(.agg [(.int .i64), (.int .i64)]), (.one (.int .i64))]) w65 fun (x68 : ((Int × Int × Unit) × Int × Unit)) (w69 : World) =>
 wu Try.prog (Instr.storeAt 23 (.pointer (some x16)) (.agg #[(.int .i64 x68.1.1), (.int .i64 x68.1.2.1)])) w69 fun (w70 : World) =>
 rd Try.prog (Instr.loadAt 23 (.pointer (some x9))) (.agg [(.int .i64), (.int .i64)]) w70 fun (x71 : (Int × Int × Unit)) =>
 rd Try.prog (Instr.loadAt 23 (.pointer (some x16))) (.agg [(.int .i64), (.int .i64)]) w70 fun (x72 : (Int × Int × Unit)) =>
 rd Try.prog (cmpS .eql 23 (.tmp 88) (.tmp 89) (.agg #[(.int .i64 x71.1), (.int .i64 x71.2.1)]) (.agg #[(.int .i64 x72.1), (.int .i64 x72.2.1)])) (.one .bool) w70 fun (x73 : Bool) =>
 br x73 (R (.bool (x63.2.1 == x68.2.1)) w70)
 (R (.bool false) w70))))))))
def H4 : Hints := ⟨[], [(3, 12)], [], []⟩
set_option maxRecDepth 100000 in
theorem S4_eq (a_0 : Int) (a_1 : Int) (b_0 : Int) (b_1 : Int) (w0 : World) (R : Value → World → Prop) : vcFn Try.prog H4 Try.f4 [(.agg #[(.int .i64 a_0), (.int .i64 a_1)]), (.agg #[(.int .i64 b_0), (.int .i64 b_1)])] w0 R = S4 a_0 a_1 b_0 b_1 w0 R := by kernel_rfl
set_option maxRecDepth 100000 in
theorem S4_calls (a_0 : Int) (a_1 : Int) (b_0 : Int) (b_1 : Int) (w0 : World) (R : Value → World → Prop) (h : S4 a_0 a_1 b_0 b_1 w0 R) : Calls Try.prog 4 #[(.agg #[(.int .i64 a_0), (.int .i64 a_1)]), (.agg #[(.int .i64 b_0), (.int .i64 b_1)])] w0 (ret R) := by
  rw [← S4_eq] at h; exact vcFn_sound follows_ Try.func4 h

/-- querylab/querylablaw10.FractionLimits -/
def S5 (n_ : Int) (m_ : Int) (w0 : World) (R : Value → World → Prop) : Prop :=
 z (IntKind.wrap .i64 n_) fun (z1 : Int) =>
 z (IntKind.wrap .i64 (100000000000000000 - z1)) fun (z2 : Int) =>
 wr Try.prog (Instr.alloc 23 true (.tuple #[])) (.one .addr) w0 fun (x3 : Addr) (w4 : World) =>
 wu Try.prog (Instr.storeAt 23 (.pointer (some x3)) (.agg #[(.int .i64 z2), (.int .i64 1)])) w4 fun (w5 : World) =>
 z (IntKind.wrap .i64 m_) fun (z6 : Int) =>
 z (IntKind.wrap .i64 (100000000000000000 - z6)) fun (z7 : Int) =>
 wr Try.prog (Instr.alloc 23 true (.tuple #[])) (.one .addr) w5 fun (x8 : Addr) (w9 : World) =>
 wu Try.prog (Instr.storeAt 23 (.pointer (some x8)) (.agg #[(.int .i64 1), (.int .i64 z7)])) w9 fun (w10 : World) =>
 rd Try.prog (Instr.loadAt 23 (.pointer (some x3))) (.agg [(.int .i64), (.int .i64)]) w10 fun (x11 : (Int × Int × Unit)) =>
 rd Try.prog (Instr.loadAt 23 (.pointer (some x8))) (.agg [(.int .i64), (.int .i64)]) w10 fun (x12 : (Int × Int × Unit)) =>
 rd Try.prog (Instr.loadAt 2 (.pointer (some x3))) (.one (.int .i64)) w10 fun (x13 : Int) =>
 z (IntKind.wrap .i64 (0 - x13)) fun (z14 : Int) =>
 rd Try.prog (Instr.loadAt 2 (.pointer (some x3))) (.one (.int .i64)) w10 fun (x15 : Int) =>
 wr Try.prog (Instr.buildSlice 33 4 #[(0, (.agg #[(.int .i64 x11.1), (.int .i64 x11.2.1)])), (1, (.agg #[(.int .i64 x12.1), (.int .i64 x12.2.1)])), (2, (.agg #[(.int .i64 z14), (.int .i64 1)])), (3, (.agg #[(.int .i64 1), (.int .i64 x15)]))]) (.one .slice) w10 fun (x16 : (Option Addr × Nat × Nat)) (w17 : World) =>
 loop (T := (Int × Unit)) (0, ()) w17 fun (again18 : (Int × Unit) → World → Prop) (s19 : (Int × Unit)) w20 => ∀ _ : Nat → Value,
 br (decide (s19.1 < ((x16.2.1 : Nat) : Int))) (loop (T := (Int × Unit)) (0, ()) w20 fun (again21 : (Int × Unit) → World → Prop) (s22 : (Int × Unit)) w23 => ∀ _ : Nat → Value,
 br (decide (s22.1 < ((x16.2.1 : Nat) : Int))) (drw w23 fun w24 => flEx fun F25 =>
 rdp Try.prog (Instr.indexAt 33 (.slice x16.1 x16.2.1 x16.2.2) (.int .i64 s19.1)) (.one .addr) fun (x26 : Addr) =>
 rd Try.prog (Instr.loadAt 23 (.pointer (some x26))) (.agg [(.int .i64), (.int .i64)]) w24 fun (x27 : (Int × Int × Unit)) =>
 rdp Try.prog (Instr.indexAt 33 (.slice x16.1 x16.2.1 x16.2.2) (.int .i64 s22.1)) (.one .addr) fun (x28 : Addr) =>
 rd Try.prog (Instr.loadAt 23 (.pointer (some x28))) (.agg [(.int .i64), (.int .i64)]) w24 fun (x29 : (Int × Int × Unit)) =>
 flc bel w24 (fun _w31 => True) (fun (w30 : World) =>
   call Try.prog 23 [(.agg #[(.int .i64 x27.1), (.int .i64 x27.2.1)]), (.agg #[(.int .i64 x29.1), (.int .i64 x29.2.1)])] (.many [(.agg [(.int .i64), (.int .i64)]), (.one (.int .i64))]) w30 fun (x32 : ((Int × Int × Unit) × Int × Unit)) (w33 : World) =>
 (bel w30 w33 ∧ F25 8 [(.agg #[(.int .i64 x27.1), (.int .i64 x27.2.1)]), (.agg #[(.int .i64 x29.1), (.int .i64 x29.2.1)])] (.tuple #[(.agg #[(.int .i64 x32.1.1), (.int .i64 x32.1.2.1)]), (.int .i64 x32.2.1)]) w33))
  fun (x34 : ((Int × Int × Unit) × Int × Unit)) =>
 flc bel w24 (fun _w36 => True) (fun (w35 : World) =>
   wr Try.prog (Instr.alloc 23 true (.tuple #[])) (.one .addr) w35 fun (x37 : Addr) (w38 : World) =>
 (bel w35 w38 ∧ F25 12 [] (.pointer (some x37)) w38))
  fun (x39 : Addr) =>
 flend bel w24 (fun w41 => F25 12 [] (.pointer (some x39)) w41 ∧ F25 8 [(.agg #[(.int .i64 x27.1), (.int .i64 x27.2.1)]), (.agg #[(.int .i64 x29.1), (.int .i64 x29.2.1)])] (.tuple #[(.agg #[(.int .i64 x34.1.1), (.int .i64 x34.1.2.1)]), (.int .i64 x34.2.1)]) w41 ∧ True) fun w40 =>
 wu Try.prog (Instr.storeAt 23 (.pointer (some x39)) (.agg #[(.int .i64 x34.1.1), (.int .i64 x34.1.2.1)])) w40 fun (w42 : World) =>
 drw w42 fun w43 => flEx fun F44 =>
 rdp Try.prog (Instr.indexAt 33 (.slice x16.1 x16.2.1 x16.2.2) (.int .i64 s19.1)) (.one .addr) fun (x45 : Addr) =>
 rd Try.prog (Instr.loadAt 23 (.pointer (some x45))) (.agg [(.int .i64), (.int .i64)]) w43 fun (x46 : (Int × Int × Unit)) =>
 rdp Try.prog (Instr.indexAt 33 (.slice x16.1 x16.2.1 x16.2.2) (.int .i64 s22.1)) (.one .addr) fun (x47 : Addr) =>
 rd Try.prog (Instr.loadAt 23 (.pointer (some x47))) (.agg [(.int .i64), (.int .i64)]) w43 fun (x48 : (Int × Int × Unit)) =>
 flc bel w43 (fun _w50 => True) (fun (w49 : World) =>
   call Try.prog 24 [(.agg #[(.int .i64 x46.1), (.int .i64 x46.2.1)]), (.agg #[(.int .i64 x48.1), (.int .i64 x48.2.1)])] (.many [(.agg [(.int .i64), (.int .i64)]), (.one (.int .i64))]) w49 fun (x51 : ((Int × Int × Unit) × Int × Unit)) (w52 : World) =>
 (bel w49 w52 ∧ F44 8 [(.agg #[(.int .i64 x46.1), (.int .i64 x46.2.1)]), (.agg #[(.int .i64 x48.1), (.int .i64 x48.2.1)])] (.tuple #[(.agg #[(.int .i64 x51.1.1), (.int .i64 x51.1.2.1)]), (.int .i64 x51.2.1)]) w52))
  fun (x53 : ((Int × Int × Unit) × Int × Unit)) =>
 flc bel w43 (fun _w55 => True) (fun (w54 : World) =>
   wr Try.prog (Instr.alloc 23 true (.tuple #[])) (.one .addr) w54 fun (x56 : Addr) (w57 : World) =>
 (bel w54 w57 ∧ F44 12 [] (.pointer (some x56)) w57))
  fun (x58 : Addr) =>
 flend bel w43 (fun w60 => F44 12 [] (.pointer (some x58)) w60 ∧ F44 8 [(.agg #[(.int .i64 x46.1), (.int .i64 x46.2.1)]), (.agg #[(.int .i64 x48.1), (.int .i64 x48.2.1)])] (.tuple #[(.agg #[(.int .i64 x53.1.1), (.int .i64 x53.1.2.1)]), (.int .i64 x53.2.1)]) w60 ∧ True) fun w59 =>
 wu Try.prog (Instr.storeAt 23 (.pointer (some x58)) (.agg #[(.int .i64 x53.1.1), (.int .i64 x53.1.2.1)])) w59 fun (w61 : World) =>
 drw w61 fun w62 => flEx fun F63 =>
 rdp Try.prog (Instr.indexAt 33 (.slice x16.1 x16.2.1 x16.2.2) (.int .i64 s19.1)) (.one .addr) fun (x64 : Addr) =>
 rd Try.prog (Instr.loadAt 23 (.pointer (some x64))) (.agg [(.int .i64), (.int .i64)]) w62 fun (x65 : (Int × Int × Unit)) =>
 rdp Try.prog (Instr.indexAt 33 (.slice x16.1 x16.2.1 x16.2.2) (.int .i64 s22.1)) (.one .addr) fun (x66 : Addr) =>
 rd Try.prog (Instr.loadAt 23 (.pointer (some x66))) (.agg [(.int .i64), (.int .i64)]) w62 fun (x67 : (Int × Int × Unit)) =>
 flc bel w62 (fun _w69 => True) (fun (w68 : World) =>
   call Try.prog 18 [(.agg #[(.int .i64 x65.1), (.int .i64 x65.2.1)]), (.agg #[(.int .i64 x67.1), (.int .i64 x67.2.1)])] (.many [(.agg [(.int .i64), (.int .i64)]), (.one (.int .i64))]) w68 fun (x70 : ((Int × Int × Unit) × Int × Unit)) (w71 : World) =>
 (bel w68 w71 ∧ F63 8 [(.agg #[(.int .i64 x65.1), (.int .i64 x65.2.1)]), (.agg #[(.int .i64 x67.1), (.int .i64 x67.2.1)])] (.tuple #[(.agg #[(.int .i64 x70.1.1), (.int .i64 x70.1.2.1)]), (.int .i64 x70.2.1)]) w71))
  fun (x72 : ((Int × Int × Unit) × Int × Unit)) =>
 flc bel w62 (fun _w74 => True) (fun (w73 : World) =>
   wr Try.prog (Instr.alloc 23 true (.tuple #[])) (.one .addr) w73 fun (x75 : Addr) (w76 : World) =>
 (bel w73 w76 ∧ F63 12 [] (.pointer (some x75)) w76))
  fun (x77 : Addr) =>
 flend bel w62 (fun w79 => F63 12 [] (.pointer (some x77)) w79 ∧ F63 8 [(.agg #[(.int .i64 x65.1), (.int .i64 x65.2.1)]), (.agg #[(.int .i64 x67.1), (.int .i64 x67.2.1)])] (.tuple #[(.agg #[(.int .i64 x72.1.1), (.int .i64 x72.1.2.1)]), (.int .i64 x72.2.1)]) w79 ∧ True) fun w78 =>
 wu Try.prog (Instr.storeAt 23 (.pointer (some x77)) (.agg #[(.int .i64 x72.1.1), (.int .i64 x72.1.2.1)])) w78 fun (w80 : World) =>
 drw w80 fun w81 => flEx fun F82 =>
 rdp Try.prog (Instr.indexAt 33 (.slice x16.1 x16.2.1 x16.2.2) (.int .i64 s19.1)) (.one .addr) fun (x83 : Addr) =>
 rd Try.prog (Instr.loadAt 23 (.pointer (some x83))) (.agg [(.int .i64), (.int .i64)]) w81 fun (x84 : (Int × Int × Unit)) =>
 rdp Try.prog (Instr.indexAt 33 (.slice x16.1 x16.2.1 x16.2.2) (.int .i64 s22.1)) (.one .addr) fun (x85 : Addr) =>
 rd Try.prog (Instr.loadAt 23 (.pointer (some x85))) (.agg [(.int .i64), (.int .i64)]) w81 fun (x86 : (Int × Int × Unit)) =>
 flc bel w81 (fun _w88 => True) (fun (w87 : World) =>
   call Try.prog 19 [(.agg #[(.int .i64 x84.1), (.int .i64 x84.2.1)]), (.agg #[(.int .i64 x86.1), (.int .i64 x86.2.1)])] (.many [(.agg [(.int .i64), (.int .i64)]), (.one (.int .i64))]) w87 fun (x89 : ((Int × Int × Unit) × Int × Unit)) (w90 : World) =>
 (bel w87 w90 ∧ F82 8 [(.agg #[(.int .i64 x84.1), (.int .i64 x84.2.1)]), (.agg #[(.int .i64 x86.1), (.int .i64 x86.2.1)])] (.tuple #[(.agg #[(.int .i64 x89.1.1), (.int .i64 x89.1.2.1)]), (.int .i64 x89.2.1)]) w90))
  fun (x91 : ((Int × Int × Unit) × Int × Unit)) =>
 flc bel w81 (fun _w93 => True) (fun (w92 : World) =>
   wr Try.prog (Instr.alloc 23 true (.tuple #[])) (.one .addr) w92 fun (x94 : Addr) (w95 : World) =>
 (bel w92 w95 ∧ F82 12 [] (.pointer (some x94)) w95))
  fun (x96 : Addr) =>
 flend bel w81 (fun w98 => F82 12 [] (.pointer (some x96)) w98 ∧ F82 8 [(.agg #[(.int .i64 x84.1), (.int .i64 x84.2.1)]), (.agg #[(.int .i64 x86.1), (.int .i64 x86.2.1)])] (.tuple #[(.agg #[(.int .i64 x91.1.1), (.int .i64 x91.1.2.1)]), (.int .i64 x91.2.1)]) w98 ∧ True) fun w97 =>
 wu Try.prog (Instr.storeAt 23 (.pointer (some x96)) (.agg #[(.int .i64 x91.1.1), (.int .i64 x91.1.2.1)])) w97 fun (w99 : World) =>
 drw w99 fun w100 => flEx fun F101 =>
 rd Try.prog (Instr.loadAt 23 (.pointer (some x39))) (.agg [(.int .i64), (.int .i64)]) w100 fun (x102 : (Int × Int × Unit)) =>
 rd Try.prog (Instr.loadAt 23 (.pointer (some x58))) (.agg [(.int .i64), (.int .i64)]) w100 fun (x103 : (Int × Int × Unit)) =>
 rd Try.prog (cmpS .neq 23 (.tmp 96) (.tmp 97) (.agg #[(.int .i64 x102.1), (.int .i64 x102.2.1)]) (.agg #[(.int .i64 x103.1), (.int .i64 x103.2.1)])) (.one .bool) w100 fun (x104 : Bool) =>
 br x104 (R (.bool false) w100)
 (br (x34.2.1 != x53.2.1) (R (.bool false) w100)
 (rd Try.prog (Instr.loadAt 23 (.pointer (some x77))) (.agg [(.int .i64), (.int .i64)]) w100 fun (x105 : (Int × Int × Unit)) =>
 rd Try.prog (Instr.loadAt 23 (.pointer (some x96))) (.agg [(.int .i64), (.int .i64)]) w100 fun (x106 : (Int × Int × Unit)) =>
 rd Try.prog (cmpS .neq 23 (.tmp 105) (.tmp 106) (.agg #[(.int .i64 x105.1), (.int .i64 x105.2.1)]) (.agg #[(.int .i64 x106.1), (.int .i64 x106.2.1)])) (.one .bool) w100 fun (x107 : Bool) =>
 br x107 (R (.bool false) w100)
 (br (x72.2.1 != x91.2.1) (R (.bool false) w100)
 (rdp Try.prog (Instr.indexAt 33 (.slice x16.1 x16.2.1 x16.2.2) (.int .i64 s19.1)) (.one .addr) fun (x108 : Addr) =>
 rd Try.prog (Instr.loadAt 23 (.pointer (some x108))) (.agg [(.int .i64), (.int .i64)]) w100 fun (x109 : (Int × Int × Unit)) =>
 rdp Try.prog (Instr.indexAt 33 (.slice x16.1 x16.2.1 x16.2.2) (.int .i64 s22.1)) (.one .addr) fun (x110 : Addr) =>
 rd Try.prog (Instr.loadAt 23 (.pointer (some x110))) (.agg [(.int .i64), (.int .i64)]) w100 fun (x111 : (Int × Int × Unit)) =>
 flc bel w100 (fun _w113 => True) (fun (w112 : World) =>
   call Try.prog 16 [(.agg #[(.int .i64 x109.1), (.int .i64 x109.2.1)]), (.agg #[(.int .i64 x111.1), (.int .i64 x111.2.1)])] (.one (.one (.int .i64))) w112 fun (x114 : Int) (w115 : World) =>
 (bel w112 w115 ∧ F101 27 [(.agg #[(.int .i64 x109.1), (.int .i64 x109.2.1)]), (.agg #[(.int .i64 x111.1), (.int .i64 x111.2.1)])] (.int .i64 x114) w115))
  fun (x116 : Int) =>
 rdp Try.prog (Instr.indexAt 33 (.slice x16.1 x16.2.1 x16.2.2) (.int .i64 s19.1)) (.one .addr) fun (x117 : Addr) =>
 rd Try.prog (Instr.loadAt 23 (.pointer (some x117))) (.agg [(.int .i64), (.int .i64)]) w100 fun (x118 : (Int × Int × Unit)) =>
 rdp Try.prog (Instr.indexAt 33 (.slice x16.1 x16.2.1 x16.2.2) (.int .i64 s22.1)) (.one .addr) fun (x119 : Addr) =>
 rd Try.prog (Instr.loadAt 23 (.pointer (some x119))) (.agg [(.int .i64), (.int .i64)]) w100 fun (x120 : (Int × Int × Unit)) =>
 flend bel w100 (fun w122 => F101 27 [(.agg #[(.int .i64 x109.1), (.int .i64 x109.2.1)]), (.agg #[(.int .i64 x111.1), (.int .i64 x111.2.1)])] (.int .i64 x116) w122 ∧ True) fun w121 =>
 call Try.prog 27 [(.agg #[(.int .i64 x118.1), (.int .i64 x118.2.1)]), (.agg #[(.int .i64 x120.1), (.int .i64 x120.2.1)])] (.one (.one (.int .i64))) w121 fun (x123 : Int) (w124 : World) =>
 br (x116 != x123) (R (.bool false) w124)
 (z (IntKind.wrap .i64 (s22.1 + 1)) fun (z125 : Int) =>
 again21 (z125, ()) w124))))))
 (z (IntKind.wrap .i64 (s19.1 + 1)) fun (z126 : Int) =>
 again18 (z126, ()) w23))
 (R (.bool true) w20)
def H5 : Hints := ⟨[(2, 0, [(8, (.one (.int .i64)))]), (2, 2, [(9, (.one (.int .i64)))])], [(10, 13), (11, 13), (12, 13), (13, 13), (14, 36)], [], []⟩
set_option maxRecDepth 100000 in
theorem S5_eq (n_ : Int) (m_ : Int) (w0 : World) (R : Value → World → Prop) : vcFn Try.prog H5 Try.f5 [(.int .u32 n_), (.int .u32 m_)] w0 R = S5 n_ m_ w0 R := by kernel_rfl
set_option maxRecDepth 100000 in
theorem S5_calls (n_ : Int) (m_ : Int) (w0 : World) (R : Value → World → Prop) (h : S5 n_ m_ w0 R) : Calls Try.prog 5 #[(.int .u32 n_), (.int .u32 m_)] w0 (ret R) := by
  rw [← S5_eq] at h; exact vcFn_sound follows_ Try.func5 h

end Go.Proofs

/- The walk of FractionExact. -/


namespace Go.Proofs.Ytajpdnphamomjaa
open Go.RowKit Go.Q Go.Q.Num Go.V

theorem rd_ne_same {n d : Int} {x y : Operand} {w : World} {K : Bool → Prop} (hk : K false) : rd Try.prog (cmpS .neq 23 x y (.agg #[.int .i64 n, .int .i64 d]) (.agg #[.int .i64 n, .int .i64 d])) (.one .bool) w K := by
  refine ⟨false, fun w' _ => ?_, hk⟩
  have := run_neStruct (P := Try.prog) (t := 23) (k := .i64) (a := x) (b := y) (xs := [n, d]) (ys := [n, d]) (w := w') (by kernel_rfl) (by kernel_rfl) (by kernel_rfl) (by kernel_rfl) (by kernel_rfl) (by kernel_rfl)
  simp [eqInts] at this
  exact this
theorem rd_eq_same {n d : Int} {x y : Operand} {w : World} {K : Bool → Prop} (hk : K true) : rd Try.prog (cmpS .eql 23 x y (.agg #[.int .i64 n, .int .i64 d]) (.agg #[.int .i64 n, .int .i64 d])) (.one .bool) w K := by
  refine ⟨true, fun w' _ => ?_, hk⟩
  have := run_eqStruct (P := Try.prog) (t := 23) (k := .i64) (a := x) (b := y) (xs := [n, d]) (ys := [n, d]) (w := w') (by kernel_rfl) (by kernel_rfl) (by kernel_rfl) (by kernel_rfl) (by kernel_rfl) (by kernel_rfl)
  simp [eqInts] at this
  exact this
theorem br_no {a : Int} {A B : Prop} (h : B) : br (a != a) A B := br_ne (fun q => absurd rfl q) (fun _ => h)

set_option maxHeartbeats 1600000 in
theorem exact' (n d n' d' : Int) (w : World) (a : I64 n ∧ I64 d) (b : I64 n' ∧ I64 d') :
    Calls Try.prog 4 #[fracv n d, fracv n' d'] w (fun e w' => e = .returned (.bool true) ∧ Below w.heap.size w w') := by
  refine Calls.mono (S4_calls n d n' d' w (fun v w' => v = .bool true ∧ bel w w') ?_) (by rintro e w' ⟨v, rfl, rfl, hb⟩; exact ⟨rfl, hb⟩)
  unfold S4
  refine wr_box fun x1 w1 X1 h _ _ => ?_
  refine wr_box fun x3 w2 X3 h' _ _ => ?_
  replace h := h.trans h'; replace X1 := X1.up h'; clear h'
  refine rd_boxN X1 (by kernel_rfl) rfl ?_
  refine rd_boxN X3 (by kernel_rfl) rfl ?_
  refine call_mono (opA n d n' d' _ a b) ?_
  rintro (s : FE) w3 ⟨hs, h'⟩
  replace h := h.trans h'; replace X1 := X1.up h'; replace X3 := X3.up h'; clear h'
  refine wr_alloc (z := fracv 0 0) (by kernel_rfl) fun x9 w4 Y h' hy _ => ?_
  have hne : w.heap.size ≤ x9.block := by rw [hy]; exact h.size
  have l1 := X1.lt
  have l3 := X3.lt
  have n1 : some x1.block ≠ some x9.block := by intro e; injection e; omega
  have n3 : some x3.block ≠ some x9.block := by intro e; injection e; omega
  replace h := h.trans h'; replace X1 := X1.up h'; replace X3 := X3.up h'; clear h'
  refine wu_box Y (by kernel_rfl) (Nat.le_refl 2) rfl fun w5 Y h' _ => ?_
  replace h := h.grownAt h' hne
  replace X1 := X1.grown h' n1
  replace X3 := X3.grown h' n3
  clear h'
  refine rd_boxN X1 (by kernel_rfl) rfl ?_
  refine rd_boxN X3 (by kernel_rfl) rfl ?_
  refine call_mono (add10 n d n' d' _ a b) ?_
  rintro (t : FE) w6 ⟨ht, h'⟩
  have e : t = s := by rw [ht, hs]
  subst e
  replace h := h.trans h'; replace X1 := X1.up h'; replace X3 := X3.up h'; replace Y := Y.up h'; clear h'
  refine wr_alloc (z := fracv 0 0) (by kernel_rfl) fun x16 w7 Z h' hz _ => ?_
  have hne2 : w.heap.size ≤ x16.block := by rw [hz]; exact h.size
  have l1' := X1.lt
  have l3' := X3.lt
  have l9' := Y.lt
  have m1 : some x1.block ≠ some x16.block := by intro e; injection e; omega
  have m3 : some x3.block ≠ some x16.block := by intro e; injection e; omega
  have m9 : some x9.block ≠ some x16.block := by intro e; injection e; omega
  have m16 : some x16.block ≠ some x9.block := fun e => m9 e.symm
  replace h := h.trans h'; replace X1 := X1.up h'; replace X3 := X3.up h'; replace Y := Y.up h'; clear h'
  refine wu_box Z (by kernel_rfl) (Nat.le_refl 2) rfl fun w8 Z h' _ => ?_
  replace h := h.grownAt h' hne2
  replace X1 := X1.grown h' m1
  replace X3 := X3.grown h' m3
  replace Y := Y.grown h' m9
  clear h'
  refine drw_mk fun w9 h' _ => ?_
  replace h := h.trans h'; replace X1 := X1.up h'; replace X3 := X3.up h'; replace Y := Y.up h'; replace Z := Z.up h'; clear h'
  refine flEx_mk (fun _ _ v _ => v = .bool (decide (IsFrac n d))) (fun _ _ _ _ _ h _ => h) ?_
  refine rd_boxN Y (by kernel_rfl) rfl ?_
  refine rd_boxN Z (by kernel_rfl) rfl ?_
  refine rd_ne_same (br_f rfl (br_no ?_))
  refine rd_boxN X1 (by kernel_rfl) rfl ?_
  refine flc_mk (fun w' _ _ => call_mono (callB (valid10f n d w' a.1 a.2)) fun x w'' ⟨q, hb⟩ => ⟨hb, by rw [q]⟩) (fun x29 => ?_)
  refine rd_boxN X1 (by kernel_rfl) rfl ?_
  refine flend_mk fun w10 h' hp => ?_
  have hx : x29 = decide (IsFrac n d) := by have := hp.1; injection this
  replace h := h.trans h'; replace X1 := X1.up h'; replace X3 := X3.up h'; replace Y := Y.up h'; replace Z := Z.up h'; clear h'
  refine call_mono (callB (valid10 n d w10 a.1.1 a.1.2 a.2.1 a.2.2)) ?_
  rintro x w11 ⟨hx', h'⟩
  replace h := h.trans h'; replace X1 := X1.up h'; replace X3 := X3.up h'; replace Y := Y.up h'; replace Z := Z.up h'; clear h'
  refine br_f (by rw [hx, hx']; simp) ?_
  refine rd_boxN X1 (by kernel_rfl) rfl ?_
  refine rd_boxN X3 (by kernel_rfl) rfl ?_
  refine call_mono (opS n d n' d' _ a b) ?_
  rintro (s : FE) w12 ⟨hs, h'⟩
  replace h := h.trans h'; replace X1 := X1.up h'; replace X3 := X3.up h'; replace Y := Y.up h'; replace Z := Z.up h'; clear h'
  refine wu_box Y (by kernel_rfl) (Nat.le_refl 2) rfl fun w13 Y h' _ => ?_
  replace h := h.grownAt h' hne
  replace X1 := X1.grown h' n1
  replace X3 := X3.grown h' n3
  replace Z := Z.grown h' m16
  clear h'
  refine rd_boxN X1 (by kernel_rfl) rfl ?_
  refine rd_boxN X3 (by kernel_rfl) rfl ?_
  refine call_mono (sub10 n d n' d' _ a b) ?_
  rintro (t : FE) w14 ⟨ht, h'⟩
  have e : t = s := by rw [ht, hs]
  subst e
  replace h := h.trans h'; replace X1 := X1.up h'; replace X3 := X3.up h'; replace Y := Y.up h'; replace Z := Z.up h'; clear h'
  refine wu_box Z (by kernel_rfl) (Nat.le_refl 2) rfl fun w15 Z h' _ => ?_
  replace h := h.grownAt h' hne2
  replace X1 := X1.grown h' m1
  replace X3 := X3.grown h' m3
  replace Y := Y.grown h' m9
  clear h'
  refine rd_boxN Y (by kernel_rfl) rfl ?_
  refine rd_boxN Z (by kernel_rfl) rfl ?_
  refine rd_ne_same (br_f rfl (br_no ?_))
  refine rd_boxN X1 (by kernel_rfl) rfl ?_
  refine rd_boxN X3 (by kernel_rfl) rfl ?_
  refine call_mono (opM n d n' d' _ a b) ?_
  rintro (s : FE) w16 ⟨hs, h'⟩
  replace h := h.trans h'; replace X1 := X1.up h'; replace X3 := X3.up h'; replace Y := Y.up h'; replace Z := Z.up h'; clear h'
  refine wu_box Y (by kernel_rfl) (Nat.le_refl 2) rfl fun w17 Y h' _ => ?_
  replace h := h.grownAt h' hne
  replace X1 := X1.grown h' n1
  replace X3 := X3.grown h' n3
  replace Z := Z.grown h' m16
  clear h'
  refine rd_boxN X1 (by kernel_rfl) rfl ?_
  refine rd_boxN X3 (by kernel_rfl) rfl ?_
  refine call_mono (mul10f n d n' d' _ a b) ?_
  rintro (t : FE) w18 ⟨ht, h'⟩
  have e : t = s := by rw [ht, hs]
  subst e
  replace h := h.trans h'; replace X1 := X1.up h'; replace X3 := X3.up h'; replace Y := Y.up h'; replace Z := Z.up h'; clear h'
  refine wu_box Z (by kernel_rfl) (Nat.le_refl 2) rfl fun w19 Z h' _ => ?_
  replace h := h.grownAt h' hne2
  replace X1 := X1.grown h' m1
  replace X3 := X3.grown h' m3
  replace Y := Y.grown h' m9
  clear h'
  refine rd_boxN Y (by kernel_rfl) rfl ?_
  refine rd_boxN Z (by kernel_rfl) rfl ?_
  refine rd_ne_same (br_f rfl (br_no ?_))
  refine rd_boxN X1 (by kernel_rfl) rfl ?_
  refine rd_boxN X3 (by kernel_rfl) rfl ?_
  refine call_mono (opD n d n' d' _ a b) ?_
  rintro (s : FE) w20 ⟨hs, h'⟩
  replace h := h.trans h'; replace X1 := X1.up h'; replace X3 := X3.up h'; replace Y := Y.up h'; replace Z := Z.up h'; clear h'
  refine wu_box Y (by kernel_rfl) (Nat.le_refl 2) rfl fun w21 Y h' _ => ?_
  replace h := h.grownAt h' hne
  replace X1 := X1.grown h' n1
  replace X3 := X3.grown h' n3
  replace Z := Z.grown h' m16
  clear h'
  refine rd_boxN X1 (by kernel_rfl) rfl ?_
  refine rd_boxN X3 (by kernel_rfl) rfl ?_
  refine call_mono (div10f n d n' d' _ a b) ?_
  rintro (t : FE) w22 ⟨ht, h'⟩
  have e : t = s := by rw [ht, hs]
  subst e
  replace h := h.trans h'; replace X1 := X1.up h'; replace X3 := X3.up h'; replace Y := Y.up h'; replace Z := Z.up h'; clear h'
  refine wu_box Z (by kernel_rfl) (Nat.le_refl 2) rfl fun w23 Z h' _ => ?_
  replace h := h.grownAt h' hne2
  replace X1 := X1.grown h' m1
  replace X3 := X3.grown h' m3
  replace Y := Y.grown h' m9
  clear h'
  refine rd_boxN Y (by kernel_rfl) rfl ?_
  refine rd_boxN Z (by kernel_rfl) rfl ?_
  refine rd_eq_same (br_t rfl ?_)
  exact ⟨by simp, h⟩
end Go.Proofs.Ytajpdnphamomjaa

/- The walk of FractionLimits. -/

namespace Go.Proofs.Ytajpdnphamomjaa
open Go.RowKit Go.Q Go.Q.Num Go.V

theorem tyFracs : TyS Try.prog 33 23 (fracv 0 0) 2 16 := ⟨by kernel_rfl, by kernel_rfl⟩
theorem agFrac : aggOf Try.prog 23 2 = true := by kernel_rfl
abbrev encF (p : Int × Int) : List Value := [.int .i64 p.1, .int .i64 p.2]
theorem encF_len (p : Int × Int) : (encF p).length = 2 := rfl
theorem rsign_norm (r : Rat) (n d : Int) (h0 : d ≠ 0) (hr : r = Rat.divInt n d) (hd : 0 < d) : rsign r = cmpi n 0 := by
  obtain ⟨hq, h1⟩ := of_norm (n := n) h0
  obtain ⟨m1, m2, m3⟩ := low_num (decide (n < 0) != decide (d < 0)) n.natAbs d.natAbs hq
  rw [h1, ← hr] at m1 m3
  have hdd : decide (d < 0) = false := decide_eq_false (by omega)
  rw [hdd] at m3
  have hg : 0 < Nat.gcd n.natAbs d.natAbs := Nat.gcd_pos_of_pos_right _ (by omega)
  unfold rsign cmpi
  rcases Int.lt_trichotomy n 0 with q | q | q
  · have : decide (r.num < 0) = true := by
      rw [m3, decide_eq_true q, decide_eq_true (show n.natAbs ≠ 0 by omega)]; rfl
    rw [if_pos (of_decide_eq_true this), if_pos q]
  · subst q
    have e : r.num = 0 := by
      have : (0 : Int).natAbs = 0 := rfl
      rw [this, Nat.zero_div] at m1; omega
    have e' : r = 0 := Rat.num_eq_zero.1 e
    rw [e']; rfl
  · have : decide (r.num < 0) = false := by
      rw [m3, decide_eq_false (show ¬ n < 0 by omega)]; rfl
    have hn := of_decide_eq_false this
    have : 0 < n.natAbs / Nat.gcd n.natAbs d.natAbs := Nat.div_pos (Nat.gcd_le_left _ (by omega)) hg
    have e' : r ≠ 0 := by
      rintro rfl
      have : (0 : Rat).num.natAbs = 0 := rfl
      omega
    rw [if_neg hn, if_neg (fun h => e' (Rat.num_eq_zero.1 h)), if_neg (show ¬ n < 0 by omega), if_pos q]
theorem cmp_same (n d n' d' : Int) : (if IsFrac n d ∧ IsFrac n' d' then rsign (ratv n d + -ratv n' d') else 0) = compv n d n' d' := by
  unfold compv
  by_cases h : IsFrac n d ∧ IsFrac n' d'
  · rw [if_pos h, if_pos h]
    obtain ⟨h1, h2⟩ := h
    have hdd : 0 < d * d' := Int.mul_pos (by have := h1.1; omega) (by have := h2.1; omega)
    have e : ratv n d + -ratv n' d' = Rat.divInt (n * d' + -n' * d) (d * d') := by
      rw [← ratv_neg h2, ratv_div h1, ratv_div (frac_neg h2), add_div h1 (frac_neg h2)]
    rw [rsign_norm _ _ _ (by omega) e hdd, Int.neg_mul]
    unfold cmpi
    split <;> split <;> (try split) <;> (try split) <;> omega
  · rw [if_neg h, if_neg h]
theorem compF' (n d n' d' : Int) (w : World) (a : I64 n ∧ I64 d) (b : I64 n' ∧ I64 d') : call Try.prog 16 [fracv n d, fracv n' d'] (.one (.one (.int .i64))) w (fun x w' => x = compv n d n' d' ∧ bel w w') :=
  callI (compF n d n' d' w a.1.1 a.1.2 a.2.1 a.2.2 b.1.1 b.1.2 b.2.1 b.2.2)
theorem cmp10' (n d n' d' : Int) (w : World) (a : I64 n ∧ I64 d) (b : I64 n' ∧ I64 d') : call Try.prog 27 [fracv n d, fracv n' d'] (.one (.one (.int .i64))) w (fun x w' => x = compv n d n' d' ∧ bel w w') :=
  call_mono (cmp10 n d n' d' w a b) fun x w' ⟨h, hb⟩ => ⟨by rw [h]; exact cmp_same n d n' d', hb⟩
theorem fe_inj {x : (Int × Int × Unit) × Int × Unit} {y : FE} (h : Value.tuple #[.agg #[.int .i64 x.1.1, .int .i64 x.1.2.1], .int .i64 x.2.1] = rFE.val y) : x = y := by
  obtain ⟨⟨a, b, _⟩, c, _⟩ := x
  obtain ⟨⟨a', b', _⟩, c', _⟩ := y
  have h : Value.tuple #[.agg #[.int .i64 a, .int .i64 b], .int .i64 c] = Value.tuple #[.agg #[.int .i64 a', .int .i64 b'], .int .i64 c'] := h
  simp at h
  obtain ⟨⟨rfl, rfl⟩, rfl⟩ := h
  rfl

/-- 'a, e := op(l[i], l[k])' -/
theorem pairOp {f : FuncId} {T : FE} {sa : Option Addr} {sn sc i k : Nat} {I K : Int} {L : List (Int × Int)} {p q : Int × Int} {w : World} {k' : FE → Addr → World → Prop} (hf : ∀ w', call Try.prog f [fracv p.1 p.2, fracv q.1 q.2] rFE w' (fun x w'' => x = T ∧ bel w' w''))
    (H : Sl w sa sn sc 2 (L.flatMap encF)) (hI : I = (i : Int)) (hK : K = (k : Int)) (hi : L[i]? = some p) (hk : L[k]? = some q)
    (hg : ∀ ad w', bel w w' → Box w' ad [.int .i64 T.1.1, .int .i64 T.1.2.1] → k' T ad w') :
    drw w fun w24 => flEx fun F25 =>
      rdp Try.prog (Instr.indexAt 33 (.slice sa sn sc) (.int .i64 I)) (.one .addr) fun (x26 : Addr) =>
      rd Try.prog (Instr.loadAt 23 (.pointer (some x26))) (.agg [(.int .i64), (.int .i64)]) w24 fun (x27 : (Int × Int × Unit)) =>
      rdp Try.prog (Instr.indexAt 33 (.slice sa sn sc) (.int .i64 K)) (.one .addr) fun (x28 : Addr) =>
      rd Try.prog (Instr.loadAt 23 (.pointer (some x28))) (.agg [(.int .i64), (.int .i64)]) w24 fun (x29 : (Int × Int × Unit)) =>
      flc bel w24 (fun _w31 => True) (fun (w30 : World) =>
        call Try.prog f [(.agg #[(.int .i64 x27.1), (.int .i64 x27.2.1)]), (.agg #[(.int .i64 x29.1), (.int .i64 x29.2.1)])] (.many [(.agg [(.int .i64), (.int .i64)]), (.one (.int .i64))]) w30 fun (x32 : ((Int × Int × Unit) × Int × Unit)) (w33 : World) =>
        (bel w30 w33 ∧ F25 8 [(.agg #[(.int .i64 x27.1), (.int .i64 x27.2.1)]), (.agg #[(.int .i64 x29.1), (.int .i64 x29.2.1)])] (.tuple #[(.agg #[(.int .i64 x32.1.1), (.int .i64 x32.1.2.1)]), (.int .i64 x32.2.1)]) w33))
      fun (x34 : ((Int × Int × Unit) × Int × Unit)) =>
      flc bel w24 (fun _w36 => True) (fun (w35 : World) =>
        wr Try.prog (Instr.alloc 23 true (.tuple #[])) (.one .addr) w35 fun (x37 : Addr) (w38 : World) =>
        (bel w35 w38 ∧ F25 12 [] (.pointer (some x37)) w38))
      fun (x39 : Addr) =>
      flend bel w24 (fun w41 => F25 12 [] (.pointer (some x39)) w41 ∧ F25 8 [(.agg #[(.int .i64 x27.1), (.int .i64 x27.2.1)]), (.agg #[(.int .i64 x29.1), (.int .i64 x29.2.1)])] (.tuple #[(.agg #[(.int .i64 x34.1.1), (.int .i64 x34.1.2.1)]), (.int .i64 x34.2.1)]) w41 ∧ True) fun w40 =>
      wu Try.prog (Instr.storeAt 23 (.pointer (some x39)) (.agg #[(.int .i64 x34.1.1), (.int .i64 x34.1.2.1)])) w40 fun (w42 : World) => k' x34 x39 w42 := by
  refine drw_mk fun w1 h _ => ?_
  have H1 := H.kept h
  refine flEx_mk (fun i _ v w' => match i with
    | 8 => v = rFE.val T
    | 12 => ∃ ad, v = .pointer (some ad) ∧ Box w' ad [.int .i64 0, .int .i64 0] ∧ w.heap.size ≤ ad.block
    | _ => True) (fun i _ _ _ _ h hb => by
      revert h
      split <;> intro h <;> first | exact h | (obtain ⟨ad, k1, k2, k3⟩ := h; exact ⟨ad, k1, k2.up hb, k3⟩)) ?_
  refine at_agg tyFracs agFrac encF_len (by omega) H1 hI hi rfl ?_
  refine at_agg tyFracs agFrac encF_len (by omega) H1 hK hk rfl ?_
  refine flc_mk (fun w' _ _ => call_mono (hf w') fun x w'' ⟨q, hb⟩ => ⟨hb, by rw [q]; rfl⟩) (fun x34 => ?_)
  refine flc_mk (fun w' hb _ => wr_alloc (z := fracv 0 0) (by kernel_rfl) fun ad w'' Z hb' hz _ => ⟨hb', ad, rfl, Z, by rw [hz]; exact (h.trans hb).size⟩) (fun x39 => ?_)
  refine flend_mk fun w2 h' hp => ?_
  obtain ⟨⟨ad, k1, Z, k3⟩, k4, _⟩ := hp
  injection k1 with k1; injection k1 with k1; subst k1
  have e := fe_inj k4
  subst e
  refine wu_box Z (by kernel_rfl) (Nat.le_refl 2) rfl fun w3 Z hg3 _ => ?_
  exact hg _ _ ((h.trans h').grownAt hg3 k3) Z

theorem i64f {n : Int} (h1 : -100000000000000000 ≤ n) (h2 : n ≤ 100000000000000000) : I64 n := ⟨by omega, by omega⟩
set_option maxHeartbeats 1600000 in
theorem limits (n m : Int) (w : World) (hn : 0 ≤ n ∧ n ≤ 4294967295) (hm : 0 ≤ m ∧ m ≤ 4294967295) :
    Calls Try.prog 5 #[.int .u32 n, .int .u32 m] w (fun e w' => e = .returned (.bool true) ∧ Below w.heap.size w w') := by
  refine Calls.mono (S5_calls n m w (fun v w' => v = .bool true ∧ bel w w') ?_) (by rintro e w' ⟨v, rfl, rfl, hb⟩; exact ⟨rfl, hb⟩)
  unfold S5
  refine z_i64 (by omega) (z_i64 (by omega) ?_)
  obtain ⟨b, hb⟩ : ∃ b, b = 100000000000000000 - n := ⟨_, rfl⟩
  obtain ⟨s, hs⟩ : ∃ s, s = 100000000000000000 - m := ⟨_, rfl⟩
  rw [← hb]
  refine wr_alloc (z := fracv 0 0) (by kernel_rfl) fun x3 w1 X h hx3 _ => ?_
  refine wu_box X (by kernel_rfl) (Nat.le_refl 2) rfl fun w2 X h' _ => ?_
  replace h := h.grownAt h' (by omega)
  clear h'
  refine z_i64 (by omega) (z_i64 (by omega) ?_)
  rw [← hs]
  refine wr_alloc (z := fracv 0 0) (by kernel_rfl) fun x8 w3 Y h' hx8 _ => ?_
  have hne : w.heap.size ≤ x8.block := by rw [hx8]; exact h.size
  have l3 := X.lt
  replace h := h.trans h'; replace X := X.up h'; clear h'
  refine wu_box Y (by kernel_rfl) (Nat.le_refl 2) rfl fun w4 Y h' _ => ?_
  replace h := h.grownAt h' hne
  replace X := X.grown h' (by intro e; injection e; omega)
  clear h'
  refine rd_boxN X (by kernel_rfl) rfl ?_
  refine rd_boxN Y (by kernel_rfl) rfl ?_
  refine rd_box0 (by kernel_rfl) X rfl rfl ?_
  refine z_i64 (by omega) ?_
  refine rd_box0 (by kernel_rfl) X rfl rfl ?_
  obtain ⟨L, hL⟩ : ∃ L : List (Int × Int), L = [(b, 1), (1, s), (0 - b, 1), (1, b)] := ⟨_, rfl⟩
  refine wr_lit tyFracs (L.flatMap encF).toArray (by rw [hL]; kernel_rfl) (by omega) (by omega) (by rw [hL]; rfl) (by unfold maxLen; omega) fun ad w5 O h' had _ => ?_
  have H : Sl w5 (some ad) 4 4 2 (L.flatMap encF) := (O _ (Nat.le_refl _)).sl
  replace h := h.trans h'; clear h'
  have hlen : L.length = 4 := by rw [hL]; rfl
  have hb64 : ∀ (j : Nat) (p : Int × Int), L[j]? = some p → I64 p.1 ∧ I64 p.2 := by
    intro j p hp
    have hj := (List.getElem?_eq_some_iff.1 hp).1
    rw [hL] at hp
    match j, hp with
    | 0, hp => simp at hp; subst hp; exact ⟨⟨by dsimp only; omega, by dsimp only; omega⟩, ⟨by dsimp only; omega, by dsimp only; omega⟩⟩
    | 1, hp => simp at hp; subst hp; exact ⟨⟨by dsimp only; omega, by dsimp only; omega⟩, ⟨by dsimp only; omega, by dsimp only; omega⟩⟩
    | 2, hp => simp at hp; subst hp; exact ⟨⟨by dsimp only; omega, by dsimp only; omega⟩, ⟨by dsimp only; omega, by dsimp only; omega⟩⟩
    | 3, hp => simp at hp; subst hp; exact ⟨⟨by dsimp only; omega, by dsimp only; omega⟩, ⟨by dsimp only; omega, by dsimp only; omega⟩⟩
    | j + 4, hp => simp at hp
  clear hL O
  refine loop_gh (G := Nat) (fun i s w' => s.1 = (i : Int) ∧ i ≤ 4 ∧ bel w w' ∧ Sl w' (some ad) 4 4 2 (L.flatMap encF)) (fun i => 4 - i) 0 ⟨rfl, by omega, h, H⟩ ?_
  rintro i ⟨s1, _⟩ w6 ⟨hi, hi4, h, H⟩ again hag _
  have hi' : s1 = (i : Int) := hi
  subst hi'
  refine br_dec (fun e1 => ?_) (fun e1 => ⟨rfl, h⟩)
  dsimp only at e1
  obtain ⟨p, hp⟩ : ∃ p, L[i]? = some p := ⟨_, List.getElem?_eq_getElem (by omega)⟩
  have ap := hb64 i p hp
  refine loop_gh (G := Nat) (fun k s w' => s.1 = (k : Int) ∧ k ≤ 4 ∧ bel w w' ∧ Sl w' (some ad) 4 4 2 (L.flatMap encF)) (fun k => 4 - k) 0 ⟨rfl, by omega, h, H⟩ ?_
  rintro k ⟨s2, _⟩ w7 ⟨hk, hk4, h, H⟩ again2 hag2 _
  have hk' : s2 = (k : Int) := hk
  subst hk'
  refine br_dec (fun e2 => ?_) (fun e2 => ?_)
  · dsimp only at e2
    obtain ⟨q, hq⟩ : ∃ q, L[k]? = some q := ⟨_, List.getElem?_eq_getElem (by omega)⟩
    have aq := hb64 k q hq
    refine pairOp (fun w' => opM p.1 p.2 q.1 q.2 w' ap aq) H rfl rfl hp hq fun x39 w8 h' A => ?_
    replace H := H.kept h'
    replace h := h.trans h'; clear h'
    refine pairOp (fun w' => mul10f p.1 p.2 q.1 q.2 w' ap aq) H rfl rfl hp hq fun x58 w9 h' A' => ?_
    replace H := H.kept h'
    replace h := h.trans h'; replace A := A.up h'; clear h'
    refine pairOp (fun w' => opA p.1 p.2 q.1 q.2 w' ap aq) H rfl rfl hp hq fun x77 w10 h' C => ?_
    replace H := H.kept h'
    replace h := h.trans h'; replace A := A.up h'; replace A' := A'.up h'; clear h'
    refine pairOp (fun w' => add10 p.1 p.2 q.1 q.2 w' ap aq) H rfl rfl hp hq fun x96 w11 h' C' => ?_
    replace H := H.kept h'
    replace h := h.trans h'; replace A := A.up h'; replace A' := A'.up h'; replace C := C.up h'; clear h'
    refine drw_mk fun w12 h' _ => ?_
    replace H := H.kept h'
    replace h := h.trans h'; replace A := A.up h'; replace A' := A'.up h'; replace C := C.up h'; replace C' := C'.up h'; clear h'
    refine flEx_mk (fun _ _ v _ => v = .int .i64 (compv p.1 p.2 q.1 q.2)) (fun _ _ _ _ _ h _ => h) ?_
    refine rd_boxN A (by kernel_rfl) rfl ?_
    refine rd_boxN A' (by kernel_rfl) rfl ?_
    refine rd_ne_same (br_f rfl (br_no ?_))
    refine rd_boxN C (by kernel_rfl) rfl ?_
    refine rd_boxN C' (by kernel_rfl) rfl ?_
    refine rd_ne_same (br_f rfl (br_no ?_))
    refine at_agg tyFracs agFrac encF_len (by omega) H rfl hp rfl ?_
    refine at_agg tyFracs agFrac encF_len (by omega) H rfl hq rfl ?_
    refine flc_mk (fun w' _ _ => call_mono (compF' p.1 p.2 q.1 q.2 w' ap aq) fun x w'' ⟨e, hb⟩ => ⟨hb, by rw [e]⟩) (fun x116 => ?_)
    refine at_agg tyFracs agFrac encF_len (by omega) H rfl hp rfl ?_
    refine at_agg tyFracs agFrac encF_len (by omega) H rfl hq rfl ?_
    refine flend_mk fun w13 h' hpp => ?_
    have e3 : x116 = compv p.1 p.2 q.1 q.2 := by have := hpp.1; injection this
    replace H := H.kept h'
    replace h := h.trans h'; clear h'
    refine call_mono (cmp10' p.1 p.2 q.1 q.2 w13 ap aq) ?_
    rintro x w14 ⟨e4, h'⟩
    replace H := H.kept h'
    replace h := h.trans h'; clear h'
    refine br_f (by rw [e3, e4]; simp) ?_
    refine z_i64 (by dsimp only; omega) ?_
    exact hag2 (k + 1) _ _ ⟨by dsimp only; omega, by omega, h, H⟩ (by omega)
  · refine z_i64 (by dsimp only; omega) ?_
    exact hag (i + 1) _ _ ⟨by dsimp only; omega, by omega, h, H⟩ (by omega)
end Go.Proofs.Ytajpdnphamomjaa

/- The calculus, eleventh part: arrays, cells inside a block. -/

namespace Go.V
open Go Go.RowKit Go.Q

/-- an array type: its elements' type, how many, their cells -/
structure TyA (P : Program) (t e : TypeId) (n sz : Nat) : Prop where
  ht : P.underlying t = some (.array n e)
  hs : sizeIs P e sz = true
theorem idx_arr {P : Program} {t e : TypeId} {n sz : Nat} (T : TyA P t e n sz) {ad : Addr} {j : Nat} {k : IntKind} {i : Int} {K : Addr → Prop} (hj : i = (j : Int)) (h : j < n) (hk : K (ad.add (j * sz))) :
    rdp P (Instr.indexAt t (.pointer (some ad)) (.int k i)) (.one .addr) K := by
  subst hj
  refine ⟨ad.add (j * sz), fun w => ?_, hk⟩
  unfold Instr.indexAt asIntOf Instr.sureAddr
  simp only [Sem.run_bind, Sem.run_pure, Result.andThen_ok, run_underlying T.ht]
  rw [if_pos ⟨by omega, by omega⟩]
  simp only [Sem.run_bind, run_sizeOf T.hs, Result.andThen_ok, Int.toNat_natCast]
  rfl
theorem storeCells_add {P : Program} {a : Addr} (m : Nat) : ∀ (vs : List Value) (i : Nat) (w : World), (storeCells (a.add m) vs i).run P w = (storeCells a vs (m + i)).run P w
  | [], _, _ => rfl
  | v :: vs, i, w => by
    simp only [storeCells, Sem.run_bind, add_add]
    congr 1
    funext u w'
    exact storeCells_add m vs (i + 1) w'
/-- several cells inside a block are written -/
theorem wu_boxm {P : Program} {w : World} {t : TypeId} {a : Addr} {m : Nat} {v : Value} {cs : List Value} {k : World → Prop} (hb : Box w a cs) (ht : sizeIs P t v.cells.size = true) (hl : m + v.cells.size ≤ cs.length) (hp : plainV v.cells.toList = true)
    (hk : ∀ w', Box w' a (putAt cs m v.cells.toList) → w.grownBy w' (some a.block) → w'.heap.size = w.heap.size → k w') : wu P (Instr.storeAt t (.pointer (some (a.add m))) v) w k := by
  obtain ⟨w', h1, h2, h3, h4⟩ := run_storeCells (P := P) v.cells.toList m w cs hb (by simpa using hl) hp
  refine ⟨w', ?_, hk w' h2 h3 h4⟩
  unfold Instr.storeAt Instr.sureAddr storeVar
  simp only [Sem.run_bind, Sem.run_pure, Result.andThen_ok, run_sizeOf ht]
  simp only [ne_eq, not_true_eq_false, if_false]
  rw [storeCells_add]; exact h1
/-- several cells inside a block are read -/
theorem rd_boxm {P : Program} {t : TypeId} {l : List Sh} {w : World} {a : Addr} {m : Nat} {cs vs : List Value} {x : LT l} {k : LT l → Prop} (h : Box w a cs) (ht : aggOf P t vs.length = true) (hv : ∀ j v, vs[j]? = some v → cs[m + j]? = some v) (hx : Lget l vs = some x) (hk : k x) :
    rd P (Instr.loadAt t (.pointer (some (a.add m)))) (.agg l) w k := rd_cells ht (fun j v hj => by rw [add_add]; exact h.cell (hv j v hj)) hx hk
end Go.V

/- The conditions of functions, printed by our tool; each is checked against the code by the kernel. -/



namespace Go.Proofs
open Go Go.V Go.RowKit
/-- querylab/querylablaw10.FractionField -/
def S6 (l_0 : Int) (l_1 : Int) (l_2 : Int) (l_3 : Int) (l_4 : Int) (l_5 : Int) (w0 : World) (R : Value → World → Prop) : Prop :=
 wr Try.prog (Instr.box 36 (.agg #[(.int .i16 l_0), (.int .i16 l_1), (.int .i16 l_2), (.int .i16 l_3), (.int .i16 l_4), (.int .i16 l_5)])) (.one .addr) w0 fun (x1 : Addr) (w2 : World) =>
 wr Try.prog (Instr.alloc 37 true (.tuple #[])) (.one .addr) w2 fun (x3 : Addr) (w4 : World) =>
 loop (T := (Int × Unit)) (0, ()) w4 fun (again5 : (Int × Unit) → World → Prop) (s6 : (Int × Unit)) w7 => ∀ _ : Nat → Value,
 br (decide (s6.1 < 3)) (join (T := (Unit)) (fun (_s9 : (Unit)) w10 => ∀ _ : Nat → Value,
 z (IntKind.wrap .i64 (s6.1 + 1)) fun (z11 : Int) =>
 again5 (z11, ()) w10)
  fun (K8 : (Unit) → World → Prop) =>
 z (IntKind.wrap .i64 (2 * s6.1)) fun (z12 : Int) =>
 z (IntKind.wrap .i64 (z12 + 1)) fun (z13 : Int) =>
 rdp Try.prog (Instr.indexAt 36 (.pointer (some x1)) (.int .i64 z13)) (.one .addr) fun (x14 : Addr) =>
 rd Try.prog (Instr.loadAt 35 (.pointer (some x14))) (.one (.int .i16)) w7 fun (x15 : Int) =>
 z (IntKind.wrap .i64 x15) fun (z16 : Int) =>
 join (T := (Int × Unit)) (fun (s18 : (Int × Unit)) w19 => ∀ _ : Nat → Value,
 z (IntKind.wrap .i64 (2 * s6.1)) fun (z20 : Int) =>
 rdp Try.prog (Instr.indexAt 36 (.pointer (some x1)) (.int .i64 z20)) (.one .addr) fun (x21 : Addr) =>
 rd Try.prog (Instr.loadAt 35 (.pointer (some x21))) (.one (.int .i16)) w19 fun (x22 : Int) =>
 z (IntKind.wrap .i64 x22) fun (z23 : Int) =>
 call Try.prog 28 [(.int .i64 z23), (.int .i64 s18.1)] (.many [(.agg [(.int .i64), (.int .i64)]), (.one (.int .i64))]) w19 fun (x24 : ((Int × Int × Unit) × Int × Unit)) (w25 : World) =>
 wr Try.prog (Instr.alloc 23 true (.tuple #[])) (.one .addr) w25 fun (x26 : Addr) (w27 : World) =>
 wu Try.prog (Instr.storeAt 23 (.pointer (some x26)) (.agg #[(.int .i64 x24.1.1), (.int .i64 x24.1.2.1)])) w27 fun (w28 : World) =>
 br (x24.2.1 != 0) (R (.bool false) w28)
 (rd Try.prog (Instr.loadAt 23 (.pointer (some x26))) (.agg [(.int .i64), (.int .i64)]) w28 fun (x29 : (Int × Int × Unit)) =>
 call Try.prog 15 [(.agg #[(.int .i64 x29.1), (.int .i64 x29.2.1)])] (.one (.one .bool)) w28 fun (x30 : Bool) (w31 : World) =>
 br (!x30) (R (.bool false) w31)
 (rd Try.prog (Instr.loadAt 23 (.pointer (some x26))) (.agg [(.int .i64), (.int .i64)]) w31 fun (x32 : (Int × Int × Unit)) =>
 rdp Try.prog (Instr.indexAt 37 (.pointer (some x3)) (.int .i64 s6.1)) (.one .addr) fun (x33 : Addr) =>
 wu Try.prog (Instr.storeAt 23 (.pointer (some x33)) (.agg #[(.int .i64 x32.1), (.int .i64 x32.2.1)])) w31 fun (w34 : World) =>
 K8 (()) w34)))
  fun (K17 : (Int × Unit) → World → Prop) =>
 br (z16 == 0) (K17 (1, ()) w7)
 (K17 (z16, ()) w7))
 (rdp Try.prog (Instr.indexAt 37 (.pointer (some x3)) (.int .i64 0)) (.one .addr) fun (x35 : Addr) =>
 rd Try.prog (Instr.loadAt 23 (.pointer (some x35))) (.agg [(.int .i64), (.int .i64)]) w7 fun (x36 : (Int × Int × Unit)) =>
 rdp Try.prog (Instr.indexAt 37 (.pointer (some x3)) (.int .i64 1)) (.one .addr) fun (x37 : Addr) =>
 rd Try.prog (Instr.loadAt 23 (.pointer (some x37))) (.agg [(.int .i64), (.int .i64)]) w7 fun (x38 : (Int × Int × Unit)) =>
 call Try.prog 18 [(.agg #[(.int .i64 x36.1), (.int .i64 x36.2.1)]), (.agg #[(.int .i64 x38.1), (.int .i64 x38.2.1)])] (.many [(.agg [(.int .i64), (.int .i64)]), (.one (.int .i64))]) w7 fun (x39 : ((Int × Int × Unit) × Int × Unit)) (w40 : World) =>
 wr Try.prog (Instr.alloc 23 true (.tuple #[])) (.one .addr) w40 fun (x41 : Addr) (w42 : World) =>
 wu Try.prog (Instr.storeAt 23 (.pointer (some x41)) (.agg #[(.int .i64 x39.1.1), (.int .i64 x39.1.2.1)])) w42 fun (w43 : World) =>
 rd Try.prog (Instr.loadAt 23 (.pointer (some x41))) (.agg [(.int .i64), (.int .i64)]) w43 fun (x44 : (Int × Int × Unit)) =>
 rdp Try.prog (Instr.indexAt 37 (.pointer (some x3)) (.int .i64 2)) (.one .addr) fun (x45 : Addr) =>
 rd Try.prog (Instr.loadAt 23 (.pointer (some x45))) (.agg [(.int .i64), (.int .i64)]) w43 fun (x46 : (Int × Int × Unit)) =>
 call Try.prog 23 [(.agg #[(.int .i64 x44.1), (.int .i64 x44.2.1)]), (.agg #[(.int .i64 x46.1), (.int .i64 x46.2.1)])] (.many [(.agg [(.int .i64), (.int .i64)]), (.one (.int .i64))]) w43 fun (x47 : ((Int × Int × Unit) × Int × Unit)) (w48 : World) =>
 wr Try.prog (Instr.alloc 23 true (.tuple #[])) (.one .addr) w48 fun (x49 : Addr) (w50 : World) =>
 wu Try.prog (Instr.storeAt 23 (.pointer (some x49)) (.agg #[(.int .i64 x47.1.1), (.int .i64 x47.1.2.1)])) w50 fun (w51 : World) =>
 rdp Try.prog (Instr.indexAt 37 (.pointer (some x3)) (.int .i64 0)) (.one .addr) fun (x52 : Addr) =>
 rd Try.prog (Instr.loadAt 23 (.pointer (some x52))) (.agg [(.int .i64), (.int .i64)]) w51 fun (x53 : (Int × Int × Unit)) =>
 rdp Try.prog (Instr.indexAt 37 (.pointer (some x3)) (.int .i64 2)) (.one .addr) fun (x54 : Addr) =>
 rd Try.prog (Instr.loadAt 23 (.pointer (some x54))) (.agg [(.int .i64), (.int .i64)]) w51 fun (x55 : (Int × Int × Unit)) =>
 call Try.prog 23 [(.agg #[(.int .i64 x53.1), (.int .i64 x53.2.1)]), (.agg #[(.int .i64 x55.1), (.int .i64 x55.2.1)])] (.many [(.agg [(.int .i64), (.int .i64)]), (.one (.int .i64))]) w51 fun (x56 : ((Int × Int × Unit) × Int × Unit)) (w57 : World) =>
 wr Try.prog (Instr.alloc 23 true (.tuple #[])) (.one .addr) w57 fun (x58 : Addr) (w59 : World) =>
 wu Try.prog (Instr.storeAt 23 (.pointer (some x58)) (.agg #[(.int .i64 x56.1.1), (.int .i64 x56.1.2.1)])) w59 fun (w60 : World) =>
 rdp Try.prog (Instr.indexAt 37 (.pointer (some x3)) (.int .i64 1)) (.one .addr) fun (x61 : Addr) =>
 rd Try.prog (Instr.loadAt 23 (.pointer (some x61))) (.agg [(.int .i64), (.int .i64)]) w60 fun (x62 : (Int × Int × Unit)) =>
 rdp Try.prog (Instr.indexAt 37 (.pointer (some x3)) (.int .i64 2)) (.one .addr) fun (x63 : Addr) =>
 rd Try.prog (Instr.loadAt 23 (.pointer (some x63))) (.agg [(.int .i64), (.int .i64)]) w60 fun (x64 : (Int × Int × Unit)) =>
 call Try.prog 23 [(.agg #[(.int .i64 x62.1), (.int .i64 x62.2.1)]), (.agg #[(.int .i64 x64.1), (.int .i64 x64.2.1)])] (.many [(.agg [(.int .i64), (.int .i64)]), (.one (.int .i64))]) w60 fun (x65 : ((Int × Int × Unit) × Int × Unit)) (w66 : World) =>
 wr Try.prog (Instr.alloc 23 true (.tuple #[])) (.one .addr) w66 fun (x67 : Addr) (w68 : World) =>
 wu Try.prog (Instr.storeAt 23 (.pointer (some x67)) (.agg #[(.int .i64 x65.1.1), (.int .i64 x65.1.2.1)])) w68 fun (w69 : World) =>
 rd Try.prog (Instr.loadAt 23 (.pointer (some x58))) (.agg [(.int .i64), (.int .i64)]) w69 fun (x70 : (Int × Int × Unit)) =>
 rd Try.prog (Instr.loadAt 23 (.pointer (some x67))) (.agg [(.int .i64), (.int .i64)]) w69 fun (x71 : (Int × Int × Unit)) =>
 call Try.prog 18 [(.agg #[(.int .i64 x70.1), (.int .i64 x70.2.1)]), (.agg #[(.int .i64 x71.1), (.int .i64 x71.2.1)])] (.many [(.agg [(.int .i64), (.int .i64)]), (.one (.int .i64))]) w69 fun (x72 : ((Int × Int × Unit) × Int × Unit)) (w73 : World) =>
 wr Try.prog (Instr.alloc 23 true (.tuple #[])) (.one .addr) w73 fun (x74 : Addr) (w75 : World) =>
 wu Try.prog (Instr.storeAt 23 (.pointer (some x74)) (.agg #[(.int .i64 x72.1.1), (.int .i64 x72.1.2.1)])) w75 fun (w76 : World) =>
 join (T := (Unit)) (fun (_s78 : (Unit)) w79 => ∀ _ : Nat → Value,
 rd Try.prog (Instr.loadAt 23 (.pointer (some x41))) (.agg [(.int .i64), (.int .i64)]) w79 fun (x80 : (Int × Int × Unit)) =>
 rdp Try.prog (Instr.indexAt 37 (.pointer (some x3)) (.int .i64 1)) (.one .addr) fun (x81 : Addr) =>
 rd Try.prog (Instr.loadAt 23 (.pointer (some x81))) (.agg [(.int .i64), (.int .i64)]) w79 fun (x82 : (Int × Int × Unit)) =>
 call Try.prog 21 [(.agg #[(.int .i64 x80.1), (.int .i64 x80.2.1)]), (.agg #[(.int .i64 x82.1), (.int .i64 x82.2.1)])] (.many [(.agg [(.int .i64), (.int .i64)]), (.one (.int .i64))]) w79 fun (x83 : ((Int × Int × Unit) × Int × Unit)) (w84 : World) =>
 wr Try.prog (Instr.alloc 23 true (.tuple #[])) (.one .addr) w84 fun (x85 : Addr) (w86 : World) =>
 wu Try.prog (Instr.storeAt 23 (.pointer (some x85)) (.agg #[(.int .i64 x83.1.1), (.int .i64 x83.1.2.1)])) w86 fun (w87 : World) =>
 br (x83.2.1 != 0) (R (.bool false) w87)
 (rd Try.prog (Instr.loadAt 23 (.pointer (some x85))) (.agg [(.int .i64), (.int .i64)]) w87 fun (x88 : (Int × Int × Unit)) =>
 rdp Try.prog (Instr.indexAt 37 (.pointer (some x3)) (.int .i64 0)) (.one .addr) fun (x89 : Addr) =>
 rd Try.prog (Instr.loadAt 23 (.pointer (some x89))) (.agg [(.int .i64), (.int .i64)]) w87 fun (x90 : (Int × Int × Unit)) =>
 rd Try.prog (cmpS .neq 23 (.tmp 116) (.tmp 118) (.agg #[(.int .i64 x88.1), (.int .i64 x88.2.1)]) (.agg #[(.int .i64 x90.1), (.int .i64 x90.2.1)])) (.one .bool) w87 fun (x91 : Bool) =>
 br x91 (R (.bool false) w87)
 (rdp Try.prog (Instr.indexAt 37 (.pointer (some x3)) (.int .i64 0)) (.one .addr) fun (x92 : Addr) =>
 rd Try.prog (Instr.loadAt 23 (.pointer (some x92))) (.agg [(.int .i64), (.int .i64)]) w87 fun (x93 : (Int × Int × Unit)) =>
 rdp Try.prog (Instr.indexAt 37 (.pointer (some x3)) (.int .i64 1)) (.one .addr) fun (x94 : Addr) =>
 rd Try.prog (Instr.loadAt 23 (.pointer (some x94))) (.agg [(.int .i64), (.int .i64)]) w87 fun (x95 : (Int × Int × Unit)) =>
 call Try.prog 25 [(.agg #[(.int .i64 x93.1), (.int .i64 x93.2.1)]), (.agg #[(.int .i64 x95.1), (.int .i64 x95.2.1)])] (.many [(.agg [(.int .i64), (.int .i64)]), (.one (.int .i64))]) w87 fun (x96 : ((Int × Int × Unit) × Int × Unit)) (w97 : World) =>
 wr Try.prog (Instr.alloc 23 true (.tuple #[])) (.one .addr) w97 fun (x98 : Addr) (w99 : World) =>
 wu Try.prog (Instr.storeAt 23 (.pointer (some x98)) (.agg #[(.int .i64 x96.1.1), (.int .i64 x96.1.2.1)])) w99 fun (w100 : World) =>
 rdp Try.prog (Instr.indexAt 37 (.pointer (some x3)) (.int .i64 1)) (.one .addr) fun (x101 : Addr) =>
 rd Try.prog (Instr.loadAt 2 (.pointer (some x101))) (.one (.int .i64)) w100 fun (x102 : Int) =>
 br (x102 == 0) (R (.bool (x96.2.1 == 1)) w100)
 (rd Try.prog (Instr.loadAt 23 (.pointer (some x98))) (.agg [(.int .i64), (.int .i64)]) w100 fun (x103 : (Int × Int × Unit)) =>
 rdp Try.prog (Instr.indexAt 37 (.pointer (some x3)) (.int .i64 1)) (.one .addr) fun (x104 : Addr) =>
 rd Try.prog (Instr.loadAt 23 (.pointer (some x104))) (.agg [(.int .i64), (.int .i64)]) w100 fun (x105 : (Int × Int × Unit)) =>
 call Try.prog 23 [(.agg #[(.int .i64 x103.1), (.int .i64 x103.2.1)]), (.agg #[(.int .i64 x105.1), (.int .i64 x105.2.1)])] (.many [(.agg [(.int .i64), (.int .i64)]), (.one (.int .i64))]) w100 fun (x106 : ((Int × Int × Unit) × Int × Unit)) (w107 : World) =>
 wr Try.prog (Instr.alloc 23 true (.tuple #[])) (.one .addr) w107 fun (x108 : Addr) (w109 : World) =>
 wu Try.prog (Instr.storeAt 23 (.pointer (some x108)) (.agg #[(.int .i64 x106.1.1), (.int .i64 x106.1.2.1)])) w109 fun (w110 : World) =>
 br (x96.2.1 == 0) (br (x106.2.1 == 0) (rd Try.prog (Instr.loadAt 23 (.pointer (some x108))) (.agg [(.int .i64), (.int .i64)]) w110 fun (x111 : (Int × Int × Unit)) =>
 rdp Try.prog (Instr.indexAt 37 (.pointer (some x3)) (.int .i64 0)) (.one .addr) fun (x112 : Addr) =>
 rd Try.prog (Instr.loadAt 23 (.pointer (some x112))) (.agg [(.int .i64), (.int .i64)]) w110 fun (x113 : (Int × Int × Unit)) =>
 rd Try.prog (cmpS .eql 23 (.tmp 149) (.tmp 151) (.agg #[(.int .i64 x111.1), (.int .i64 x111.2.1)]) (.agg #[(.int .i64 x113.1), (.int .i64 x113.2.1)])) (.one .bool) w110 fun (x114 : Bool) =>
 R (.bool x114) w110)
 (R (.bool false) w110))
 (R (.bool false) w110)))))
  fun (K77 : (Unit) → World → Prop) =>
 br (x72.2.1 == 0) (rd Try.prog (Instr.loadAt 23 (.pointer (some x49))) (.agg [(.int .i64), (.int .i64)]) w76 fun (x115 : (Int × Int × Unit)) =>
 rd Try.prog (Instr.loadAt 23 (.pointer (some x74))) (.agg [(.int .i64), (.int .i64)]) w76 fun (x116 : (Int × Int × Unit)) =>
 rd Try.prog (cmpS .neq 23 (.tmp 96) (.tmp 97) (.agg #[(.int .i64 x115.1), (.int .i64 x115.2.1)]) (.agg #[(.int .i64 x116.1), (.int .i64 x116.2.1)])) (.one .bool) w76 fun (x117 : Bool) =>
 br x117 (rd Try.prog (Instr.loadAt 23 (.pointer (some x49))) (.agg [(.int .i64), (.int .i64)]) w76 fun (x118 : (Int × Int × Unit)) =>
 rd Try.prog (Instr.loadAt 23 (.pointer (some x74))) (.agg [(.int .i64), (.int .i64)]) w76 fun (x119 : (Int × Int × Unit)) =>
 call Try.prog 16 [(.agg #[(.int .i64 x118.1), (.int .i64 x118.2.1)]), (.agg #[(.int .i64 x119.1), (.int .i64 x119.2.1)])] (.one (.one (.int .i64))) w76 fun (x120 : Int) (w121 : World) =>
 br (x120 != 0) (R (.bool false) w121)
 (K77 (()) w121))
 (K77 (()) w76))
 (K77 (()) w76))
def H6 : Hints := ⟨[(2, 0, [(4, (.one (.int .i64)))]), (0, 35, [(5, (.one (.int .i64)))]), (1, 1, []), (0, 105, [])], [], [], []⟩
set_option maxRecDepth 100000 in
theorem S6_eq (l_0 : Int) (l_1 : Int) (l_2 : Int) (l_3 : Int) (l_4 : Int) (l_5 : Int) (w0 : World) (R : Value → World → Prop) : vcFn Try.prog H6 Try.f6 [(.agg #[(.int .i16 l_0), (.int .i16 l_1), (.int .i16 l_2), (.int .i16 l_3), (.int .i16 l_4), (.int .i16 l_5)])] w0 R = S6 l_0 l_1 l_2 l_3 l_4 l_5 w0 R := by kernel_rfl
set_option maxRecDepth 100000 in
theorem S6_calls (l_0 : Int) (l_1 : Int) (l_2 : Int) (l_3 : Int) (l_4 : Int) (l_5 : Int) (w0 : World) (R : Value → World → Prop) (h : S6 l_0 l_1 l_2 l_3 l_4 l_5 w0 R) : Calls Try.prog 6 #[(.agg #[(.int .i16 l_0), (.int .i16 l_1), (.int .i16 l_2), (.int .i16 l_3), (.int .i16 l_4), (.int .i16 l_5)])] w0 (ret R) := by
  rw [← S6_eq] at h; exact vcFn_sound follows_ Try.func6 h

end Go.Proofs

/- Bounds of rational numbers; the operations of small fractions are exact. -/



namespace Go.Proofs.Ytajpdnphamomjaa
open Go.RowKit Go.Q Go.Q.Num Go.V

/-- numerator and denominator are small -/
structure Bd (N D : Nat) (r : Rat) : Prop where
  n : r.num.natAbs ≤ N
  d : r.den ≤ D
theorem Bd.div {n d : Int} {N D : Nat} (h0 : d ≠ 0) (hn : n.natAbs ≤ N) (hd : d.natAbs ≤ D) : Bd N D (Rat.divInt n d) := by
  obtain ⟨hq, hr⟩ := of_norm (n := n) h0
  obtain ⟨m1, m2, _⟩ := low_num (decide (n < 0) != decide (d < 0)) n.natAbs d.natAbs hq
  rw [hr] at m1 m2
  exact ⟨by rw [m1]; exact Nat.le_trans (Nat.div_le_self _ _) hn, by rw [m2]; exact Nat.le_trans (Nat.div_le_self _ _) hd⟩
theorem self_div (r : Rat) : r = Rat.divInt r.num (r.den : Int) := by rw [Rat.divInt_ofNat, Rat.mkRat_self]
theorem Bd.add {N D M E : Nat} {r s : Rat} (h : Bd N D r) (h' : Bd M E s) : Bd (N * E + M * D) (D * E) (r + s) := by
  have hr := r.den_nz
  have hs := s.den_nz
  have e : r + s = Rat.divInt (r.num * s.den + s.num * r.den) ((r.den : Int) * s.den) := by
    conv => lhs; rw [self_div r, self_div s]
    rw [Rat.divInt_add_divInt _ _ (by omega) (by omega)]
  rw [e]
  refine Bd.div (Int.mul_ne_zero (by omega) (by omega)) ?_ ?_
  · refine Nat.le_trans (Int.natAbs_add_le _ _) (Nat.add_le_add ?_ ?_)
    · rw [Int.natAbs_mul, Int.natAbs_natCast]; exact Nat.mul_le_mul h.n h'.d
    · rw [Int.natAbs_mul, Int.natAbs_natCast]; exact Nat.mul_le_mul h'.n h.d
  · rw [Int.natAbs_mul, Int.natAbs_natCast, Int.natAbs_natCast]; exact Nat.mul_le_mul h.d h'.d
theorem Bd.mul {N D M E : Nat} {r s : Rat} (h : Bd N D r) (h' : Bd M E s) : Bd (N * M) (D * E) (r * s) := by
  have hr := r.den_nz
  have hs := s.den_nz
  have e : r * s = Rat.divInt (r.num * s.num) ((r.den : Int) * s.den) := by
    conv => lhs; rw [self_div r, self_div s]
    rw [Rat.divInt_mul_divInt]
  rw [e]
  refine Bd.div (Int.mul_ne_zero (by omega) (by omega)) ?_ ?_
  · rw [Int.natAbs_mul]; exact Nat.mul_le_mul h.n h'.n
  · rw [Int.natAbs_mul, Int.natAbs_natCast, Int.natAbs_natCast]; exact Nat.mul_le_mul h.d h'.d
theorem Bd.quo {N D M E : Nat} {r s : Rat} (h : Bd N D r) (h' : Bd M E s) (h0 : s.num ≠ 0) : Bd (N * E) (D * M) (r / s) := by
  have hr := r.den_nz
  have e : r / s = Rat.divInt (r.num * s.den) ((r.den : Int) * s.num) := by
    conv => lhs; rw [self_div r, self_div s]
    rw [Rat.div_def, Rat.inv_divInt, Rat.divInt_mul_divInt]
  rw [e]
  refine Bd.div (Int.mul_ne_zero (by omega) h0) ?_ ?_
  · rw [Int.natAbs_mul, Int.natAbs_natCast]; exact Nat.mul_le_mul h.n h'.d
  · rw [Int.natAbs_mul, Int.natAbs_natCast]; exact Nat.mul_le_mul h.d h'.n
theorem Bd.fits {N D : Nat} {r : Rat} (h : Bd N D r) (hN : N ≤ 100000000000000000) (hD : D ≤ 100000000000000000) : Fits r := ⟨by have := h.n; omega, by have := h.n; omega, by have := h.d; omega⟩
theorem Bd.of {n d : Int} {N D : Nat} (h0 : d ≠ 0) (hn : -(N : Int) ≤ n ∧ n ≤ N) (hd : -(D : Int) ≤ d ∧ d ≤ D) : Bd N D (Rat.divInt n d) := Bd.div h0 (by omega) (by omega)

def fv (r : Rat) : FE := ((r.num, ((r.den : Nat) : Int), ()), 0, ())
theorem fit_fv {r : Rat} (h : Fits r) : fitT r = fv r := by unfold fitT fv; rw [if_pos h]
theorem frac_fits {r : Rat} (h : Fits r) : IsFrac r.num ((r.den : Nat) : Int) := by
  have h0 := r.den_nz
  obtain ⟨h1, h2, h3⟩ := h
  exact ⟨by omega, by omega, h1, h2, by rw [Int.natAbs_natCast]; exact r.reduced⟩
theorem ratv_fits (r : Rat) : ratv r.num ((r.den : Nat) : Int) = r := by
  unfold ratv; rw [Int.toNat_natCast, Rat.mkRat_self]
theorem opT_fv {r s : Rat} {f : Rat → Rat → Rat} (h : Fits r) (h' : Fits s) (hf : Fits (f r s)) : opT r.num r.den s.num s.den f = fv (f r s) := by
  unfold opT; rw [if_pos ⟨frac_fits h, frac_fits h'⟩, ratv_fits, ratv_fits, fit_fv hf]
theorem i64_fits {r : Rat} (h : Fits r) : I64 r.num ∧ I64 ((r.den : Nat) : Int) := by
  obtain ⟨h1, h2, h3⟩ := h
  exact ⟨⟨by omega, by omega⟩, ⟨by omega, by omega⟩⟩
theorem addQ {r s : Rat} (w : World) (h : Fits r) (h' : Fits s) (hf : Fits (r + s)) : call Try.prog 18 [fracv r.num r.den, fracv s.num s.den] rFE w (fun x w' => x = fv (r + s) ∧ bel w w') :=
  call_mono (opA _ _ _ _ w (i64_fits h) (i64_fits h')) fun x w' ⟨e, hb⟩ => ⟨by rw [e]; exact opT_fv (f := fun r s => r + s) h h' hf, hb⟩
theorem subQ {r s : Rat} (w : World) (h : Fits r) (h' : Fits s) (hf : Fits (r + -s)) : call Try.prog 21 [fracv r.num r.den, fracv s.num s.den] rFE w (fun x w' => x = fv (r + -s) ∧ bel w w') :=
  call_mono (opS _ _ _ _ w (i64_fits h) (i64_fits h')) fun x w' ⟨e, hb⟩ => ⟨by rw [e]; exact opT_fv (f := fun r s => r + -s) h h' hf, hb⟩
theorem mulQ {r s : Rat} (w : World) (h : Fits r) (h' : Fits s) (hf : Fits (r * s)) : call Try.prog 23 [fracv r.num r.den, fracv s.num s.den] rFE w (fun x w' => x = fv (r * s) ∧ bel w w') :=
  call_mono (opM _ _ _ _ w (i64_fits h) (i64_fits h')) fun x w' ⟨e, hb⟩ => ⟨by rw [e]; exact opT_fv (f := fun r s => r * s) h h' hf, hb⟩
theorem divQ {r s : Rat} (w : World) (h : Fits r) (h' : Fits s) (h0 : s.num ≠ 0) (hf : Fits (r / s)) : call Try.prog 25 [fracv r.num r.den, fracv s.num s.den] rFE w (fun x w' => x = fv (r / s) ∧ bel w w') :=
  call_mono (opD _ _ _ _ w (i64_fits h) (i64_fits h')) fun x w' ⟨e, hb⟩ => ⟨by rw [e]; unfold divT; rw [if_pos ⟨frac_fits h, frac_fits h', h0⟩, ratv_fits, ratv_fits, fit_fv hf], hb⟩
theorem divQ0 {r s : Rat} (w : World) (h : Fits r) (h' : Fits s) (h0 : s.num = 0) : call Try.prog 25 [fracv r.num r.den, fracv s.num s.den] rFE w (fun x w' => x = invT ∧ bel w w') :=
  call_mono (opD _ _ _ _ w (i64_fits h) (i64_fits h')) fun x w' ⟨e, hb⟩ => ⟨by rw [e]; unfold divT; rw [if_neg]; rintro ⟨_, _, q⟩; exact q h0, hb⟩
theorem ofQ {n d : Int} (w : World) (hn : I64 n) (hd : I64 d) (h0 : d ≠ 0) (hf : Fits (Rat.divInt n d)) : call Try.prog 28 [.int .i64 n, .int .i64 d] rFE w (fun x w' => x = fv (Rat.divInt n d) ∧ bel w w') :=
  call_mono (ofF n d w hn hd) fun x w' ⟨e, hb⟩ => ⟨by rw [e]; unfold ofT; rw [if_neg h0, fit_fv hf], hb⟩
/-- a variable is made and written -/
theorem boxF {n d : Int} {w : World} {k : Addr → World → Prop} (hk : ∀ ad w', bel w w' → Box w' ad [.int .i64 n, .int .i64 d] → w.heap.size ≤ ad.block → k ad w') :
    wr Try.prog (Instr.alloc 23 true (.tuple #[])) (.one .addr) w fun x26 w27 => wu Try.prog (Instr.storeAt 23 (.pointer (some x26)) (.agg #[.int .i64 n, .int .i64 d])) w27 fun w28 => k x26 w28 := by
  refine wr_alloc (z := fracv 0 0) (by kernel_rfl) fun ad w1 Z h hz _ => ?_
  refine wu_box Z (by kernel_rfl) (Nat.le_refl 2) rfl fun w2 Z hg _ => ?_
  exact hk _ _ (h.grownAt hg (by omega)) Z (by omega)
theorem tyAF : TyA Try.prog 37 23 3 2 := ⟨by kernel_rfl, by kernel_rfl⟩
theorem tyAI : TyA Try.prog 36 35 6 1 := ⟨by kernel_rfl, by kernel_rfl⟩
theorem rd_el {w : World} {a : Addr} {cs : List Value} {j : Nat} {n d : Int} {k : (Int × Int × Unit) → Prop} (X : Box w a cs) (h0 : cs[2 * j]? = some (.int .i64 n)) (h1 : cs[2 * j + 1]? = some (.int .i64 d)) (hj : j < 3) {i : Int} (hi : i = (j : Int)) (hk : k (n, d, ())) :
    rdp Try.prog (Instr.indexAt 37 (.pointer (some a)) (.int .i64 i)) (.one .addr) fun ad => rd Try.prog (Instr.loadAt 23 (.pointer (some ad))) (.agg [.int .i64, .int .i64]) w k := by
  refine idx_arr tyAF hi hj ?_
  rw [Nat.mul_comm]
  refine rd_boxm X (vs := [.int .i64 n, .int .i64 d]) (by kernel_rfl) ?_ rfl hk
  intro o v ho
  match o, ho with
  | 0, ho => simp at ho; subst ho; exact h0
  | 1, ho => simp at ho; subst ho; exact h1
  | o + 2, ho => simp at ho
end Go.Proofs.Ytajpdnphamomjaa

/- Arguments that came in: slices of any elements as lists; tables. -/



namespace Go.V
open Go Go.RowKit Go.Q

section
variable {P : Program} {w : World} {t e : TypeId}
theorem Read.elems {α : Type} {enc : α → List Value} {R : α → Prop} {sz : Nat} {cs : List Value} (he : ∀ x, (enc x).length = sz) (h0 : 0 < sz) (hE : ∀ ch, Go.Q.Read P w e ch → ∃ x, ch = enc x ∧ R x)
    (ht : P.underlying t = some (.slice e)) (hs : P.cellsOf e = sz) (h : Go.Q.Read P w t cs) : ∃ a n c, ∃ L : List α, cs = [.slice a n c] ∧ L.length = n ∧ Sl w a n c sz (L.flatMap enc) ∧ ∀ x ∈ L, R x := by
  obtain ⟨a, n, c, rfl, h1, h2, h3, h4⟩ := Go.Q.Read.slice ht h
  have ex : ∀ i : Fin n, ∃ x : α, ∃ ad, a = some ad ∧ w.cells? 0 (ad.add (i * sz)) sz = some (enc x) ∧ R x := fun i => by
    obtain ⟨ad, ch, e1, e2, e3⟩ := h4 i i.2
    obtain ⟨x, rfl, hx⟩ := hE ch e3
    rw [hs] at e2
    exact ⟨x, ad, e1, e2, hx⟩
  refine ⟨a, n, c, List.ofFn fun i => Classical.choose (ex i), rfl, by simp, ?_, ?_⟩
  · refine ⟨by rw [flat_len he]; simp, h1, h2, h3, fun j u hj => ?_⟩
    have hj' : j < n * sz := by
      have := (List.getElem?_eq_some_iff.1 hj).1
      rw [flat_len he] at this
      simpa using this
    have hi : j / sz < n := Nat.div_lt_of_lt_mul (by rwa [Nat.mul_comm])
    have ho : j % sz < sz := Nat.mod_lt _ h0
    obtain ⟨ad, e1, e2, _⟩ := Classical.choose_spec (ex ⟨j / sz, hi⟩)
    have hg := flat_get he (L := List.ofFn fun i => Classical.choose (ex i)) (j := j / sz) (p := Classical.choose (ex ⟨j / sz, hi⟩)) (by simp [hi]) ho
    rw [Nat.div_add_mod' j sz, hj] at hg
    obtain ⟨_, e4, e5⟩ := World.cells?_some e2
    have h6 := e5 (j % sz) ho
    rw [add_add] at h6
    simp only at h6
    rw [Nat.div_add_mod', ← hg] at h6
    refine ⟨ad, e1, h6, ?_⟩
    have := cell_lt h6
    rwa [add_block] at this
  · intro x hx
    rw [List.mem_ofFn] at hx
    obtain ⟨i, rfl⟩ := hx
    obtain ⟨ad, e1, e2, e3⟩ := Classical.choose_spec (ex i)
    exact e3
theorem Read.ones {α : Type} {g : α → Value} {R : α → Prop} {cs : List Value} (hE : ∀ ch, Go.Q.Read P w e ch → ∃ x, ch = [g x] ∧ R x)
    (ht : P.underlying t = some (.slice e)) (hs : P.cellsOf e = 1) (h : Go.Q.Read P w t cs) : ∃ a n c, ∃ L : List α, cs = [.slice a n c] ∧ L.length = n ∧ Sl w a n c 1 (L.map g) ∧ ∀ x ∈ L, R x := by
  obtain ⟨a, n, c, L, h1, h2, h3, h4⟩ := Read.elems (enc := fun x => [g x]) (R := R) (fun _ => rfl) Nat.one_pos hE ht hs h
  rw [← List.map_eq_flatMap] at h3
  exact ⟨a, n, c, L, h1, h2, h3, h4⟩
theorem Read.ints {k : IntKind} {cs : List Value} (ht : P.underlying t = some (.slice e)) (he : P.underlying e = some (.int k)) (hs : P.cellsOf e = 1) (h : Go.Q.Read P w t cs) :
    ∃ a n c, ∃ L : List Int, cs = [.slice a n c] ∧ L.length = n ∧ Sl w a n c 1 (ints k L) ∧ ∀ x ∈ L, (Lit.int k x).wf = true :=
  Read.ones (g := Value.int k) (fun _ h => Go.Q.Read.int he h) ht hs h
theorem Read.bools {cs : List Value} (ht : P.underlying t = some (.slice e)) (he : P.underlying e = some .bool) (hs : P.cellsOf e = 1) (h : Go.Q.Read P w t cs) :
    ∃ a n c, ∃ L : List Bool, cs = [.slice a n c] ∧ L.length = n ∧ Sl w a n c 1 (Go.Q.bools L) := by
  obtain ⟨a, n, c, L, h1, h2, h3, _⟩ := Read.ones (g := Value.bool) (R := fun _ => True) (fun _ h => by obtain ⟨b, hb⟩ := Go.Q.Read.bool he h; exact ⟨b, hb, trivial⟩) ht hs h
  exact ⟨a, n, c, L, h1, h2, h3⟩

/-- a table of numbers: a slice of slices -/
structure Tab {α : Type} (g : α → Value) (w : World) (h : Hdr) (T : List (List α)) : Prop where
  ex : ∃ hs : List Hdr, Sl w h.1 h.2.1 h.2.2 1 (hs.map hv) ∧ hs.length = T.length ∧ ∀ (i : Nat) (x : Hdr) (r : List α), hs[i]? = some x → T[i]? = some r → Sl w x.1 x.2.1 x.2.2 1 (r.map g)
abbrev TabI (k : IntKind) (w : World) (h : Hdr) (T : List (List Int)) : Prop := Tab (Value.int k) w h T
theorem Tab.len {α : Type} {g : α → Value} {h : Hdr} {T : List (List α)} (H : Tab g w h T) : T.length = h.2.1 := by
  obtain ⟨hs, h1, h2, _⟩ := H.ex
  have := h1.len
  simp at this
  omega
theorem Tab.up {α : Type} {g : α → Value} {h : Hdr} {T : List (List α)} {w' : World} (H : Tab g w h T) (hb : bel w w') : Tab g w' h T := by
  obtain ⟨hs, h1, h2, h3⟩ := H.ex
  exact ⟨hs, h1.kept hb, h2, fun i x r q1 q2 => (h3 i x r q1 q2).kept hb⟩
/-- a row is read -/
theorem Tab.at {α : Type} {g : α → Value} {h : Hdr} {T : List (List α)} (H : Tab g w h T) {z : Value} {bytes : Nat} (TS : TyS P t e z 1 bytes) (he : scal P e = true) {j : Nat} {k : IntKind} {i : Int} {K : (Option Addr × Nat × Nat) → Prop}
    (hj : i = (j : Int)) (hn : j < h.2.1) (hk : ∀ (x : Hdr) (r : List α), T[j]? = some r → Sl w x.1 x.2.1 x.2.2 1 (r.map g) → K x) :
    rdp P (Instr.indexAt t (.slice h.1 h.2.1 h.2.2) (.int k i)) (.one .addr) fun ad => rd P (Instr.loadAt e (.pointer (some ad))) (.one .slice) w K := by
  have hl := H.len
  obtain ⟨hs, h1, h2, h3⟩ := H.ex
  refine at_hdr TS he h1 hj hn fun x hx => ?_
  obtain ⟨r, hr⟩ : ∃ r, T[j]? = some r := ⟨_, List.getElem?_eq_getElem (by omega)⟩
  exact hk x r hr (h3 j x r hx hr)
/-- an argument that is a table -/
theorem Read.tab {α : Type} {g : α → Value} {R : α → Prop} {u : TypeId} {cs : List Value} (hE : ∀ ch, Go.Q.Read P w u ch → ∃ x, ch = [g x] ∧ R x)
    (ht : P.underlying t = some (.slice e)) (hs : P.cellsOf e = 1) (he : P.underlying e = some (.slice u)) (hs' : P.cellsOf u = 1) (h : Go.Q.Read P w t cs) :
    ∃ x : Hdr, ∃ T : List (List α), cs = [hv x] ∧ Tab g w x T ∧ ∀ r ∈ T, ∀ x ∈ r, R x := by
  obtain ⟨a, n, c, L, h1, h2, h3, h4⟩ := Read.ones (g := hv) (R := fun x : Hdr => ∃ r : List α, Sl w x.1 x.2.1 x.2.2 1 (r.map g) ∧ ∀ y ∈ r, R y) (fun ch hr => by
    obtain ⟨a, n, c, L, h1, h2, h3, h4⟩ := Read.ones (g := g) (R := R) hE he hs' hr
    exact ⟨(a, n, c), h1, L, h3, h4⟩) ht hs h
  have key : ∀ L : List Hdr, (∀ x ∈ L, ∃ r : List α, Sl w x.1 x.2.1 x.2.2 1 (r.map g) ∧ ∀ y ∈ r, R y) → ∃ T : List (List α), L.length = T.length ∧ (∀ (i : Nat) (x : Hdr) (r : List α), L[i]? = some x → T[i]? = some r → Sl w x.1 x.2.1 x.2.2 1 (r.map g)) ∧ ∀ r ∈ T, ∀ x ∈ r, R x := by
    intro L
    induction L with
    | nil => intro _; exact ⟨[], rfl, fun i x r h => by simp at h, by simp⟩
    | cons x L ih =>
      intro h
      obtain ⟨r, hr, hr'⟩ := h x (List.mem_cons_self ..)
      obtain ⟨T, t1, t2, t3⟩ := ih fun y hy => h y (List.mem_cons_of_mem _ hy)
      refine ⟨r :: T, by simp [t1], fun i y s q1 q2 => ?_, fun s hs => ?_⟩
      · cases i with
        | zero => simp at q1 q2; subst q1 q2; exact hr
        | succ i => simp at q1 q2; exact t2 i y s q1 q2
      · rcases List.mem_cons.1 hs with rfl | hs
        · exact hr'
        · exact t3 s hs
  obtain ⟨T, t1, t2, t3⟩ := key L h4
  exact ⟨(a, n, c), T, h1, ⟨L, h3, t1, t2⟩, t3⟩
/-- whole arguments: a struct, an array, a slice -/
theorem Arg.struct {fs : Array Field} {v : Value} (ht : P.underlying t = some (.struct fs)) (h : Arg P w t v) : ∃ cs : Array Value, v = .agg cs ∧ cs.size = P.cellsOf t ∧ ∀ f ∈ fs.toList, Go.Q.Read P w f.type ((cs.toList.drop f.offset).take (P.cellsOf f.type)) := by
  obtain ⟨⟨r, b, ho⟩, hr⟩ := h
  unfold Value.okWide at ho
  rw [ht] at ho
  obtain ⟨cs, rfl, hsz, _⟩ := ho
  exact ⟨cs, rfl, hsz, (Go.Q.Read.struct ht hr).2⟩
theorem Arg.array {n : Nat} {v : Value} (ht : P.underlying t = some (.array n e)) (h : Arg P w t v) : ∃ cs : Array Value, v = .agg cs ∧ cs.size = P.cellsOf t ∧ ∀ i, i < n → Go.Q.Read P w e ((cs.toList.drop (i * P.cellsOf e)).take (P.cellsOf e)) := by
  obtain ⟨⟨r, b, ho⟩, hr⟩ := h
  unfold Value.okWide at ho
  rw [ht] at ho
  obtain ⟨cs, rfl, hsz, _⟩ := ho
  exact ⟨cs, rfl, hsz, (Go.Q.Read.array ht hr).2⟩
theorem Arg.slice {v : Value} (ht : P.underlying t = some (.slice e)) (h : Arg P w t v) : ∃ a n c, v = .slice a n c ∧ Go.Q.Read P w t [v] := by
  obtain ⟨⟨r, b, ho⟩, hr⟩ := h
  unfold Value.okWide Cell.okWide Cell.ok at ho
  simp only [ht] at ho
  cases v with
  | slice a n c => exact ⟨a, n, c, rfl, hr⟩
  | _ => simp at ho
end
end Go.V

/- The walk of FractionField. -/


namespace Go.Proofs.Ytajpdnphamomjaa
open Go.RowKit Go.Q Go.Q.Num Go.V

abbrev I16 (n : Int) : Prop := -32768 ≤ n ∧ n ≤ 32767
/-- the three fractions -/
def one1 (d : Int) : Int := if d = 0 then 1 else d
def rq (n d : Int) : Rat := Rat.divInt n (one1 d)
theorem one1_ne (d : Int) : one1 d ≠ 0 := by unfold one1; split <;> omega
theorem one1_in {d : Int} (h : I16 d) : -32768 ≤ one1 d ∧ one1 d ≤ 32767 := by unfold one1; split <;> omega
theorem rq_bd {n d : Int} (h : I16 n) (h' : I16 d) : Bd 32768 32768 (rq n d) := by
  have := one1_in h'
  exact Bd.of (one1_ne d) (by omega) (by omega)
/-- the cells of the array when i of them are made -/
def fcs (l0 l1 l2 l3 l4 l5 : Int) : Nat → List Value
  | 0 => [.int .i64 0, .int .i64 0, .int .i64 0, .int .i64 0, .int .i64 0, .int .i64 0]
  | 1 => [.int .i64 (rq l0 l1).num, .int .i64 ((rq l0 l1).den : Nat), .int .i64 0, .int .i64 0, .int .i64 0, .int .i64 0]
  | 2 => [.int .i64 (rq l0 l1).num, .int .i64 ((rq l0 l1).den : Nat), .int .i64 (rq l2 l3).num, .int .i64 ((rq l2 l3).den : Nat), .int .i64 0, .int .i64 0]
  | _ => [.int .i64 (rq l0 l1).num, .int .i64 ((rq l0 l1).den : Nat), .int .i64 (rq l2 l3).num, .int .i64 ((rq l2 l3).den : Nat), .int .i64 (rq l4 l5).num, .int .i64 ((rq l4 l5).den : Nat)]

set_option maxHeartbeats 1600000 in
theorem field (l0 l1 l2 l3 l4 l5 : Int) (w : World) (a0 : I16 l0) (a1 : I16 l1) (a2 : I16 l2) (a3 : I16 l3) (a4 : I16 l4) (a5 : I16 l5) :
    Calls Try.prog 6 #[.agg #[.int .i16 l0, .int .i16 l1, .int .i16 l2, .int .i16 l3, .int .i16 l4, .int .i16 l5]] w (fun e w' => e = .returned (.bool true) ∧ Below w.heap.size w w') := by
  refine Calls.mono (S6_calls l0 l1 l2 l3 l4 l5 w (fun v w' => v = .bool true ∧ bel w w') ?_) (by rintro e w' ⟨v, rfl, rfl, hb⟩; exact ⟨rfl, hb⟩)
  unfold S6
  refine wr_box fun x1 w1 X1 h _ _ => ?_
  refine wr_alloc (z := .agg #[.int .i64 0, .int .i64 0, .int .i64 0, .int .i64 0, .int .i64 0, .int .i64 0]) (by kernel_rfl) fun x3 w2 X3 h' hx3 _ => ?_
  have hne : w.heap.size ≤ x3.block := by rw [hx3]; exact h.size
  have l13 := X1.lt
  have n13 : some x1.block ≠ some x3.block := by intro e; injection e; omega
  replace h := h.trans h'; replace X1 := X1.up h'; clear h'
  refine loop_gh (G := Nat) (fun i s w' => s.1 = (i : Int) ∧ i ≤ 3 ∧ bel w w' ∧ Box w' x1 [.int .i16 l0, .int .i16 l1, .int .i16 l2, .int .i16 l3, .int .i16 l4, .int .i16 l5] ∧ Box w' x3 (fcs l0 l1 l2 l3 l4 l5 i)) (fun i => 3 - i) 0 ⟨rfl, by omega, h, X1, X3⟩ ?_
  rintro i ⟨s1, _⟩ w3 ⟨hi, hi3, h, X1, X3⟩ again hag _
  have hi' : s1 = (i : Int) := hi
  subst hi'
  refine br_dec (fun e1 => ?_) (fun e1 => ?_)
  · dsimp only at e1
    refine join_in ?_
    refine z_i64 (by dsimp only; omega) (z_i64 (by dsimp only; omega) ?_)
    -- the numbers of this round
    obtain ⟨n, d, hn, hd, c1, c2, c3⟩ : ∃ n d : Int, I16 n ∧ I16 d ∧ ([.int .i16 l0, .int .i16 l1, .int .i16 l2, .int .i16 l3, .int .i16 l4, .int .i16 l5] : List Value)[2 * i]? = some (.int .i16 n) ∧ ([.int .i16 l0, .int .i16 l1, .int .i16 l2, .int .i16 l3, .int .i16 l4, .int .i16 l5] : List Value)[2 * i + 1]? = some (.int .i16 d) ∧
        putAt (fcs l0 l1 l2 l3 l4 l5 i) (i * 2) [.int .i64 (rq n d).num, .int .i64 ((rq n d).den : Nat)] = fcs l0 l1 l2 l3 l4 l5 (i + 1) := by
      have : i = 0 ∨ i = 1 ∨ i = 2 := by omega
      rcases this with rfl | rfl | rfl
      · exact ⟨l0, l1, a0, a1, rfl, rfl, rfl⟩
      · exact ⟨l2, l3, a2, a3, rfl, rfl, rfl⟩
      · exact ⟨l4, l5, a4, a5, rfl, rfl, rfl⟩
    have hb := rq_bd hn hd
    have hf := hb.fits (by omega) (by omega)
    have hin := one1_in hd
    refine idx_arr (j := 2 * i + 1) tyAI (by dsimp only; omega) (by omega) ?_
    rw [Nat.mul_one]
    refine rd_box (by kernel_rfl) X1 c2 rfl ?_
    refine z_i64 (by omega) ?_
    refine join_mk (fun s w4 => s.1 = one1 d ∧ w4 = w3) (fun K hK => ?_) ?_
    · refine br_eq (fun e2 => hK _ _ ⟨?_, rfl⟩) (fun e2 => hK _ _ ⟨?_, rfl⟩)
      · unfold one1; rw [if_pos e2]
      · unfold one1; rw [if_neg e2]
    rintro ⟨s2, _⟩ w4 ⟨hs2, rfl⟩ _
    have hs2' : s2 = one1 d := hs2
    subst hs2'
    refine z_i64 (by dsimp only; omega) ?_
    refine idx_arr (j := 2 * i) tyAI (by dsimp only; omega) (by omega) ?_
    rw [Nat.mul_one]
    refine rd_box (by kernel_rfl) X1 c1 rfl ?_
    refine z_i64 (by omega) ?_
    refine call_mono (ofQ w4 ⟨by omega, by omega⟩ ⟨by dsimp only; omega, by dsimp only; omega⟩ (one1_ne d) hf) ?_
    rintro (x : FE) w5 ⟨rfl, h'⟩
    replace h := h.trans h'; replace X1 := X1.up h'; replace X3 := X3.up h'; clear h'
    refine boxF fun x26 w6 h' Z _ => ?_
    replace h := h.trans h'; replace X1 := X1.up h'; replace X3 := X3.up h'; clear h'
    refine br_no ?_
    refine rd_boxN Z (by kernel_rfl) rfl ?_
    obtain ⟨q1, q2⟩ := i64_fits hf
    refine call_mono (callB (valid10 _ _ w6 q1.1 q1.2 q2.1 q2.2)) ?_
    rintro x w7 ⟨rfl, h'⟩
    replace h := h.trans h'; replace X1 := X1.up h'; replace X3 := X3.up h'; replace Z := Z.up h'; clear h'
    refine br_f (show (!decide (IsFrac (rq n d).num ((rq n d).den : Nat))) = false by rw [decide_eq_true (frac_fits hf)]; rfl) ?_
    refine rd_boxN Z (by kernel_rfl) rfl ?_
    refine idx_arr tyAF rfl (by omega) ?_
    refine wu_boxm X3 (by kernel_rfl) ?_ rfl fun w8 X3 hg _ => ?_
    · have : (fcs l0 l1 l2 l3 l4 l5 i).length = 6 := by unfold fcs; split <;> rfl
      rw [this]; show i * 2 + 2 ≤ 6; omega
    have X3' : Box w8 x3 (fcs l0 l1 l2 l3 l4 l5 (i + 1)) := by rw [← c3]; exact X3
    intro _
    refine z_i64 (by dsimp only; omega) ?_
    exact hag (i + 1) _ _ ⟨by dsimp only; omega, by omega, h.grownAt hg hne, X1.grown hg n13, X3'⟩ (by omega)
  have hi3' : i = 3 := by dsimp only at e1; omega
  subst hi3'
  obtain ⟨a, ha⟩ : ∃ a, a = rq l0 l1 := ⟨_, rfl⟩
  obtain ⟨b, hb⟩ : ∃ b, b = rq l2 l3 := ⟨_, rfl⟩
  obtain ⟨c, hc⟩ : ∃ c, c = rq l4 l5 := ⟨_, rfl⟩
  have ba : Bd 32768 32768 a := by rw [ha]; exact rq_bd a0 a1
  have bb : Bd 32768 32768 b := by rw [hb]; exact rq_bd a2 a3
  have bc : Bd 32768 32768 c := by rw [hc]; exact rq_bd a4 a5
  have X : Box w3 x3 [.int .i64 a.num, .int .i64 (a.den : Nat), .int .i64 b.num, .int .i64 (b.den : Nat), .int .i64 c.num, .int .i64 (c.den : Nat)] := by
    rw [ha, hb, hc]; exact X3
  clear X3 ha hb hc hag e1
  have fa := ba.fits (by omega) (by omega)
  have fb := bb.fits (by omega) (by omega)
  have fc := bc.fits (by omega) (by omega)
  have bab := ba.add bb
  have fab := bab.fits (by omega) (by omega)
  have bl := bab.mul bc
  have fl := bl.fits (by omega) (by omega)
  have bac := ba.mul bc
  have fac := bac.fits (by omega) (by omega)
  have bbc := bb.mul bc
  have fbc := bbc.fits (by omega) (by omega)
  have el : a * c + b * c = (a + b) * c := (Rat.add_mul a b c).symm
  refine rd_el X rfl rfl (j := 0) (by omega) rfl ?_
  refine rd_el X rfl rfl (j := 1) (by omega) rfl ?_
  refine call_mono (addQ w3 fa fb fab) ?_
  rintro (x : FE) w4 ⟨rfl, h'⟩
  replace h := h.trans h'; replace X := X.up h'; clear h'
  refine boxF fun x41 w5 h' Y _ => ?_
  replace h := h.trans h'; replace X := X.up h'; clear h'
  refine rd_boxN Y (by kernel_rfl) rfl ?_
  refine rd_el X rfl rfl (j := 2) (by omega) rfl ?_
  refine call_mono (mulQ w5 fab fc fl) ?_
  rintro (x : FE) w6 ⟨rfl, h'⟩
  replace h := h.trans h'; replace X := X.up h'; replace Y := Y.up h'; clear h'
  refine boxF fun x49 w7 h' L _ => ?_
  replace h := h.trans h'; replace X := X.up h'; replace Y := Y.up h'; clear h'
  refine rd_el X rfl rfl (j := 0) (by omega) rfl ?_
  refine rd_el X rfl rfl (j := 2) (by omega) rfl ?_
  refine call_mono (mulQ w7 fa fc fac) ?_
  rintro (x : FE) w8 ⟨rfl, h'⟩
  replace h := h.trans h'; replace X := X.up h'; replace Y := Y.up h'; replace L := L.up h'; clear h'
  refine boxF fun x58 w9 h' A _ => ?_
  replace h := h.trans h'; replace X := X.up h'; replace Y := Y.up h'; replace L := L.up h'; clear h'
  refine rd_el X rfl rfl (j := 1) (by omega) rfl ?_
  refine rd_el X rfl rfl (j := 2) (by omega) rfl ?_
  refine call_mono (mulQ w9 fb fc fbc) ?_
  rintro (x : FE) w10 ⟨rfl, h'⟩
  replace h := h.trans h'; replace X := X.up h'; replace Y := Y.up h'; replace L := L.up h'; replace A := A.up h'; clear h'
  refine boxF fun x67 w11 h' C _ => ?_
  replace h := h.trans h'; replace X := X.up h'; replace Y := Y.up h'; replace L := L.up h'; replace A := A.up h'; clear h'
  refine rd_boxN A (by kernel_rfl) rfl ?_
  refine rd_boxN C (by kernel_rfl) rfl ?_
  refine call_mono (addQ w11 fac fbc (by rw [el]; exact fl)) ?_
  rintro (x : FE) w12 ⟨rfl, h'⟩
  rw [el]
  replace h := h.trans h'; replace X := X.up h'; replace Y := Y.up h'; replace L := L.up h'; clear h'
  refine boxF fun x74 w13 h' D _ => ?_
  replace h := h.trans h'; replace X := X.up h'; replace Y := Y.up h'; replace L := L.up h'; clear h'
  refine join_mk (fun _ w14 => bel w w14 ∧ Box w14 x3 [.int .i64 a.num, .int .i64 (a.den : Nat), .int .i64 b.num, .int .i64 (b.den : Nat), .int .i64 c.num, .int .i64 (c.den : Nat)] ∧ Box w14 x41 [.int .i64 (a + b).num, .int .i64 ((a + b).den : Nat)]) (fun K hK => ?_) ?_
  · refine br_t rfl ?_
    refine rd_boxN L (by kernel_rfl) rfl ?_
    refine rd_boxN D (by kernel_rfl) rfl ?_
    exact rd_ne_same (br_f rfl (hK _ _ ⟨h, X, Y⟩))
  rintro _ w14 ⟨h, X, Y⟩ _
  have eb : a + b + -b = a := by rw [Rat.add_assoc, Rat.add_neg_cancel, Rat.add_zero]
  refine rd_boxN Y (by kernel_rfl) rfl ?_
  refine rd_el X rfl rfl (j := 1) (by omega) rfl ?_
  refine call_mono (subQ w14 fab fb (by rw [eb]; exact fa)) ?_
  rintro (x : FE) w15 ⟨rfl, h'⟩
  rw [eb]
  replace h := h.trans h'; replace X := X.up h'; clear h'
  refine boxF fun x85 w16 h' E _ => ?_
  replace h := h.trans h'; replace X := X.up h'; clear h'
  refine br_no ?_
  refine rd_boxN E (by kernel_rfl) rfl ?_
  refine rd_el X rfl rfl (j := 0) (by omega) rfl ?_
  refine rd_ne_same (br_f rfl ?_)
  refine rd_el X rfl rfl (j := 0) (by omega) rfl ?_
  refine rd_el X rfl rfl (j := 1) (by omega) rfl ?_
  by_cases h0 : b.num = 0
  · refine call_mono (divQ0 w16 fa fb h0) ?_
    rintro (x : FE) w17 ⟨rfl, h'⟩
    replace h := h.trans h'; replace X := X.up h'; clear h'
    refine boxF fun x98 w18 h' G _ => ?_
    replace h := h.trans h'; replace X := X.up h'; clear h'
    refine idx_arr (j := 1) tyAF rfl (by omega) ?_
    refine rd_box (by kernel_rfl) X rfl rfl ?_
    refine br_t (by rw [h0]; rfl) ?_
    exact ⟨rfl, h⟩
  · have bq := ba.quo bb h0
    have fq := bq.fits (by omega) (by omega)
    have h0' : b ≠ 0 := fun e => h0 (by rw [e]; rfl)
    have em : a / b * b = a := Rat.div_mul_cancel h0'
    refine call_mono (divQ w16 fa fb h0 fq) ?_
    rintro (x : FE) w17 ⟨rfl, h'⟩
    replace h := h.trans h'; replace X := X.up h'; clear h'
    refine boxF fun x98 w18 h' G _ => ?_
    replace h := h.trans h'; replace X := X.up h'; clear h'
    refine idx_arr (j := 1) tyAF rfl (by omega) ?_
    refine rd_box (by kernel_rfl) X rfl rfl ?_
    refine br_f (by simpa using h0) ?_
    refine rd_boxN G (by kernel_rfl) rfl ?_
    refine rd_el X rfl rfl (j := 1) (by omega) rfl ?_
    refine call_mono (mulQ w18 fq fb (by rw [em]; exact fa)) ?_
    rintro (x : FE) w19 ⟨rfl, h'⟩
    rw [em]
    replace h := h.trans h'; replace X := X.up h'; clear h'
    refine boxF fun x108 w20 h' M _ => ?_
    replace h := h.trans h'; replace X := X.up h'; clear h'
    refine br_t rfl (br_t rfl ?_)
    refine rd_boxN M (by kernel_rfl) rfl ?_
    refine rd_el X rfl rfl (j := 0) (by omega) rfl ?_
    exact rd_eq_same ⟨rfl, h⟩

set_option maxRecDepth 100000 in
theorem argField {w : World} {v : Value} (h : Go.Q.Arg Try.prog w 36 v) : ∃ l0 l1 l2 l3 l4 l5 : Int, v = .agg #[.int .i16 l0, .int .i16 l1, .int .i16 l2, .int .i16 l3, .int .i16 l4, .int .i16 l5] ∧ I16 l0 ∧ I16 l1 ∧ I16 l2 ∧ I16 l3 ∧ I16 l4 ∧ I16 l5 := by
  obtain ⟨cs, rfl, hsz, h⟩ := Go.V.Arg.array Try.underlying36 h
  have hsz' : cs.size = 6 := by rw [hsz]; kernel_rfl
  have hc : Try.prog.cellsOf 35 = 1 := by kernel_rfl
  rw [hc] at h
  obtain ⟨l⟩ := cs
  have e : ∀ i v, i < 6 → l[i]? = some v → ∃ n : Int, v = .int .i16 n ∧ I16 n := by
    intro i v hi hv
    have h1 := h i hi
    have h2 : ((l.drop (i * 1)).take 1) = [v] := by
      rw [Nat.mul_one]
      obtain ⟨q, rfl⟩ := List.getElem?_eq_some_iff.1 hv
      rw [List.drop_eq_getElem_cons q]; rfl
    dsimp only at h1
    rw [h2] at h1
    obtain ⟨n, hn, hw⟩ := Go.Q.Read.int Try.underlying35 h1
    cases hn
    exact ⟨n, rfl, bounds_i16 hw⟩
  rcases l with _ | ⟨x0, _ | ⟨x1, _ | ⟨x2, _ | ⟨x3, _ | ⟨x4, _ | ⟨x5, _ | ⟨x6, l⟩⟩⟩⟩⟩⟩⟩ <;> simp at hsz'
  obtain ⟨l0, rfl, b0⟩ := e 0 x0 (by omega) rfl
  obtain ⟨l1, rfl, b1⟩ := e 1 x1 (by omega) rfl
  obtain ⟨l2, rfl, b2⟩ := e 2 x2 (by omega) rfl
  obtain ⟨l3, rfl, b3⟩ := e 3 x3 (by omega) rfl
  obtain ⟨l4, rfl, b4⟩ := e 4 x4 (by omega) rfl
  obtain ⟨l5, rfl, b5⟩ := e 5 x5 (by omega) rfl
  exact ⟨l0, l1, l2, l3, l4, l5, rfl, b0, b1, b2, b3, b4, b5⟩
end Go.Proofs.Ytajpdnphamomjaa
