import Derived.KernelRfl
import Derived.Test.YtinmlgolbikoeaaPackFractionLimits2

/- The conditions of functions, printed by our tool; each is checked against the code by the kernel. -/



namespace Go.Proofs
open Go Go.V Go.RowKit
/-- querylab/querylablaw10.FractionExact -/
def S4 (a_0 : Int) (a_1 : Int) (b_0 : Int) (b_1 : Int) (w0 : World) (R : Value → World → Prop) : Prop :=
 wr Try.prog (Instr.box 23 (.agg #[(.int .i64 a_0), (.int .i64 a_1)])) (.one .addr) w0 fun (x1 : Addr) (w2 : World) =>
 wr Try.prog (Instr.box 23 (.agg #[(.int .i64 b_0), (.int .i64 b_1)])) (.one .addr) w2 fun (x3 : Addr) (w4 : World) =>
 rd Try.prog (Instr.loadAt 23 (.pointer (some x1))) (.agg [(.int .i64), (.int .i64)]) w4 fun (x5 : (Int × Int × Unit)) =>
 rd Try.prog (Instr.loadAt 23 (.pointer (some x3))) (.agg [(.int .i64), (.int .i64)]) w4 fun (x6 : (Int × Int × Unit)) =>
 call Try.prog 10 [(.agg #[(.int .i64 x5.1), (.int .i64 x5.2.1)]), (.agg #[(.int .i64 x6.1), (.int .i64 x6.2.1)])] (.many [(.agg [(.int .i64), (.int .i64)]), (.one (.int .i64))]) w4 fun (x7 : ((Int × Int × Unit) × Int × Unit)) (w8 : World) =>
 wr Try.prog (Instr.alloc 23 true (.tuple #[])) (.one .addr) w8 fun (x9 : Addr) (w10 : World) =>
 wu Try.prog (Instr.storeAt 23 (.pointer (some x9)) (.agg #[(.int .i64 x7.1.1), (.int .i64 x7.1.2.1)])) w10 fun (w11 : World) =>
 rd Try.prog (Instr.loadAt 23 (.pointer (some x1))) (.agg [(.int .i64), (.int .i64)]) w11 fun (x12 : (Int × Int × Unit)) =>
 rd Try.prog (Instr.loadAt 23 (.pointer (some x3))) (.agg [(.int .i64), (.int .i64)]) w11 fun (x13 : (Int × Int × Unit)) =>
 call Try.prog 11 [(.agg #[(.int .i64 x12.1), (.int .i64 x12.2.1)]), (.agg #[(.int .i64 x13.1), (.int .i64 x13.2.1)])] (.many [(.agg [(.int .i64), (.int .i64)]), (.one (.int .i64))]) w11 fun (x14 : ((Int × Int × Unit) × Int × Unit)) (w15 : World) =>
 wr Try.prog (Instr.alloc 23 true (.tuple #[])) (.one .addr) w15 fun (x16 : Addr) (w17 : World) =>
 wu Try.prog (Instr.storeAt 23 (.pointer (some x16)) (.agg #[(.int .i64 x14.1.1), (.int .i64 x14.1.2.1)])) w17 fun (w18 : World) =>
 drw w18 fun w19 => flEx fun F20 =>
 rd Try.prog (Instr.loadAt 23 (.pointer (some x9))) (.agg [(.int .i64), (.int .i64)]) w19 fun (x21 : (Int × Int × Unit)) =>
 rd Try.prog (Instr.loadAt 23 (.pointer (some x16))) (.agg [(.int .i64), (.int .i64)]) w19 fun (x22 : (Int × Int × Unit)) =>
 rd Try.prog (cmpS .neq 23 (.tmp 21) (.tmp 22) (.agg #[(.int .i64 x21.1), (.int .i64 x21.2.1)]) (.agg #[(.int .i64 x22.1), (.int .i64 x22.2.1)])) (.one .bool) w19 fun (x23 : Bool) =>
 br x23 (R (.bool false) w19)
 (br (x7.2.1 != x14.2.1) (R (.bool false) w19)
 (rd Try.prog (Instr.loadAt 23 (.pointer (some x1))) (.agg [(.int .i64), (.int .i64)]) w19 fun (x24 : (Int × Int × Unit)) =>
 flc bel w19 (fun _w26 => True) (fun (w25 : World) =>
   call Try.prog 12 [(.agg #[(.int .i64 x24.1), (.int .i64 x24.2.1)])] (.one (.one .bool)) w25 fun (x27 : Bool) (w28 : World) =>
 (bel w25 w28 ∧ F20 10 [(.agg #[(.int .i64 x24.1), (.int .i64 x24.2.1)])] (.bool x27) w28))
  fun (x29 : Bool) =>
 rd Try.prog (Instr.loadAt 23 (.pointer (some x1))) (.agg [(.int .i64), (.int .i64)]) w19 fun (x30 : (Int × Int × Unit)) =>
 flend bel w19 (fun w32 => F20 10 [(.agg #[(.int .i64 x24.1), (.int .i64 x24.2.1)])] (.bool x29) w32 ∧ True) fun w31 =>
 call Try.prog 7 [(.agg #[(.int .i64 x30.1), (.int .i64 x30.2.1)])] (.one (.one .bool)) w31 fun (x33 : Bool) (w34 : World) =>
 br (!(x29 == x33)) (R (.bool false) w34)
 (rd Try.prog (Instr.loadAt 23 (.pointer (some x1))) (.agg [(.int .i64), (.int .i64)]) w34 fun (x35 : (Int × Int × Unit)) =>
 rd Try.prog (Instr.loadAt 23 (.pointer (some x3))) (.agg [(.int .i64), (.int .i64)]) w34 fun (x36 : (Int × Int × Unit)) =>
 call Try.prog 13 [(.agg #[(.int .i64 x35.1), (.int .i64 x35.2.1)]), (.agg #[(.int .i64 x36.1), (.int .i64 x36.2.1)])] (.many [(.agg [(.int .i64), (.int .i64)]), (.one (.int .i64))]) w34 fun (x37 : ((Int × Int × Unit) × Int × Unit)) (w38 : World) =>
 wu Try.prog (Instr.storeAt 23 (.pointer (some x9)) (.agg #[(.int .i64 x37.1.1), (.int .i64 x37.1.2.1)])) w38 fun (w39 : World) =>
 rd Try.prog (Instr.loadAt 23 (.pointer (some x1))) (.agg [(.int .i64), (.int .i64)]) w39 fun (x40 : (Int × Int × Unit)) =>
 rd Try.prog (Instr.loadAt 23 (.pointer (some x3))) (.agg [(.int .i64), (.int .i64)]) w39 fun (x41 : (Int × Int × Unit)) =>
 call Try.prog 14 [(.agg #[(.int .i64 x40.1), (.int .i64 x40.2.1)]), (.agg #[(.int .i64 x41.1), (.int .i64 x41.2.1)])] (.many [(.agg [(.int .i64), (.int .i64)]), (.one (.int .i64))]) w39 fun (x42 : ((Int × Int × Unit) × Int × Unit)) (w43 : World) =>
 wu Try.prog (Instr.storeAt 23 (.pointer (some x16)) (.agg #[(.int .i64 x42.1.1), (.int .i64 x42.1.2.1)])) w43 fun (w44 : World) =>
 rd Try.prog (Instr.loadAt 23 (.pointer (some x9))) (.agg [(.int .i64), (.int .i64)]) w44 fun (x45 : (Int × Int × Unit)) =>
 rd Try.prog (Instr.loadAt 23 (.pointer (some x16))) (.agg [(.int .i64), (.int .i64)]) w44 fun (x46 : (Int × Int × Unit)) =>
 rd Try.prog (cmpS .neq 23 (.tmp 48) (.tmp 49) (.agg #[(.int .i64 x45.1), (.int .i64 x45.2.1)]) (.agg #[(.int .i64 x46.1), (.int .i64 x46.2.1)])) (.one .bool) w44 fun (x47 : Bool) =>
 br x47 (R (.bool false) w44)
 (br (x37.2.1 != x42.2.1) (R (.bool false) w44)
 (rd Try.prog (Instr.loadAt 23 (.pointer (some x1))) (.agg [(.int .i64), (.int .i64)]) w44 fun (x48 : (Int × Int × Unit)) =>
 rd Try.prog (Instr.loadAt 23 (.pointer (some x3))) (.agg [(.int .i64), (.int .i64)]) w44 fun (x49 : (Int × Int × Unit)) =>
 call Try.prog 15 [(.agg #[(.int .i64 x48.1), (.int .i64 x48.2.1)]), (.agg #[(.int .i64 x49.1), (.int .i64 x49.2.1)])] (.many [(.agg [(.int .i64), (.int .i64)]), (.one (.int .i64))]) w44 fun (x50 : ((Int × Int × Unit) × Int × Unit)) (w51 : World) =>
 wu Try.prog (Instr.storeAt 23 (.pointer (some x9)) (.agg #[(.int .i64 x50.1.1), (.int .i64 x50.1.2.1)])) w51 fun (w52 : World) =>
 rd Try.prog (Instr.loadAt 23 (.pointer (some x1))) (.agg [(.int .i64), (.int .i64)]) w52 fun (x53 : (Int × Int × Unit)) =>
 rd Try.prog (Instr.loadAt 23 (.pointer (some x3))) (.agg [(.int .i64), (.int .i64)]) w52 fun (x54 : (Int × Int × Unit)) =>
 call Try.prog 16 [(.agg #[(.int .i64 x53.1), (.int .i64 x53.2.1)]), (.agg #[(.int .i64 x54.1), (.int .i64 x54.2.1)])] (.many [(.agg [(.int .i64), (.int .i64)]), (.one (.int .i64))]) w52 fun (x55 : ((Int × Int × Unit) × Int × Unit)) (w56 : World) =>
 wu Try.prog (Instr.storeAt 23 (.pointer (some x16)) (.agg #[(.int .i64 x55.1.1), (.int .i64 x55.1.2.1)])) w56 fun (w57 : World) =>
 rd Try.prog (Instr.loadAt 23 (.pointer (some x9))) (.agg [(.int .i64), (.int .i64)]) w57 fun (x58 : (Int × Int × Unit)) =>
 rd Try.prog (Instr.loadAt 23 (.pointer (some x16))) (.agg [(.int .i64), (.int .i64)]) w57 fun (x59 : (Int × Int × Unit)) =>
 rd Try.prog (cmpS .neq 23 (.tmp 68) (.tmp 69) (.agg #[(.int .i64 x58.1), (.int .i64 x58.2.1)]) (.agg #[(.int .i64 x59.1), (.int .i64 x59.2.1)])) (.one .bool) w57 fun (x60 : Bool) =>
 br x60 (R (.bool false) w57)
 (br (x50.2.1 != x55.2.1) (R (.bool false) w57)
 (rd Try.prog (Instr.loadAt 23 (.pointer (some x1))) (.agg [(.int .i64), (.int .i64)]) w57 fun (x61 : (Int × Int × Unit)) =>
 rd Try.prog (Instr.loadAt 23 (.pointer (some x3))) (.agg [(.int .i64), (.int .i64)]) w57 fun (x62 : (Int × Int × Unit)) =>
 call Try.prog 17 [(.agg #[(.int .i64 x61.1), (.int .i64 x61.2.1)]), (.agg #[(.int .i64 x62.1), (.int .i64 x62.2.1)])] (.many [(.agg [(.int .i64), (.int .i64)]), (.one (.int .i64))]) w57 fun (x63 : ((Int × Int × Unit) × Int × Unit)) (w64 : World) =>
 wu Try.prog (Instr.storeAt 23 (.pointer (some x9)) (.agg #[(.int .i64 x63.1.1), (.int .i64 x63.1.2.1)])) w64 fun (w65 : World) =>
 rd Try.prog (Instr.loadAt 23 (.pointer (some x1))) (.agg [(.int .i64), (.int .i64)]) w65 fun (x66 : (Int × Int × Unit)) =>
 rd Try.prog (Instr.loadAt 23 (.pointer (some x3))) (.agg [(.int .i64), (.int .i64)]) w65 fun (x67 : (Int × Int × Unit)) =>
 call Try.prog 18 [(.agg #[(.int .i64 x66.1), (.int .i64 x66.2.1)]), (.agg #[(.int .i64 x67.1), (.int .i64 x67.2.1)])] (.many [(.agg [(.int .i64), (.int .i64)]), (.one (.int .i64))]) w65 fun (x68 : ((Int × Int × Unit) × Int × Unit)) (w69 : World) =>
 wu Try.prog (Instr.storeAt 23 (.pointer (some x16)) (.agg #[(.int .i64 x68.1.1), (.int .i64 x68.1.2.1)])) w69 fun (w70 : World) =>
 rd Try.prog (Instr.loadAt 23 (.pointer (some x9))) (.agg [(.int .i64), (.int .i64)]) w70 fun (x71 : (Int × Int × Unit)) =>
 rd Try.prog (Instr.loadAt 23 (.pointer (some x16))) (.agg [(.int .i64), (.int .i64)]) w70 fun (x72 : (Int × Int × Unit)) =>
 rd Try.prog (cmpS .eql 23 (.tmp 88) (.tmp 89) (.agg #[(.int .i64 x71.1), (.int .i64 x71.2.1)]) (.agg #[(.int .i64 x72.1), (.int .i64 x72.2.1)])) (.one .bool) w70 fun (x73 : Bool) =>
 br x73 (R (.bool (x63.2.1 == x68.2.1)) w70)
 (R (.bool false) w70))))))))
def H4 : Hints := ⟨[], [(3, 12)], [], []⟩
set_option maxRecDepth 100000 in
theorem S4_eq (a_0 : Int) (a_1 : Int) (b_0 : Int) (b_1 : Int) (w0 : World) (R : Value → World → Prop) : vcFn Try.prog H4 Try.f4 [(.agg #[(.int .i64 a_0), (.int .i64 a_1)]), (.agg #[(.int .i64 b_0), (.int .i64 b_1)])] w0 R = S4 a_0 a_1 b_0 b_1 w0 R := by kernel_rfl
theorem S4_calls (a_0 : Int) (a_1 : Int) (b_0 : Int) (b_1 : Int) (w0 : World) (R : Value → World → Prop) (h : S4 a_0 a_1 b_0 b_1 w0 R) : Calls Try.prog 4 #[(.agg #[(.int .i64 a_0), (.int .i64 a_1)]), (.agg #[(.int .i64 b_0), (.int .i64 b_1)])] w0 (ret R) := by
  rw [← S4_eq] at h; exact vcFn_sound follows_ Try.func4 h

/-- querylab/querylablaw10.FractionLimits -/
def S5 (n_ : Int) (m_ : Int) (w0 : World) (R : Value → World → Prop) : Prop :=
 z (IntKind.wrap .i64 n_) fun (z1 : Int) =>
 z (IntKind.wrap .i64 (100000000000000000 - z1)) fun (z2 : Int) =>
 wr Try.prog (Instr.alloc 23 true (.tuple #[])) (.one .addr) w0 fun (x3 : Addr) (w4 : World) =>
 wu Try.prog (Instr.storeAt 23 (.pointer (some x3)) (.agg #[(.int .i64 z2), (.int .i64 1)])) w4 fun (w5 : World) =>
 z (IntKind.wrap .i64 m_) fun (z6 : Int) =>
 z (IntKind.wrap .i64 (100000000000000000 - z6)) fun (z7 : Int) =>
 wr Try.prog (Instr.alloc 23 true (.tuple #[])) (.one .addr) w5 fun (x8 : Addr) (w9 : World) =>
 wu Try.prog (Instr.storeAt 23 (.pointer (some x8)) (.agg #[(.int .i64 1), (.int .i64 z7)])) w9 fun (w10 : World) =>
 rd Try.prog (Instr.loadAt 23 (.pointer (some x3))) (.agg [(.int .i64), (.int .i64)]) w10 fun (x11 : (Int × Int × Unit)) =>
 rd Try.prog (Instr.loadAt 23 (.pointer (some x8))) (.agg [(.int .i64), (.int .i64)]) w10 fun (x12 : (Int × Int × Unit)) =>
 rd Try.prog (Instr.loadAt 2 (.pointer (some x3))) (.one (.int .i64)) w10 fun (x13 : Int) =>
 z (IntKind.wrap .i64 (0 - x13)) fun (z14 : Int) =>
 rd Try.prog (Instr.loadAt 2 (.pointer (some x3))) (.one (.int .i64)) w10 fun (x15 : Int) =>
 wr Try.prog (Instr.buildSlice 33 4 #[(0, (.agg #[(.int .i64 x11.1), (.int .i64 x11.2.1)])), (1, (.agg #[(.int .i64 x12.1), (.int .i64 x12.2.1)])), (2, (.agg #[(.int .i64 z14), (.int .i64 1)])), (3, (.agg #[(.int .i64 1), (.int .i64 x15)]))]) (.one .slice) w10 fun (x16 : (Option Addr × Nat × Nat)) (w17 : World) =>
 loop (T := (Int × Unit)) (0, ()) w17 fun (again18 : (Int × Unit) → World → Prop) (s19 : (Int × Unit)) w20 => ∀ _ : Nat → Value,
 br (decide (s19.1 < ((x16.2.1 : Nat) : Int))) (loop (T := (Int × Unit)) (0, ()) w20 fun (again21 : (Int × Unit) → World → Prop) (s22 : (Int × Unit)) w23 => ∀ _ : Nat → Value,
 br (decide (s22.1 < ((x16.2.1 : Nat) : Int))) (drw w23 fun w24 => flEx fun F25 =>
 rdp Try.prog (Instr.indexAt 33 (.slice x16.1 x16.2.1 x16.2.2) (.int .i64 s19.1)) (.one .addr) fun (x26 : Addr) =>
 rd Try.prog (Instr.loadAt 23 (.pointer (some x26))) (.agg [(.int .i64), (.int .i64)]) w24 fun (x27 : (Int × Int × Unit)) =>
 rdp Try.prog (Instr.indexAt 33 (.slice x16.1 x16.2.1 x16.2.2) (.int .i64 s22.1)) (.one .addr) fun (x28 : Addr) =>
 rd Try.prog (Instr.loadAt 23 (.pointer (some x28))) (.agg [(.int .i64), (.int .i64)]) w24 fun (x29 : (Int × Int × Unit)) =>
 flc bel w24 (fun _w31 => True) (fun (w30 : World) =>
   call Try.prog 15 [(.agg #[(.int .i64 x27.1), (.int .i64 x27.2.1)]), (.agg #[(.int .i64 x29.1), (.int .i64 x29.2.1)])] (.many [(.agg [(.int .i64), (.int .i64)]), (.one (.int .i64))]) w30 fun (x32 : ((Int × Int × Unit) × Int × Unit)) (w33 : World) =>
 (bel w30 w33 ∧ F25 8 [(.agg #[(.int .i64 x27.1), (.int .i64 x27.2.1)]), (.agg #[(.int .i64 x29.1), (.int .i64 x29.2.1)])] (.tuple #[(.agg #[(.int .i64 x32.1.1), (.int .i64 x32.1.2.1)]), (.int .i64 x32.2.1)]) w33))
  fun (x34 : ((Int × Int × Unit) × Int × Unit)) =>
 flc bel w24 (fun _w36 => True) (fun (w35 : World) =>
   wr Try.prog (Instr.alloc 23 true (.tuple #[])) (.one .addr) w35 fun (x37 : Addr) (w38 : World) =>
 (bel w35 w38 ∧ F25 12 [] (.pointer (some x37)) w38))
  fun (x39 : Addr) =>
 flend bel w24 (fun w41 => F25 12 [] (.pointer (some x39)) w41 ∧ F25 8 [(.agg #[(.int .i64 x27.1), (.int .i64 x27.2.1)]), (.agg #[(.int .i64 x29.1), (.int .i64 x29.2.1)])] (.tuple #[(.agg #[(.int .i64 x34.1.1), (.int .i64 x34.1.2.1)]), (.int .i64 x34.2.1)]) w41 ∧ True) fun w40 =>
 wu Try.prog (Instr.storeAt 23 (.pointer (some x39)) (.agg #[(.int .i64 x34.1.1), (.int .i64 x34.1.2.1)])) w40 fun (w42 : World) =>
 drw w42 fun w43 => flEx fun F44 =>
 rdp Try.prog (Instr.indexAt 33 (.slice x16.1 x16.2.1 x16.2.2) (.int .i64 s19.1)) (.one .addr) fun (x45 : Addr) =>
 rd Try.prog (Instr.loadAt 23 (.pointer (some x45))) (.agg [(.int .i64), (.int .i64)]) w43 fun (x46 : (Int × Int × Unit)) =>
 rdp Try.prog (Instr.indexAt 33 (.slice x16.1 x16.2.1 x16.2.2) (.int .i64 s22.1)) (.one .addr) fun (x47 : Addr) =>
 rd Try.prog (Instr.loadAt 23 (.pointer (some x47))) (.agg [(.int .i64), (.int .i64)]) w43 fun (x48 : (Int × Int × Unit)) =>
 flc bel w43 (fun _w50 => True) (fun (w49 : World) =>
   call Try.prog 16 [(.agg #[(.int .i64 x46.1), (.int .i64 x46.2.1)]), (.agg #[(.int .i64 x48.1), (.int .i64 x48.2.1)])] (.many [(.agg [(.int .i64), (.int .i64)]), (.one (.int .i64))]) w49 fun (x51 : ((Int × Int × Unit) × Int × Unit)) (w52 : World) =>
 (bel w49 w52 ∧ F44 8 [(.agg #[(.int .i64 x46.1), (.int .i64 x46.2.1)]), (.agg #[(.int .i64 x48.1), (.int .i64 x48.2.1)])] (.tuple #[(.agg #[(.int .i64 x51.1.1), (.int .i64 x51.1.2.1)]), (.int .i64 x51.2.1)]) w52))
  fun (x53 : ((Int × Int × Unit) × Int × Unit)) =>
 flc bel w43 (fun _w55 => True) (fun (w54 : World) =>
   wr Try.prog (Instr.alloc 23 true (.tuple #[])) (.one .addr) w54 fun (x56 : Addr) (w57 : World) =>
 (bel w54 w57 ∧ F44 12 [] (.pointer (some x56)) w57))
  fun (x58 : Addr) =>
 flend bel w43 (fun w60 => F44 12 [] (.pointer (some x58)) w60 ∧ F44 8 [(.agg #[(.int .i64 x46.1), (.int .i64 x46.2.1)]), (.agg #[(.int .i64 x48.1), (.int .i64 x48.2.1)])] (.tuple #[(.agg #[(.int .i64 x53.1.1), (.int .i64 x53.1.2.1)]), (.int .i64 x53.2.1)]) w60 ∧ True) fun w59 =>
 wu Try.prog (Instr.storeAt 23 (.pointer (some x58)) (.agg #[(.int .i64 x53.1.1), (.int .i64 x53.1.2.1)])) w59 fun (w61 : World) =>
 drw w61 fun w62 => flEx fun F63 =>
 rdp Try.prog (Instr.indexAt 33 (.slice x16.1 x16.2.1 x16.2.2) (.int .i64 s19.1)) (.one .addr) fun (x64 : Addr) =>
 rd Try.prog (Instr.loadAt 23 (.pointer (some x64))) (.agg [(.int .i64), (.int .i64)]) w62 fun (x65 : (Int × Int × Unit)) =>
 rdp Try.prog (Instr.indexAt 33 (.slice x16.1 x16.2.1 x16.2.2) (.int .i64 s22.1)) (.one .addr) fun (x66 : Addr) =>
 rd Try.prog (Instr.loadAt 23 (.pointer (some x66))) (.agg [(.int .i64), (.int .i64)]) w62 fun (x67 : (Int × Int × Unit)) =>
 flc bel w62 (fun _w69 => True) (fun (w68 : World) =>
   call Try.prog 10 [(.agg #[(.int .i64 x65.1), (.int .i64 x65.2.1)]), (.agg #[(.int .i64 x67.1), (.int .i64 x67.2.1)])] (.many [(.agg [(.int .i64), (.int .i64)]), (.one (.int .i64))]) w68 fun (x70 : ((Int × Int × Unit) × Int × Unit)) (w71 : World) =>
 (bel w68 w71 ∧ F63 8 [(.agg #[(.int .i64 x65.1), (.int .i64 x65.2.1)]), (.agg #[(.int .i64 x67.1), (.int .i64 x67.2.1)])] (.tuple #[(.agg #[(.int .i64 x70.1.1), (.int .i64 x70.1.2.1)]), (.int .i64 x70.2.1)]) w71))
  fun (x72 : ((Int × Int × Unit) × Int × Unit)) =>
 flc bel w62 (fun _w74 => True) (fun (w73 : World) =>
   wr Try.prog (Instr.alloc 23 true (.tuple #[])) (.one .addr) w73 fun (x75 : Addr) (w76 : World) =>
 (bel w73 w76 ∧ F63 12 [] (.pointer (some x75)) w76))
  fun (x77 : Addr) =>
 flend bel w62 (fun w79 => F63 12 [] (.pointer (some x77)) w79 ∧ F63 8 [(.agg #[(.int .i64 x65.1), (.int .i64 x65.2.1)]), (.agg #[(.int .i64 x67.1), (.int .i64 x67.2.1)])] (.tuple #[(.agg #[(.int .i64 x72.1.1), (.int .i64 x72.1.2.1)]), (.int .i64 x72.2.1)]) w79 ∧ True) fun w78 =>
 wu Try.prog (Instr.storeAt 23 (.pointer (some x77)) (.agg #[(.int .i64 x72.1.1), (.int .i64 x72.1.2.1)])) w78 fun (w80 : World) =>
 drw w80 fun w81 => flEx fun F82 =>
 rdp Try.prog (Instr.indexAt 33 (.slice x16.1 x16.2.1 x16.2.2) (.int .i64 s19.1)) (.one .addr) fun (x83 : Addr) =>
 rd Try.prog (Instr.loadAt 23 (.pointer (some x83))) (.agg [(.int .i64), (.int .i64)]) w81 fun (x84 : (Int × Int × Unit)) =>
 rdp Try.prog (Instr.indexAt 33 (.slice x16.1 x16.2.1 x16.2.2) (.int .i64 s22.1)) (.one .addr) fun (x85 : Addr) =>
 rd Try.prog (Instr.loadAt 23 (.pointer (some x85))) (.agg [(.int .i64), (.int .i64)]) w81 fun (x86 : (Int × Int × Unit)) =>
 flc bel w81 (fun _w88 => True) (fun (w87 : World) =>
   call Try.prog 11 [(.agg #[(.int .i64 x84.1), (.int .i64 x84.2.1)]), (.agg #[(.int .i64 x86.1), (.int .i64 x86.2.1)])] (.many [(.agg [(.int .i64), (.int .i64)]), (.one (.int .i64))]) w87 fun (x89 : ((Int × Int × Unit) × Int × Unit)) (w90 : World) =>
 (bel w87 w90 ∧ F82 8 [(.agg #[(.int .i64 x84.1), (.int .i64 x84.2.1)]), (.agg #[(.int .i64 x86.1), (.int .i64 x86.2.1)])] (.tuple #[(.agg #[(.int .i64 x89.1.1), (.int .i64 x89.1.2.1)]), (.int .i64 x89.2.1)]) w90))
  fun (x91 : ((Int × Int × Unit) × Int × Unit)) =>
 flc bel w81 (fun _w93 => True) (fun (w92 : World) =>
   wr Try.prog (Instr.alloc 23 true (.tuple #[])) (.one .addr) w92 fun (x94 : Addr) (w95 : World) =>
 (bel w92 w95 ∧ F82 12 [] (.pointer (some x94)) w95))
  fun (x96 : Addr) =>
 flend bel w81 (fun w98 => F82 12 [] (.pointer (some x96)) w98 ∧ F82 8 [(.agg #[(.int .i64 x84.1), (.int .i64 x84.2.1)]), (.agg #[(.int .i64 x86.1), (.int .i64 x86.2.1)])] (.tuple #[(.agg #[(.int .i64 x91.1.1), (.int .i64 x91.1.2.1)]), (.int .i64 x91.2.1)]) w98 ∧ True) fun w97 =>
 wu Try.prog (Instr.storeAt 23 (.pointer (some x96)) (.agg #[(.int .i64 x91.1.1), (.int .i64 x91.1.2.1)])) w97 fun (w99 : World) =>
 drw w99 fun w100 => flEx fun F101 =>
 rd Try.prog (Instr.loadAt 23 (.pointer (some x39))) (.agg [(.int .i64), (.int .i64)]) w100 fun (x102 : (Int × Int × Unit)) =>
 rd Try.prog (Instr.loadAt 23 (.pointer (some x58))) (.agg [(.int .i64), (.int .i64)]) w100 fun (x103 : (Int × Int × Unit)) =>
 rd Try.prog (cmpS .neq 23 (.tmp 96) (.tmp 97) (.agg #[(.int .i64 x102.1), (.int .i64 x102.2.1)]) (.agg #[(.int .i64 x103.1), (.int .i64 x103.2.1)])) (.one .bool) w100 fun (x104 : Bool) =>
 br x104 (R (.bool false) w100)
 (br (x34.2.1 != x53.2.1) (R (.bool false) w100)
 (rd Try.prog (Instr.loadAt 23 (.pointer (some x77))) (.agg [(.int .i64), (.int .i64)]) w100 fun (x105 : (Int × Int × Unit)) =>
 rd Try.prog (Instr.loadAt 23 (.pointer (some x96))) (.agg [(.int .i64), (.int .i64)]) w100 fun (x106 : (Int × Int × Unit)) =>
 rd Try.prog (cmpS .neq 23 (.tmp 105) (.tmp 106) (.agg #[(.int .i64 x105.1), (.int .i64 x105.2.1)]) (.agg #[(.int .i64 x106.1), (.int .i64 x106.2.1)])) (.one .bool) w100 fun (x107 : Bool) =>
 br x107 (R (.bool false) w100)
 (br (x72.2.1 != x91.2.1) (R (.bool false) w100)
 (rdp Try.prog (Instr.indexAt 33 (.slice x16.1 x16.2.1 x16.2.2) (.int .i64 s19.1)) (.one .addr) fun (x108 : Addr) =>
 rd Try.prog (Instr.loadAt 23 (.pointer (some x108))) (.agg [(.int .i64), (.int .i64)]) w100 fun (x109 : (Int × Int × Unit)) =>
 rdp Try.prog (Instr.indexAt 33 (.slice x16.1 x16.2.1 x16.2.2) (.int .i64 s22.1)) (.one .addr) fun (x110 : Addr) =>
 rd Try.prog (Instr.loadAt 23 (.pointer (some x110))) (.agg [(.int .i64), (.int .i64)]) w100 fun (x111 : (Int × Int × Unit)) =>
 flc bel w100 (fun _w113 => True) (fun (w112 : World) =>
   call Try.prog 8 [(.agg #[(.int .i64 x109.1), (.int .i64 x109.2.1)]), (.agg #[(.int .i64 x111.1), (.int .i64 x111.2.1)])] (.one (.one (.int .i64))) w112 fun (x114 : Int) (w115 : World) =>
 (bel w112 w115 ∧ F101 27 [(.agg #[(.int .i64 x109.1), (.int .i64 x109.2.1)]), (.agg #[(.int .i64 x111.1), (.int .i64 x111.2.1)])] (.int .i64 x114) w115))
  fun (x116 : Int) =>
 rdp Try.prog (Instr.indexAt 33 (.slice x16.1 x16.2.1 x16.2.2) (.int .i64 s19.1)) (.one .addr) fun (x117 : Addr) =>
 rd Try.prog (Instr.loadAt 23 (.pointer (some x117))) (.agg [(.int .i64), (.int .i64)]) w100 fun (x118 : (Int × Int × Unit)) =>
 rdp Try.prog (Instr.indexAt 33 (.slice x16.1 x16.2.1 x16.2.2) (.int .i64 s22.1)) (.one .addr) fun (x119 : Addr) =>
 rd Try.prog (Instr.loadAt 23 (.pointer (some x119))) (.agg [(.int .i64), (.int .i64)]) w100 fun (x120 : (Int × Int × Unit)) =>
 flend bel w100 (fun w122 => F101 27 [(.agg #[(.int .i64 x109.1), (.int .i64 x109.2.1)]), (.agg #[(.int .i64 x111.1), (.int .i64 x111.2.1)])] (.int .i64 x116) w122 ∧ True) fun w121 =>
 call Try.prog 19 [(.agg #[(.int .i64 x118.1), (.int .i64 x118.2.1)]), (.agg #[(.int .i64 x120.1), (.int .i64 x120.2.1)])] (.one (.one (.int .i64))) w121 fun (x123 : Int) (w124 : World) =>
 br (x116 != x123) (R (.bool false) w124)
 (z (IntKind.wrap .i64 (s22.1 + 1)) fun (z125 : Int) =>
 again21 (z125, ()) w124))))))
 (z (IntKind.wrap .i64 (s19.1 + 1)) fun (z126 : Int) =>
 again18 (z126, ()) w23))
 (R (.bool true) w20)
def H5 : Hints := ⟨[(2, 0, [(8, (.one (.int .i64)))]), (2, 2, [(9, (.one (.int .i64)))])], [(10, 13), (11, 13), (12, 13), (13, 13), (14, 36)], [], []⟩
set_option maxRecDepth 100000 in
theorem S5_eq (n_ : Int) (m_ : Int) (w0 : World) (R : Value → World → Prop) : vcFn Try.prog H5 Try.f5 [(.int .u32 n_), (.int .u32 m_)] w0 R = S5 n_ m_ w0 R := by kernel_rfl
theorem S5_calls (n_ : Int) (m_ : Int) (w0 : World) (R : Value → World → Prop) (h : S5 n_ m_ w0 R) : Calls Try.prog 5 #[(.int .u32 n_), (.int .u32 m_)] w0 (ret R) := by
  rw [← S5_eq] at h; exact vcFn_sound follows_ Try.func5 h

end Go.Proofs

/- The walk of FractionExact. -/


namespace Go.Proofs.Ytinmlgolbikoeaa
open Go.RowKit Go.Q Go.Q.Num Go.V

theorem rd_ne_same {n d : Int} {x y : Operand} {w : World} {K : Bool → Prop} (hk : K false) : rd Try.prog (cmpS .neq 23 x y (.agg #[.int .i64 n, .int .i64 d]) (.agg #[.int .i64 n, .int .i64 d])) (.one .bool) w K := by
  refine ⟨false, fun w' _ => ?_, hk⟩
  have := run_neStruct (P := Try.prog) (t := 23) (k := .i64) (a := x) (b := y) (xs := [n, d]) (ys := [n, d]) (w := w') (by kernel_rfl) (by kernel_rfl) (by kernel_rfl) (by kernel_rfl) (by kernel_rfl) (by kernel_rfl)
  simp [eqInts] at this
  exact this
theorem rd_eq_same {n d : Int} {x y : Operand} {w : World} {K : Bool → Prop} (hk : K true) : rd Try.prog (cmpS .eql 23 x y (.agg #[.int .i64 n, .int .i64 d]) (.agg #[.int .i64 n, .int .i64 d])) (.one .bool) w K := by
  refine ⟨true, fun w' _ => ?_, hk⟩
  have := run_eqStruct (P := Try.prog) (t := 23) (k := .i64) (a := x) (b := y) (xs := [n, d]) (ys := [n, d]) (w := w') (by kernel_rfl) (by kernel_rfl) (by kernel_rfl) (by kernel_rfl) (by kernel_rfl) (by kernel_rfl)
  simp [eqInts] at this
  exact this
theorem br_no {a : Int} {A B : Prop} (h : B) : br (a != a) A B := br_ne (fun q => absurd rfl q) (fun _ => h)

set_option maxHeartbeats 1600000 in
theorem exact' (n d n' d' : Int) (w : World) (a : I64 n ∧ I64 d) (b : I64 n' ∧ I64 d') :
    Calls Try.prog 4 #[fracv n d, fracv n' d'] w (fun e w' => e = .returned (.bool true) ∧ Below w.heap.size w w') := by
  refine Calls.mono (S4_calls n d n' d' w (fun v w' => v = .bool true ∧ bel w w') ?_) (by rintro e w' ⟨v, rfl, rfl, hb⟩; exact ⟨rfl, hb⟩)
  unfold S4
  refine wr_box fun x1 w1 X1 h _ _ => ?_
  refine wr_box fun x3 w2 X3 h' _ _ => ?_
  replace h := h.trans h'; replace X1 := X1.up h'; clear h'
  refine rd_boxN X1 (by kernel_rfl) rfl ?_
  refine rd_boxN X3 (by kernel_rfl) rfl ?_
  refine call_mono (opA n d n' d' _ a b) ?_
  rintro (s : FE) w3 ⟨hs, h'⟩
  replace h := h.trans h'; replace X1 := X1.up h'; replace X3 := X3.up h'; clear h'
  refine wr_alloc (z := fracv 0 0) (by kernel_rfl) fun x9 w4 Y h' hy _ => ?_
  have hne : w.heap.size ≤ x9.block := by rw [hy]; exact h.size
  have l1 := X1.lt
  have l3 := X3.lt
  have n1 : some x1.block ≠ some x9.block := by intro e; injection e; omega
  have n3 : some x3.block ≠ some x9.block := by intro e; injection e; omega
  replace h := h.trans h'; replace X1 := X1.up h'; replace X3 := X3.up h'; clear h'
  refine wu_box Y (by kernel_rfl) (Nat.le_refl 2) rfl fun w5 Y h' _ => ?_
  replace h := h.grownAt h' hne
  replace X1 := X1.grown h' n1
  replace X3 := X3.grown h' n3
  clear h'
  refine rd_boxN X1 (by kernel_rfl) rfl ?_
  refine rd_boxN X3 (by kernel_rfl) rfl ?_
  refine call_mono (add10 n d n' d' _ a b) ?_
  rintro (t : FE) w6 ⟨ht, h'⟩
  have e : t = s := by rw [ht, hs]
  subst e
  replace h := h.trans h'; replace X1 := X1.up h'; replace X3 := X3.up h'; replace Y := Y.up h'; clear h'
  refine wr_alloc (z := fracv 0 0) (by kernel_rfl) fun x16 w7 Z h' hz _ => ?_
  have hne2 : w.heap.size ≤ x16.block := by rw [hz]; exact h.size
  have l1' := X1.lt
  have l3' := X3.lt
  have l9' := Y.lt
  have m1 : some x1.block ≠ some x16.block := by intro e; injection e; omega
  have m3 : some x3.block ≠ some x16.block := by intro e; injection e; omega
  have m9 : some x9.block ≠ some x16.block := by intro e; injection e; omega
  have m16 : some x16.block ≠ some x9.block := fun e => m9 e.symm
  replace h := h.trans h'; replace X1 := X1.up h'; replace X3 := X3.up h'; replace Y := Y.up h'; clear h'
  refine wu_box Z (by kernel_rfl) (Nat.le_refl 2) rfl fun w8 Z h' _ => ?_
  replace h := h.grownAt h' hne2
  replace X1 := X1.grown h' m1
  replace X3 := X3.grown h' m3
  replace Y := Y.grown h' m9
  clear h'
  refine drw_mk fun w9 h' _ => ?_
  replace h := h.trans h'; replace X1 := X1.up h'; replace X3 := X3.up h'; replace Y := Y.up h'; replace Z := Z.up h'; clear h'
  refine flEx_mk (fun _ _ v _ => v = .bool (decide (IsFrac n d))) (fun _ _ _ _ _ h _ => h) ?_
  refine rd_boxN Y (by kernel_rfl) rfl ?_
  refine rd_boxN Z (by kernel_rfl) rfl ?_
  refine rd_ne_same (br_f rfl (br_no ?_))
  refine rd_boxN X1 (by kernel_rfl) rfl ?_
  refine flc_mk (fun w' _ _ => call_mono (callB (valid10f n d w' a.1 a.2)) fun x w'' ⟨q, hb⟩ => ⟨hb, by rw [q]⟩) (fun x29 => ?_)
  refine rd_boxN X1 (by kernel_rfl) rfl ?_
  refine flend_mk fun w10 h' hp => ?_
  have hx : x29 = decide (IsFrac n d) := by have := hp.1; injection this
  replace h := h.trans h'; replace X1 := X1.up h'; replace X3 := X3.up h'; replace Y := Y.up h'; replace Z := Z.up h'; clear h'
  refine call_mono (callB (valid10 n d w10 a.1.1 a.1.2 a.2.1 a.2.2)) ?_
  rintro x w11 ⟨hx', h'⟩
  replace h := h.trans h'; replace X1 := X1.up h'; replace X3 := X3.up h'; replace Y := Y.up h'; replace Z := Z.up h'; clear h'
  refine br_f (by rw [hx, hx']; simp) ?_
  refine rd_boxN X1 (by kernel_rfl) rfl ?_
  refine rd_boxN X3 (by kernel_rfl) rfl ?_
  refine call_mono (opS n d n' d' _ a b) ?_
  rintro (s : FE) w12 ⟨hs, h'⟩
  replace h := h.trans h'; replace X1 := X1.up h'; replace X3 := X3.up h'; replace Y := Y.up h'; replace Z := Z.up h'; clear h'
  refine wu_box Y (by kernel_rfl) (Nat.le_refl 2) rfl fun w13 Y h' _ => ?_
  replace h := h.grownAt h' hne
  replace X1 := X1.grown h' n1
  replace X3 := X3.grown h' n3
  replace Z := Z.grown h' m16
  clear h'
  refine rd_boxN X1 (by kernel_rfl) rfl ?_
  refine rd_boxN X3 (by kernel_rfl) rfl ?_
  refine call_mono (sub10 n d n' d' _ a b) ?_
  rintro (t : FE) w14 ⟨ht, h'⟩
  have e : t = s := by rw [ht, hs]
  subst e
  replace h := h.trans h'; replace X1 := X1.up h'; replace X3 := X3.up h'; replace Y := Y.up h'; replace Z := Z.up h'; clear h'
  refine wu_box Z (by kernel_rfl) (Nat.le_refl 2) rfl fun w15 Z h' _ => ?_
  replace h := h.grownAt h' hne2
  replace X1 := X1.grown h' m1
  replace X3 := X3.grown h' m3
  replace Y := Y.grown h' m9
  clear h'
  refine rd_boxN Y (by kernel_rfl) rfl ?_
  refine rd_boxN Z (by kernel_rfl) rfl ?_
  refine rd_ne_same (br_f rfl (br_no ?_))
  refine rd_boxN X1 (by kernel_rfl) rfl ?_
  refine rd_boxN X3 (by kernel_rfl) rfl ?_
  refine call_mono (opM n d n' d' _ a b) ?_
  rintro (s : FE) w16 ⟨hs, h'⟩
  replace h := h.trans h'; replace X1 := X1.up h'; replace X3 := X3.up h'; replace Y := Y.up h'; replace Z := Z.up h'; clear h'
  refine wu_box Y (by kernel_rfl) (Nat.le_refl 2) rfl fun w17 Y h' _ => ?_
  replace h := h.grownAt h' hne
  replace X1 := X1.grown h' n1
  replace X3 := X3.grown h' n3
  replace Z := Z.grown h' m16
  clear h'
  refine rd_boxN X1 (by kernel_rfl) rfl ?_
  refine rd_boxN X3 (by kernel_rfl) rfl ?_
  refine call_mono (mul10f n d n' d' _ a b) ?_
  rintro (t : FE) w18 ⟨ht, h'⟩
  have e : t = s := by rw [ht, hs]
  subst e
  replace h := h.trans h'; replace X1 := X1.up h'; replace X3 := X3.up h'; replace Y := Y.up h'; replace Z := Z.up h'; clear h'
  refine wu_box Z (by kernel_rfl) (Nat.le_refl 2) rfl fun w19 Z h' _ => ?_
  replace h := h.grownAt h' hne2
  replace X1 := X1.grown h' m1
  replace X3 := X3.grown h' m3
  replace Y := Y.grown h' m9
  clear h'
  refine rd_boxN Y (by kernel_rfl) rfl ?_
  refine rd_boxN Z (by kernel_rfl) rfl ?_
  refine rd_ne_same (br_f rfl (br_no ?_))
  refine rd_boxN X1 (by kernel_rfl) rfl ?_
  refine rd_boxN X3 (by kernel_rfl) rfl ?_
  refine call_mono (opD n d n' d' _ a b) ?_
  rintro (s : FE) w20 ⟨hs, h'⟩
  replace h := h.trans h'; replace X1 := X1.up h'; replace X3 := X3.up h'; replace Y := Y.up h'; replace Z := Z.up h'; clear h'
  refine wu_box Y (by kernel_rfl) (Nat.le_refl 2) rfl fun w21 Y h' _ => ?_
  replace h := h.grownAt h' hne
  replace X1 := X1.grown h' n1
  replace X3 := X3.grown h' n3
  replace Z := Z.grown h' m16
  clear h'
  refine rd_boxN X1 (by kernel_rfl) rfl ?_
  refine rd_boxN X3 (by kernel_rfl) rfl ?_
  refine call_mono (div10f n d n' d' _ a b) ?_
  rintro (t : FE) w22 ⟨ht, h'⟩
  have e : t = s := by rw [ht, hs]
  subst e
  replace h := h.trans h'; replace X1 := X1.up h'; replace X3 := X3.up h'; replace Y := Y.up h'; replace Z := Z.up h'; clear h'
  refine wu_box Z (by kernel_rfl) (Nat.le_refl 2) rfl fun w23 Z h' _ => ?_
  replace h := h.grownAt h' hne2
  replace X1 := X1.grown h' m1
  replace X3 := X3.grown h' m3
  replace Y := Y.grown h' m9
  clear h'
  refine rd_boxN Y (by kernel_rfl) rfl ?_
  refine rd_boxN Z (by kernel_rfl) rfl ?_
  refine rd_eq_same (br_t rfl ?_)
  exact ⟨by simp, h⟩
end Go.Proofs.Ytinmlgolbikoeaa

/- The walk of FractionLimits. -/

namespace Go.Proofs.Ytinmlgolbikoeaa
open Go.RowKit Go.Q Go.Q.Num Go.V

theorem tyFracs : TyS Try.prog 33 23 (fracv 0 0) 2 16 := ⟨by kernel_rfl, by kernel_rfl⟩
theorem agFrac : aggOf Try.prog 23 2 = true := by kernel_rfl
abbrev encF (p : Int × Int) : List Value := [.int .i64 p.1, .int .i64 p.2]
theorem encF_len (p : Int × Int) : (encF p).length = 2 := rfl
theorem rsign_norm (r : Rat) (n d : Int) (h0 : d ≠ 0) (hr : r = Rat.divInt n d) (hd : 0 < d) : rsign r = cmpi n 0 := by
  obtain ⟨hq, h1⟩ := of_norm (n := n) h0
  obtain ⟨m1, m2, m3⟩ := low_num (decide (n < 0) != decide (d < 0)) n.natAbs d.natAbs hq
  rw [h1, ← hr] at m1 m3
  have hdd : decide (d < 0) = false := decide_eq_false (by omega)
  rw [hdd] at m3
  have hg : 0 < Nat.gcd n.natAbs d.natAbs := Nat.gcd_pos_of_pos_right _ (by omega)
  unfold rsign cmpi
  rcases Int.lt_trichotomy n 0 with q | q | q
  · have : decide (r.num < 0) = true := by
      rw [m3, decide_eq_true q, decide_eq_true (show n.natAbs ≠ 0 by omega)]; rfl
    rw [if_pos (of_decide_eq_true this), if_pos q]
  · subst q
    have e : r.num = 0 := by
      have : (0 : Int).natAbs = 0 := rfl
      rw [this, Nat.zero_div] at m1; omega
    have e' : r = 0 := Rat.num_eq_zero.1 e
    rw [e']; rfl
  · have : decide (r.num < 0) = false := by
      rw [m3, decide_eq_false (show ¬ n < 0 by omega)]; rfl
    have hn := of_decide_eq_false this
    have : 0 < n.natAbs / Nat.gcd n.natAbs d.natAbs := Nat.div_pos (Nat.gcd_le_left _ (by omega)) hg
    have e' : r ≠ 0 := by
      rintro rfl
      have : (0 : Rat).num.natAbs = 0 := rfl
      omega
    rw [if_neg hn, if_neg (fun h => e' (Rat.num_eq_zero.1 h)), if_neg (show ¬ n < 0 by omega), if_pos q]
theorem cmp_same (n d n' d' : Int) : (if IsFrac n d ∧ IsFrac n' d' then rsign (ratv n d + -ratv n' d') else 0) = compv n d n' d' := by
  unfold compv
  by_cases h : IsFrac n d ∧ IsFrac n' d'
  · rw [if_pos h, if_pos h]
    obtain ⟨h1, h2⟩ := h
    have hdd : 0 < d * d' := Int.mul_pos (by have := h1.1; omega) (by have := h2.1; omega)
    have e : ratv n d + -ratv n' d' = Rat.divInt (n * d' + -n' * d) (d * d') := by
      rw [← ratv_neg h2, ratv_div h1, ratv_div (frac_neg h2), add_div h1 (frac_neg h2)]
    rw [rsign_norm _ _ _ (by omega) e hdd, Int.neg_mul]
    unfold cmpi
    split <;> split <;> (try split) <;> (try split) <;> omega
  · rw [if_neg h, if_neg h]
theorem compF' (n d n' d' : Int) (w : World) (a : I64 n ∧ I64 d) (b : I64 n' ∧ I64 d') : call Try.prog 8 [fracv n d, fracv n' d'] (.one (.one (.int .i64))) w (fun x w' => x = compv n d n' d' ∧ bel w w') :=
  callI (compF n d n' d' w a.1.1 a.1.2 a.2.1 a.2.2 b.1.1 b.1.2 b.2.1 b.2.2)
theorem cmp10' (n d n' d' : Int) (w : World) (a : I64 n ∧ I64 d) (b : I64 n' ∧ I64 d') : call Try.prog 19 [fracv n d, fracv n' d'] (.one (.one (.int .i64))) w (fun x w' => x = compv n d n' d' ∧ bel w w') :=
  call_mono (cmp10 n d n' d' w a b) fun x w' ⟨h, hb⟩ => ⟨by rw [h]; exact cmp_same n d n' d', hb⟩
theorem fe_inj {x : (Int × Int × Unit) × Int × Unit} {y : FE} (h : Value.tuple #[.agg #[.int .i64 x.1.1, .int .i64 x.1.2.1], .int .i64 x.2.1] = rFE.val y) : x = y := by
  obtain ⟨⟨a, b, _⟩, c, _⟩ := x
  obtain ⟨⟨a', b', _⟩, c', _⟩ := y
  have h : Value.tuple #[.agg #[.int .i64 a, .int .i64 b], .int .i64 c] = Value.tuple #[.agg #[.int .i64 a', .int .i64 b'], .int .i64 c'] := h
  simp at h
  obtain ⟨⟨rfl, rfl⟩, rfl⟩ := h
  rfl

/-- 'a, e := op(l[i], l[k])' -/
theorem pairOp {f : FuncId} {T : FE} {sa : Option Addr} {sn sc i k : Nat} {I K : Int} {L : List (Int × Int)} {p q : Int × Int} {w : World} {k' : FE → Addr → World → Prop} (hf : ∀ w', call Try.prog f [fracv p.1 p.2, fracv q.1 q.2] rFE w' (fun x w'' => x = T ∧ bel w' w''))
    (H : Sl w sa sn sc 2 (L.flatMap encF)) (hI : I = (i : Int)) (hK : K = (k : Int)) (hi : L[i]? = some p) (hk : L[k]? = some q)
    (hg : ∀ ad w', bel w w' → Box w' ad [.int .i64 T.1.1, .int .i64 T.1.2.1] → k' T ad w') :
    drw w fun w24 => flEx fun F25 =>
      rdp Try.prog (Instr.indexAt 33 (.slice sa sn sc) (.int .i64 I)) (.one .addr) fun (x26 : Addr) =>
      rd Try.prog (Instr.loadAt 23 (.pointer (some x26))) (.agg [(.int .i64), (.int .i64)]) w24 fun (x27 : (Int × Int × Unit)) =>
      rdp Try.prog (Instr.indexAt 33 (.slice sa sn sc) (.int .i64 K)) (.one .addr) fun (x28 : Addr) =>
      rd Try.prog (Instr.loadAt 23 (.pointer (some x28))) (.agg [(.int .i64), (.int .i64)]) w24 fun (x29 : (Int × Int × Unit)) =>
      flc bel w24 (fun _w31 => True) (fun (w30 : World) =>
        call Try.prog f [(.agg #[(.int .i64 x27.1), (.int .i64 x27.2.1)]), (.agg #[(.int .i64 x29.1), (.int .i64 x29.2.1)])] (.many [(.agg [(.int .i64), (.int .i64)]), (.one (.int .i64))]) w30 fun (x32 : ((Int × Int × Unit) × Int × Unit)) (w33 : World) =>
        (bel w30 w33 ∧ F25 8 [(.agg #[(.int .i64 x27.1), (.int .i64 x27.2.1)]), (.agg #[(.int .i64 x29.1), (.int .i64 x29.2.1)])] (.tuple #[(.agg #[(.int .i64 x32.1.1), (.int .i64 x32.1.2.1)]), (.int .i64 x32.2.1)]) w33))
      fun (x34 : ((Int × Int × Unit) × Int × Unit)) =>
      flc bel w24 (fun _w36 => True) (fun (w35 : World) =>
        wr Try.prog (Instr.alloc 23 true (.tuple #[])) (.one .addr) w35 fun (x37 : Addr) (w38 : World) =>
        (bel w35 w38 ∧ F25 12 [] (.pointer (some x37)) w38))
      fun (x39 : Addr) =>
      flend bel w24 (fun w41 => F25 12 [] (.pointer (some x39)) w41 ∧ F25 8 [(.agg #[(.int .i64 x27.1), (.int .i64 x27.2.1)]), (.agg #[(.int .i64 x29.1), (.int .i64 x29.2.1)])] (.tuple #[(.agg #[(.int .i64 x34.1.1), (.int .i64 x34.1.2.1)]), (.int .i64 x34.2.1)]) w41 ∧ True) fun w40 =>
      wu Try.prog (Instr.storeAt 23 (.pointer (some x39)) (.agg #[(.int .i64 x34.1.1), (.int .i64 x34.1.2.1)])) w40 fun (w42 : World) => k' x34 x39 w42 := by
  refine drw_mk fun w1 h _ => ?_
  have H1 := H.kept h
  refine flEx_mk (fun i _ v w' => match i with
    | 8 => v = rFE.val T
    | 12 => ∃ ad, v = .pointer (some ad) ∧ Box w' ad [.int .i64 0, .int .i64 0] ∧ w.heap.size ≤ ad.block
    | _ => True) (fun i _ _ _ _ h hb => by
      revert h
      split <;> intro h <;> first | exact h | (obtain ⟨ad, k1, k2, k3⟩ := h; exact ⟨ad, k1, k2.up hb, k3⟩)) ?_
  refine at_agg tyFracs agFrac encF_len (by omega) H1 hI hi rfl ?_
  refine at_agg tyFracs agFrac encF_len (by omega) H1 hK hk rfl ?_
  refine flc_mk (fun w' _ _ => call_mono (hf w') fun x w'' ⟨q, hb⟩ => ⟨hb, by rw [q]; rfl⟩) (fun x34 => ?_)
  refine flc_mk (fun w' hb _ => wr_alloc (z := fracv 0 0) (by kernel_rfl) fun ad w'' Z hb' hz _ => ⟨hb', ad, rfl, Z, by rw [hz]; exact (h.trans hb).size⟩) (fun x39 => ?_)
  refine flend_mk fun w2 h' hp => ?_
  obtain ⟨⟨ad, k1, Z, k3⟩, k4, _⟩ := hp
  injection k1 with k1; injection k1 with k1; subst k1
  have e := fe_inj k4
  subst e
  refine wu_box Z (by kernel_rfl) (Nat.le_refl 2) rfl fun w3 Z hg3 _ => ?_
  exact hg _ _ ((h.trans h').grownAt hg3 k3) Z

theorem i64f {n : Int} (h1 : -100000000000000000 ≤ n) (h2 : n ≤ 100000000000000000) : I64 n := ⟨by omega, by omega⟩
set_option maxHeartbeats 1600000 in
theorem limits (n m : Int) (w : World) (hn : 0 ≤ n ∧ n ≤ 4294967295) (hm : 0 ≤ m ∧ m ≤ 4294967295) :
    Calls Try.prog 5 #[.int .u32 n, .int .u32 m] w (fun e w' => e = .returned (.bool true) ∧ Below w.heap.size w w') := by
  refine Calls.mono (S5_calls n m w (fun v w' => v = .bool true ∧ bel w w') ?_) (by rintro e w' ⟨v, rfl, rfl, hb⟩; exact ⟨rfl, hb⟩)
  unfold S5
  refine z_i64 (by omega) (z_i64 (by omega) ?_)
  obtain ⟨b, hb⟩ : ∃ b, b = 100000000000000000 - n := ⟨_, rfl⟩
  obtain ⟨s, hs⟩ : ∃ s, s = 100000000000000000 - m := ⟨_, rfl⟩
  rw [← hb]
  refine wr_alloc (z := fracv 0 0) (by kernel_rfl) fun x3 w1 X h hx3 _ => ?_
  refine wu_box X (by kernel_rfl) (Nat.le_refl 2) rfl fun w2 X h' _ => ?_
  replace h := h.grownAt h' (by omega)
  clear h'
  refine z_i64 (by omega) (z_i64 (by omega) ?_)
  rw [← hs]
  refine wr_alloc (z := fracv 0 0) (by kernel_rfl) fun x8 w3 Y h' hx8 _ => ?_
  have hne : w.heap.size ≤ x8.block := by rw [hx8]; exact h.size
  have l3 := X.lt
  replace h := h.trans h'; replace X := X.up h'; clear h'
  refine wu_box Y (by kernel_rfl) (Nat.le_refl 2) rfl fun w4 Y h' _ => ?_
  replace h := h.grownAt h' hne
  replace X := X.grown h' (by intro e; injection e; omega)
  clear h'
  refine rd_boxN X (by kernel_rfl) rfl ?_
  refine rd_boxN Y (by kernel_rfl) rfl ?_
  refine rd_box0 (by kernel_rfl) X rfl rfl ?_
  refine z_i64 (by omega) ?_
  refine rd_box0 (by kernel_rfl) X rfl rfl ?_
  obtain ⟨L, hL⟩ : ∃ L : List (Int × Int), L = [(b, 1), (1, s), (0 - b, 1), (1, b)] := ⟨_, rfl⟩
  refine wr_lit tyFracs (L.flatMap encF).toArray (by rw [hL]; kernel_rfl) (by omega) (by omega) (by rw [hL]; rfl) (by unfold maxLen; omega) fun ad w5 O h' had _ => ?_
  have H : Sl w5 (some ad) 4 4 2 (L.flatMap encF) := (O _ (Nat.le_refl _)).sl
  replace h := h.trans h'; clear h'
  have hlen : L.length = 4 := by rw [hL]; rfl
  have hb64 : ∀ (j : Nat) (p : Int × Int), L[j]? = some p → I64 p.1 ∧ I64 p.2 := by
    intro j p hp
    have hj := (List.getElem?_eq_some_iff.1 hp).1
    rw [hL] at hp
    match j, hp with
    | 0, hp => simp at hp; subst hp; exact ⟨⟨by dsimp only; omega, by dsimp only; omega⟩, ⟨by dsimp only; omega, by dsimp only; omega⟩⟩
    | 1, hp => simp at hp; subst hp; exact ⟨⟨by dsimp only; omega, by dsimp only; omega⟩, ⟨by dsimp only; omega, by dsimp only; omega⟩⟩
    | 2, hp => simp at hp; subst hp; exact ⟨⟨by dsimp only; omega, by dsimp only; omega⟩, ⟨by dsimp only; omega, by dsimp only; omega⟩⟩
    | 3, hp => simp at hp; subst hp; exact ⟨⟨by dsimp only; omega, by dsimp only; omega⟩, ⟨by dsimp only; omega, by dsimp only; omega⟩⟩
    | j + 4, hp => simp at hp
  clear hL O
  refine loop_gh (G := Nat) (fun i s w' => s.1 = (i : Int) ∧ i ≤ 4 ∧ bel w w' ∧ Sl w' (some ad) 4 4 2 (L.flatMap encF)) (fun i => 4 - i) 0 ⟨rfl, by omega, h, H⟩ ?_
  rintro i ⟨s1, _⟩ w6 ⟨hi, hi4, h, H⟩ again hag _
  have hi' : s1 = (i : Int) := hi
  subst hi'
  refine br_dec (fun e1 => ?_) (fun e1 => ⟨rfl, h⟩)
  dsimp only at e1
  obtain ⟨p, hp⟩ : ∃ p, L[i]? = some p := ⟨_, List.getElem?_eq_getElem (by omega)⟩
  have ap := hb64 i p hp
  refine loop_gh (G := Nat) (fun k s w' => s.1 = (k : Int) ∧ k ≤ 4 ∧ bel w w' ∧ Sl w' (some ad) 4 4 2 (L.flatMap encF)) (fun k => 4 - k) 0 ⟨rfl, by omega, h, H⟩ ?_
  rintro k ⟨s2, _⟩ w7 ⟨hk, hk4, h, H⟩ again2 hag2 _
  have hk' : s2 = (k : Int) := hk
  subst hk'
  refine br_dec (fun e2 => ?_) (fun e2 => ?_)
  · dsimp only at e2
    obtain ⟨q, hq⟩ : ∃ q, L[k]? = some q := ⟨_, List.getElem?_eq_getElem (by omega)⟩
    have aq := hb64 k q hq
    refine pairOp (fun w' => opM p.1 p.2 q.1 q.2 w' ap aq) H rfl rfl hp hq fun x39 w8 h' A => ?_
    replace H := H.kept h'
    replace h := h.trans h'; clear h'
    refine pairOp (fun w' => mul10f p.1 p.2 q.1 q.2 w' ap aq) H rfl rfl hp hq fun x58 w9 h' A' => ?_
    replace H := H.kept h'
    replace h := h.trans h'; replace A := A.up h'; clear h'
    refine pairOp (fun w' => opA p.1 p.2 q.1 q.2 w' ap aq) H rfl rfl hp hq fun x77 w10 h' C => ?_
    replace H := H.kept h'
    replace h := h.trans h'; replace A := A.up h'; replace A' := A'.up h'; clear h'
    refine pairOp (fun w' => add10 p.1 p.2 q.1 q.2 w' ap aq) H rfl rfl hp hq fun x96 w11 h' C' => ?_
    replace H := H.kept h'
    replace h := h.trans h'; replace A := A.up h'; replace A' := A'.up h'; replace C := C.up h'; clear h'
    refine drw_mk fun w12 h' _ => ?_
    replace H := H.kept h'
    replace h := h.trans h'; replace A := A.up h'; replace A' := A'.up h'; replace C := C.up h'; replace C' := C'.up h'; clear h'
    refine flEx_mk (fun _ _ v _ => v = .int .i64 (compv p.1 p.2 q.1 q.2)) (fun _ _ _ _ _ h _ => h) ?_
    refine rd_boxN A (by kernel_rfl) rfl ?_
    refine rd_boxN A' (by kernel_rfl) rfl ?_
    refine rd_ne_same (br_f rfl (br_no ?_))
    refine rd_boxN C (by kernel_rfl) rfl ?_
    refine rd_boxN C' (by kernel_rfl) rfl ?_
    refine rd_ne_same (br_f rfl (br_no ?_))
    refine at_agg tyFracs agFrac encF_len (by omega) H rfl hp rfl ?_
    refine at_agg tyFracs agFrac encF_len (by omega) H rfl hq rfl ?_
    refine flc_mk (fun w' _ _ => call_mono (compF' p.1 p.2 q.1 q.2 w' ap aq) fun x w'' ⟨e, hb⟩ => ⟨hb, by rw [e]⟩) (fun x116 => ?_)
    refine at_agg tyFracs agFrac encF_len (by omega) H rfl hp rfl ?_
    refine at_agg tyFracs agFrac encF_len (by omega) H rfl hq rfl ?_
    refine flend_mk fun w13 h' hpp => ?_
    have e3 : x116 = compv p.1 p.2 q.1 q.2 := by have := hpp.1; injection this
    replace H := H.kept h'
    replace h := h.trans h'; clear h'
    refine call_mono (cmp10' p.1 p.2 q.1 q.2 w13 ap aq) ?_
    rintro x w14 ⟨e4, h'⟩
    replace H := H.kept h'
    replace h := h.trans h'; clear h'
    refine br_f (by rw [e3, e4]; simp) ?_
    refine z_i64 (by dsimp only; omega) ?_
    exact hag2 (k + 1) _ _ ⟨by dsimp only; omega, by omega, h, H⟩ (by omega)
  · refine z_i64 (by dsimp only; omega) ?_
    exact hag (i + 1) _ _ ⟨by dsimp only; omega, by omega, h, H⟩ (by omega)
end Go.Proofs.Ytinmlgolbikoeaa
