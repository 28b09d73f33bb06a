/- The conditions of functions, printed by our tool; each is checked against the code by the kernel. -/
import Derived.Test.YtinmlgolbikoeaaProg
import Derived.Test.YtinmlgolbikoeaaVH
import Derived.KernelRfl
namespace Go.Proofs
open Go Go.V Go.RowKit
theorem follows_ : Try.prog.follows .mixedOrders = true := by kernel_rfl
/-- querylab/querylablaw10.FractionOrders -/
def S3 (a_0 : Int) (a_1 : Int) (b_0 : Int) (b_1 : Int) (c_0 : Int) (c_1 : Int) (w0 : World) (R : Value → World → Prop) : Prop :=
 wr Try.prog (Instr.box 23 (.agg #[(.int .i64 a_0), (.int .i64 a_1)])) (.one .addr) w0 fun (x1 : Addr) (w2 : World) =>
 wr Try.prog (Instr.box 23 (.agg #[(.int .i64 b_0), (.int .i64 b_1)])) (.one .addr) w2 fun (x3 : Addr) (w4 : World) =>
 wr Try.prog (Instr.box 23 (.agg #[(.int .i64 c_0), (.int .i64 c_1)])) (.one .addr) w4 fun (x5 : Addr) (w6 : World) =>
 join (T := (Bool × Unit)) (fun (s8 : (Bool × Unit)) w9 => ∀ _ : Nat → Value,
 br s8.1 (rd Try.prog (Instr.loadAt 23 (.pointer (some x1))) (.agg [(.int .i64), (.int .i64)]) w9 fun (x10 : (Int × Int × Unit)) =>
 rd Try.prog (Instr.loadAt 23 (.pointer (some x1))) (.agg [(.int .i64), (.int .i64)]) w9 fun (x11 : (Int × Int × Unit)) =>
 call Try.prog 8 [(.agg #[(.int .i64 x10.1), (.int .i64 x10.2.1)]), (.agg #[(.int .i64 x11.1), (.int .i64 x11.2.1)])] (.one (.one (.int .i64))) w9 fun (x12 : Int) (w13 : World) =>
 br (x12 == 0) (rd Try.prog (Instr.loadAt 23 (.pointer (some x1))) (.agg [(.int .i64), (.int .i64)]) w13 fun (x14 : (Int × Int × Unit)) =>
 call Try.prog 7 [(.agg #[(.int .i64 x14.1), (.int .i64 x14.2.1)])] (.one (.one .bool)) w13 fun (x15 : Bool) (w16 : World) =>
 br x15 (R (.bool true) w16)
 (rd Try.prog (Instr.loadAt 23 (.pointer (some x1))) (.agg [(.int .i64), (.int .i64)]) w16 fun (x17 : (Int × Int × Unit)) =>
 call Try.prog 9 [(.agg #[(.int .i64 x17.1), (.int .i64 x17.2.1)])] (.one (.one (.int .i64))) w16 fun (x18 : Int) (w19 : World) =>
 R (.bool (x18 == 0)) w19))
 (R (.bool false) w13))
 (join (T := (Unit)) (fun (_s21 : (Unit)) w22 => ∀ _ : Nat → Value,
 rd Try.prog (Instr.loadAt 23 (.pointer (some x1))) (.agg [(.int .i64), (.int .i64)]) w22 fun (x23 : (Int × Int × Unit)) =>
 call Try.prog 9 [(.agg #[(.int .i64 x23.1), (.int .i64 x23.2.1)])] (.one (.one (.int .i64))) w22 fun (x24 : Int) (w25 : World) =>
 wr Try.prog (Instr.alloc 23 true (.tuple #[])) (.one .addr) w25 fun (x26 : Addr) (w27 : World) =>
 wu Try.prog (Instr.storeAt 23 (.pointer (some x26)) (.agg #[(.int .i64 x24), (.int .i64 1)])) w27 fun (w28 : World) =>
 rd Try.prog (Instr.loadAt 2 (.pointer (some x26))) (.one (.int .i64)) w28 fun (x29 : Int) =>
 z (IntKind.wrap .i64 (x29 + 1)) fun (z30 : Int) =>
 wr Try.prog (Instr.alloc 23 true (.tuple #[])) (.one .addr) w28 fun (x31 : Addr) (w32 : World) =>
 wu Try.prog (Instr.storeAt 23 (.pointer (some x31)) (.agg #[(.int .i64 z30), (.int .i64 1)])) w32 fun (w33 : World) =>
 drw w33 fun w34 => flEx fun F35 =>
 rd Try.prog (Instr.loadAt 23 (.pointer (some x26))) (.agg [(.int .i64), (.int .i64)]) w34 fun (x36 : (Int × Int × Unit)) =>
 rd Try.prog (Instr.loadAt 23 (.pointer (some x1))) (.agg [(.int .i64), (.int .i64)]) w34 fun (x37 : (Int × Int × Unit)) =>
 flc bel w34 (fun _w39 => True) (fun (w38 : World) =>
   call Try.prog 8 [(.agg #[(.int .i64 x36.1), (.int .i64 x36.2.1)]), (.agg #[(.int .i64 x37.1), (.int .i64 x37.2.1)])] (.one (.one (.int .i64))) w38 fun (x40 : Int) (w41 : World) =>
 (bel w38 w41 ∧ F35 2 [(.agg #[(.int .i64 x36.1), (.int .i64 x36.2.1)]), (.agg #[(.int .i64 x37.1), (.int .i64 x37.2.1)])] (.int .i64 x40) w41))
  fun (x42 : Int) =>
 br (decide (x42 ≤ 0)) (rd Try.prog (Instr.loadAt 23 (.pointer (some x31))) (.agg [(.int .i64), (.int .i64)]) w34 fun (x43 : (Int × Int × Unit)) =>
 flc bel w34 (fun w45 => F35 2 [(.agg #[(.int .i64 x36.1), (.int .i64 x36.2.1)]), (.agg #[(.int .i64 x37.1), (.int .i64 x37.2.1)])] (.int .i64 x42) w45 ∧ True) (fun (w44 : World) =>
   call Try.prog 7 [(.agg #[(.int .i64 x43.1), (.int .i64 x43.2.1)])] (.one (.one .bool)) w44 fun (x46 : Bool) (w47 : World) =>
 (bel w44 w47 ∧ F35 6 [(.agg #[(.int .i64 x43.1), (.int .i64 x43.2.1)])] (.bool x46) w47))
  fun (x48 : Bool) =>
 br (!x48) (rd Try.prog (Instr.loadAt 23 (.pointer (some x1))) (.agg [(.int .i64), (.int .i64)]) w34 fun (x49 : (Int × Int × Unit)) =>
 rd Try.prog (Instr.loadAt 23 (.pointer (some x3))) (.agg [(.int .i64), (.int .i64)]) w34 fun (x50 : (Int × Int × Unit)) =>
 rd Try.prog (cmpS .eql 23 (.tmp 84) (.tmp 85) (.agg #[(.int .i64 x49.1), (.int .i64 x49.2.1)]) (.agg #[(.int .i64 x50.1), (.int .i64 x50.2.1)])) (.one .bool) w34 fun (x51 : Bool) =>
 rd Try.prog (Instr.loadAt 23 (.pointer (some x1))) (.agg [(.int .i64), (.int .i64)]) w34 fun (x52 : (Int × Int × Unit)) =>
 rd Try.prog (Instr.loadAt 23 (.pointer (some x3))) (.agg [(.int .i64), (.int .i64)]) w34 fun (x53 : (Int × Int × Unit)) =>
 flc bel w34 (fun w55 => F35 6 [(.agg #[(.int .i64 x43.1), (.int .i64 x43.2.1)])] (.bool x48) w55 ∧ F35 2 [(.agg #[(.int .i64 x36.1), (.int .i64 x36.2.1)]), (.agg #[(.int .i64 x37.1), (.int .i64 x37.2.1)])] (.int .i64 x42) w55 ∧ True) (fun (w54 : World) =>
   call Try.prog 8 [(.agg #[(.int .i64 x52.1), (.int .i64 x52.2.1)]), (.agg #[(.int .i64 x53.1), (.int .i64 x53.2.1)])] (.one (.one (.int .i64))) w54 fun (x56 : Int) (w57 : World) =>
 (bel w54 w57 ∧ F35 21 [(.agg #[(.int .i64 x52.1), (.int .i64 x52.2.1)]), (.agg #[(.int .i64 x53.1), (.int .i64 x53.2.1)])] (.int .i64 x56) w57))
  fun (x58 : Int) =>
 flend bel w34 (fun w60 => F35 21 [(.agg #[(.int .i64 x52.1), (.int .i64 x52.2.1)]), (.agg #[(.int .i64 x53.1), (.int .i64 x53.2.1)])] (.int .i64 x58) w60 ∧ F35 6 [(.agg #[(.int .i64 x43.1), (.int .i64 x43.2.1)])] (.bool x48) w60 ∧ F35 2 [(.agg #[(.int .i64 x36.1), (.int .i64 x36.2.1)]), (.agg #[(.int .i64 x37.1), (.int .i64 x37.2.1)])] (.int .i64 x42) w60 ∧ True) fun w59 =>
 R (.bool (x51 == (x58 == 0))) w59)
 (rd Try.prog (Instr.loadAt 23 (.pointer (some x1))) (.agg [(.int .i64), (.int .i64)]) w34 fun (x61 : (Int × Int × Unit)) =>
 rd Try.prog (Instr.loadAt 23 (.pointer (some x31))) (.agg [(.int .i64), (.int .i64)]) w34 fun (x62 : (Int × Int × Unit)) =>
 flc bel w34 (fun w64 => F35 6 [(.agg #[(.int .i64 x43.1), (.int .i64 x43.2.1)])] (.bool x48) w64 ∧ F35 2 [(.agg #[(.int .i64 x36.1), (.int .i64 x36.2.1)]), (.agg #[(.int .i64 x37.1), (.int .i64 x37.2.1)])] (.int .i64 x42) w64 ∧ True) (fun (w63 : World) =>
   call Try.prog 8 [(.agg #[(.int .i64 x61.1), (.int .i64 x61.2.1)]), (.agg #[(.int .i64 x62.1), (.int .i64 x62.2.1)])] (.one (.one (.int .i64))) w63 fun (x65 : Int) (w66 : World) =>
 (bel w63 w66 ∧ F35 11 [(.agg #[(.int .i64 x61.1), (.int .i64 x61.2.1)]), (.agg #[(.int .i64 x62.1), (.int .i64 x62.2.1)])] (.int .i64 x65) w66))
  fun (x67 : Int) =>
 br (decide (x67 < 0)) (rd Try.prog (Instr.loadAt 23 (.pointer (some x1))) (.agg [(.int .i64), (.int .i64)]) w34 fun (x68 : (Int × Int × Unit)) =>
 rd Try.prog (Instr.loadAt 23 (.pointer (some x3))) (.agg [(.int .i64), (.int .i64)]) w34 fun (x69 : (Int × Int × Unit)) =>
 rd Try.prog (cmpS .eql 23 (.tmp 84) (.tmp 85) (.agg #[(.int .i64 x68.1), (.int .i64 x68.2.1)]) (.agg #[(.int .i64 x69.1), (.int .i64 x69.2.1)])) (.one .bool) w34 fun (x70 : Bool) =>
 rd Try.prog (Instr.loadAt 23 (.pointer (some x1))) (.agg [(.int .i64), (.int .i64)]) w34 fun (x71 : (Int × Int × Unit)) =>
 rd Try.prog (Instr.loadAt 23 (.pointer (some x3))) (.agg [(.int .i64), (.int .i64)]) w34 fun (x72 : (Int × Int × Unit)) =>
 flc bel w34 (fun w74 => F35 11 [(.agg #[(.int .i64 x61.1), (.int .i64 x61.2.1)]), (.agg #[(.int .i64 x62.1), (.int .i64 x62.2.1)])] (.int .i64 x67) w74 ∧ F35 6 [(.agg #[(.int .i64 x43.1), (.int .i64 x43.2.1)])] (.bool x48) w74 ∧ F35 2 [(.agg #[(.int .i64 x36.1), (.int .i64 x36.2.1)]), (.agg #[(.int .i64 x37.1), (.int .i64 x37.2.1)])] (.int .i64 x42) w74 ∧ True) (fun (w73 : World) =>
   call Try.prog 8 [(.agg #[(.int .i64 x71.1), (.int .i64 x71.2.1)]), (.agg #[(.int .i64 x72.1), (.int .i64 x72.2.1)])] (.one (.one (.int .i64))) w73 fun (x75 : Int) (w76 : World) =>
 (bel w73 w76 ∧ F35 21 [(.agg #[(.int .i64 x71.1), (.int .i64 x71.2.1)]), (.agg #[(.int .i64 x72.1), (.int .i64 x72.2.1)])] (.int .i64 x75) w76))
  fun (x77 : Int) =>
 flend bel w34 (fun w79 => F35 21 [(.agg #[(.int .i64 x71.1), (.int .i64 x71.2.1)]), (.agg #[(.int .i64 x72.1), (.int .i64 x72.2.1)])] (.int .i64 x77) w79 ∧ F35 11 [(.agg #[(.int .i64 x61.1), (.int .i64 x61.2.1)]), (.agg #[(.int .i64 x62.1), (.int .i64 x62.2.1)])] (.int .i64 x67) w79 ∧ F35 6 [(.agg #[(.int .i64 x43.1), (.int .i64 x43.2.1)])] (.bool x48) w79 ∧ F35 2 [(.agg #[(.int .i64 x36.1), (.int .i64 x36.2.1)]), (.agg #[(.int .i64 x37.1), (.int .i64 x37.2.1)])] (.int .i64 x42) w79 ∧ True) fun w78 =>
 R (.bool (x70 == (x77 == 0))) w78)
 (flend bel w34 (fun w81 => F35 11 [(.agg #[(.int .i64 x61.1), (.int .i64 x61.2.1)]), (.agg #[(.int .i64 x62.1), (.int .i64 x62.2.1)])] (.int .i64 x67) w81 ∧ F35 6 [(.agg #[(.int .i64 x43.1), (.int .i64 x43.2.1)])] (.bool x48) w81 ∧ F35 2 [(.agg #[(.int .i64 x36.1), (.int .i64 x36.2.1)]), (.agg #[(.int .i64 x37.1), (.int .i64 x37.2.1)])] (.int .i64 x42) w81 ∧ True) fun w80 =>
 R (.bool false) w80)))
 (flend bel w34 (fun w83 => F35 2 [(.agg #[(.int .i64 x36.1), (.int .i64 x36.2.1)]), (.agg #[(.int .i64 x37.1), (.int .i64 x37.2.1)])] (.int .i64 x42) w83 ∧ True) fun w82 =>
 R (.bool false) w82))
  fun (K20 : (Unit) → World → Prop) =>
 drw w9 fun w84 => flEx fun F85 =>
 rd Try.prog (Instr.loadAt 23 (.pointer (some x1))) (.agg [(.int .i64), (.int .i64)]) w84 fun (x86 : (Int × Int × Unit)) =>
 rd Try.prog (Instr.loadAt 23 (.pointer (some x3))) (.agg [(.int .i64), (.int .i64)]) w84 fun (x87 : (Int × Int × Unit)) =>
 flc bel w84 (fun _w89 => True) (fun (w88 : World) =>
   call Try.prog 8 [(.agg #[(.int .i64 x86.1), (.int .i64 x86.2.1)]), (.agg #[(.int .i64 x87.1), (.int .i64 x87.2.1)])] (.one (.one (.int .i64))) w88 fun (x90 : Int) (w91 : World) =>
 (bel w88 w91 ∧ F85 2 [(.agg #[(.int .i64 x86.1), (.int .i64 x86.2.1)]), (.agg #[(.int .i64 x87.1), (.int .i64 x87.2.1)])] (.int .i64 x90) w91))
  fun (x92 : Int) =>
 rd Try.prog (Instr.loadAt 23 (.pointer (some x3))) (.agg [(.int .i64), (.int .i64)]) w84 fun (x93 : (Int × Int × Unit)) =>
 rd Try.prog (Instr.loadAt 23 (.pointer (some x1))) (.agg [(.int .i64), (.int .i64)]) w84 fun (x94 : (Int × Int × Unit)) =>
 flc bel w84 (fun w96 => F85 2 [(.agg #[(.int .i64 x86.1), (.int .i64 x86.2.1)]), (.agg #[(.int .i64 x87.1), (.int .i64 x87.2.1)])] (.int .i64 x92) w96 ∧ True) (fun (w95 : World) =>
   call Try.prog 8 [(.agg #[(.int .i64 x93.1), (.int .i64 x93.2.1)]), (.agg #[(.int .i64 x94.1), (.int .i64 x94.2.1)])] (.one (.one (.int .i64))) w95 fun (x97 : Int) (w98 : World) =>
 (bel w95 w98 ∧ F85 5 [(.agg #[(.int .i64 x93.1), (.int .i64 x93.2.1)]), (.agg #[(.int .i64 x94.1), (.int .i64 x94.2.1)])] (.int .i64 x97) w98))
  fun (x99 : Int) =>
 z (IntKind.wrap .i64 (0 - x99)) fun (z100 : Int) =>
 br (x92 != z100) (flend bel w84 (fun w102 => F85 5 [(.agg #[(.int .i64 x93.1), (.int .i64 x93.2.1)]), (.agg #[(.int .i64 x94.1), (.int .i64 x94.2.1)])] (.int .i64 x99) w102 ∧ F85 2 [(.agg #[(.int .i64 x86.1), (.int .i64 x86.2.1)]), (.agg #[(.int .i64 x87.1), (.int .i64 x87.2.1)])] (.int .i64 x92) w102 ∧ True) fun w101 =>
 R (.bool false) w101)
 (rd Try.prog (Instr.loadAt 23 (.pointer (some x1))) (.agg [(.int .i64), (.int .i64)]) w84 fun (x103 : (Int × Int × Unit)) =>
 rd Try.prog (Instr.loadAt 23 (.pointer (some x3))) (.agg [(.int .i64), (.int .i64)]) w84 fun (x104 : (Int × Int × Unit)) =>
 flc bel w84 (fun w106 => F85 5 [(.agg #[(.int .i64 x93.1), (.int .i64 x93.2.1)]), (.agg #[(.int .i64 x94.1), (.int .i64 x94.2.1)])] (.int .i64 x99) w106 ∧ F85 2 [(.agg #[(.int .i64 x86.1), (.int .i64 x86.2.1)]), (.agg #[(.int .i64 x87.1), (.int .i64 x87.2.1)])] (.int .i64 x92) w106 ∧ True) (fun (w105 : World) =>
   call Try.prog 8 [(.agg #[(.int .i64 x103.1), (.int .i64 x103.2.1)]), (.agg #[(.int .i64 x104.1), (.int .i64 x104.2.1)])] (.one (.one (.int .i64))) w105 fun (x107 : Int) (w108 : World) =>
 (bel w105 w108 ∧ F85 11 [(.agg #[(.int .i64 x103.1), (.int .i64 x103.2.1)]), (.agg #[(.int .i64 x104.1), (.int .i64 x104.2.1)])] (.int .i64 x107) w108))
  fun (x109 : Int) =>
 br (decide (x109 ≤ 0)) (rd Try.prog (Instr.loadAt 23 (.pointer (some x3))) (.agg [(.int .i64), (.int .i64)]) w84 fun (x110 : (Int × Int × Unit)) =>
 rd Try.prog (Instr.loadAt 23 (.pointer (some x5))) (.agg [(.int .i64), (.int .i64)]) w84 fun (x111 : (Int × Int × Unit)) =>
 flc bel w84 (fun w113 => F85 11 [(.agg #[(.int .i64 x103.1), (.int .i64 x103.2.1)]), (.agg #[(.int .i64 x104.1), (.int .i64 x104.2.1)])] (.int .i64 x109) w113 ∧ F85 5 [(.agg #[(.int .i64 x93.1), (.int .i64 x93.2.1)]), (.agg #[(.int .i64 x94.1), (.int .i64 x94.2.1)])] (.int .i64 x99) w113 ∧ F85 2 [(.agg #[(.int .i64 x86.1), (.int .i64 x86.2.1)]), (.agg #[(.int .i64 x87.1), (.int .i64 x87.2.1)])] (.int .i64 x92) w113 ∧ True) (fun (w112 : World) =>
   call Try.prog 8 [(.agg #[(.int .i64 x110.1), (.int .i64 x110.2.1)]), (.agg #[(.int .i64 x111.1), (.int .i64 x111.2.1)])] (.one (.one (.int .i64))) w112 fun (x114 : Int) (w115 : World) =>
 (bel w112 w115 ∧ F85 16 [(.agg #[(.int .i64 x110.1), (.int .i64 x110.2.1)]), (.agg #[(.int .i64 x111.1), (.int .i64 x111.2.1)])] (.int .i64 x114) w115))
  fun (x116 : Int) =>
 br (decide (x116 ≤ 0)) (rd Try.prog (Instr.loadAt 23 (.pointer (some x1))) (.agg [(.int .i64), (.int .i64)]) w84 fun (x117 : (Int × Int × Unit)) =>
 rd Try.prog (Instr.loadAt 23 (.pointer (some x5))) (.agg [(.int .i64), (.int .i64)]) w84 fun (x118 : (Int × Int × Unit)) =>
 flend bel w84 (fun w120 => F85 16 [(.agg #[(.int .i64 x110.1), (.int .i64 x110.2.1)]), (.agg #[(.int .i64 x111.1), (.int .i64 x111.2.1)])] (.int .i64 x116) w120 ∧ F85 11 [(.agg #[(.int .i64 x103.1), (.int .i64 x103.2.1)]), (.agg #[(.int .i64 x104.1), (.int .i64 x104.2.1)])] (.int .i64 x109) w120 ∧ F85 5 [(.agg #[(.int .i64 x93.1), (.int .i64 x93.2.1)]), (.agg #[(.int .i64 x94.1), (.int .i64 x94.2.1)])] (.int .i64 x99) w120 ∧ F85 2 [(.agg #[(.int .i64 x86.1), (.int .i64 x86.2.1)]), (.agg #[(.int .i64 x87.1), (.int .i64 x87.2.1)])] (.int .i64 x92) w120 ∧ True) fun w119 =>
 call Try.prog 8 [(.agg #[(.int .i64 x117.1), (.int .i64 x117.2.1)]), (.agg #[(.int .i64 x118.1), (.int .i64 x118.2.1)])] (.one (.one (.int .i64))) w119 fun (x121 : Int) (w122 : World) =>
 br (decide (x121 > 0)) (R (.bool false) w122)
 (K20 (()) w122))
 (flend bel w84 (fun w124 => F85 16 [(.agg #[(.int .i64 x110.1), (.int .i64 x110.2.1)]), (.agg #[(.int .i64 x111.1), (.int .i64 x111.2.1)])] (.int .i64 x116) w124 ∧ F85 11 [(.agg #[(.int .i64 x103.1), (.int .i64 x103.2.1)]), (.agg #[(.int .i64 x104.1), (.int .i64 x104.2.1)])] (.int .i64 x109) w124 ∧ F85 5 [(.agg #[(.int .i64 x93.1), (.int .i64 x93.2.1)]), (.agg #[(.int .i64 x94.1), (.int .i64 x94.2.1)])] (.int .i64 x99) w124 ∧ F85 2 [(.agg #[(.int .i64 x86.1), (.int .i64 x86.2.1)]), (.agg #[(.int .i64 x87.1), (.int .i64 x87.2.1)])] (.int .i64 x92) w124 ∧ True) fun w123 =>
 K20 (()) w123))
 (flend bel w84 (fun w126 => F85 11 [(.agg #[(.int .i64 x103.1), (.int .i64 x103.2.1)]), (.agg #[(.int .i64 x104.1), (.int .i64 x104.2.1)])] (.int .i64 x109) w126 ∧ F85 5 [(.agg #[(.int .i64 x93.1), (.int .i64 x93.2.1)]), (.agg #[(.int .i64 x94.1), (.int .i64 x94.2.1)])] (.int .i64 x99) w126 ∧ F85 2 [(.agg #[(.int .i64 x86.1), (.int .i64 x86.2.1)]), (.agg #[(.int .i64 x87.1), (.int .i64 x87.2.1)])] (.int .i64 x92) w126 ∧ True) fun w125 =>
 K20 (()) w125))))
  fun (K7 : (Bool × Unit) → World → Prop) =>
 rd Try.prog (Instr.loadAt 23 (.pointer (some x1))) (.agg [(.int .i64), (.int .i64)]) w6 fun (x127 : (Int × Int × Unit)) =>
 call Try.prog 7 [(.agg #[(.int .i64 x127.1), (.int .i64 x127.2.1)])] (.one (.one .bool)) w6 fun (x128 : Bool) (w129 : World) =>
 br (!x128) (K7 (true, ()) w129)
 (rd Try.prog (Instr.loadAt 23 (.pointer (some x3))) (.agg [(.int .i64), (.int .i64)]) w129 fun (x130 : (Int × Int × Unit)) =>
 call Try.prog 7 [(.agg #[(.int .i64 x130.1), (.int .i64 x130.2.1)])] (.one (.one .bool)) w129 fun (x131 : Bool) (w132 : World) =>
 br (!x131) (K7 (true, ()) w132)
 (rd Try.prog (Instr.loadAt 23 (.pointer (some x5))) (.agg [(.int .i64), (.int .i64)]) w132 fun (x133 : (Int × Int × Unit)) =>
 call Try.prog 7 [(.agg #[(.int .i64 x133.1), (.int .i64 x133.2.1)])] (.one (.one .bool)) w132 fun (x134 : Bool) (w135 : World) =>
 K7 ((!x134), ()) w135))
def H3 : Hints := ⟨[(3, 1, [(21, (.one .bool))]), (0, 60, [])], [(3, 22), (7, 23)], [], []⟩
set_option maxRecDepth 100000 in
theorem S3_eq (a_0 : Int) (a_1 : Int) (b_0 : Int) (b_1 : Int) (c_0 : Int) (c_1 : Int) (w0 : World) (R : Value → World → Prop) : vcFn Try.prog H3 Try.f3 [(.agg #[(.int .i64 a_0), (.int .i64 a_1)]), (.agg #[(.int .i64 b_0), (.int .i64 b_1)]), (.agg #[(.int .i64 c_0), (.int .i64 c_1)])] w0 R = S3 a_0 a_1 b_0 b_1 c_0 c_1 w0 R := by kernel_rfl
theorem S3_calls (a_0 : Int) (a_1 : Int) (b_0 : Int) (b_1 : Int) (c_0 : Int) (c_1 : Int) (w0 : World) (R : Value → World → Prop) (h : S3 a_0 a_1 b_0 b_1 c_0 c_1 w0 R) : Calls Try.prog 3 #[(.agg #[(.int .i64 a_0), (.int .i64 a_1)]), (.agg #[(.int .i64 b_0), (.int .i64 b_1)]), (.agg #[(.int .i64 c_0), (.int .i64 c_1)])] w0 (ret R) := by
  rw [← S3_eq] at h; exact vcFn_sound follows_ Try.func3 h

end Go.Proofs
