import Derived.KernelRfl
import Derived.Laws.CopyRow
import Derived.Test.YtajpdnphamomjaaGreatPackIntegralSound4

/- The conditions of functions, printed by our tool; each is checked against the code by the kernel. -/



namespace Go.Proofs
open Go Go.V Go.RowKit
/-- querylab/integral.Size -/
def S28 (p_0 : Int) (p_1a : Option Addr) (p_1n : Nat) (p_1c : Nat) (p_2 : Int) (p_3 : Int) (p_4a : Option Addr) (p_4n : Nat) (p_4c : Nat) (w0 : World) (R : Value → World → Prop) : Prop :=
 wr Tryz.prog (Instr.box 35 (.agg #[(.int .i64 p_0), (.slice p_1a p_1n p_1c), (.int .i64 p_2), (.int .i64 p_3), (.slice p_4a p_4n p_4c)])) (.one .addr) w0 fun (x1 : Addr) (w2 : World) =>
 rd Tryz.prog (Instr.loadAt 33 (.pointer (some (Addr.add x1 4)))) (.one .slice) w2 fun (x3 : (Option Addr × Nat × Nat)) =>
 loop (T := (Int × Int × Unit)) (1, 0, ()) w2 fun (again4 : (Int × Int × Unit) → World → Prop) (s5 : (Int × Int × Unit)) w6 => ∀ _ : Nat → Value,
 br (decide (s5.2.1 < ((x3.2.1 : Nat) : Int))) (rdp Tryz.prog (Instr.indexAt 33 (.slice x3.1 x3.2.1 x3.2.2) (.int .i64 s5.2.1)) (.one .addr) fun (x7 : Addr) =>
 rd Tryz.prog (Instr.loadAt 35 (.pointer (some x7))) (.agg [(.int .i64), .slice, (.int .i64), (.int .i64), .slice]) w6 fun (x8 : (Int × (Option Addr × Nat × Nat) × Int × Int × (Option Addr × Nat × Nat) × Unit)) =>
 wr Tryz.prog (Instr.alloc 35 true (.tuple #[])) (.one .addr) w6 fun (x9 : Addr) (w10 : World) =>
 wu Tryz.prog (Instr.storeAt 35 (.pointer (some x9)) (.agg #[(.int .i64 x8.1), (.slice x8.2.1.1 x8.2.1.2.1 x8.2.1.2.2), (.int .i64 x8.2.2.1), (.int .i64 x8.2.2.2.1), (.slice x8.2.2.2.2.1.1 x8.2.2.2.2.1.2.1 x8.2.2.2.2.1.2.2)])) w10 fun (w11 : World) =>
 rd Tryz.prog (Instr.loadAt 35 (.pointer (some x9))) (.agg [(.int .i64), .slice, (.int .i64), (.int .i64), .slice]) w11 fun (x12 : (Int × (Option Addr × Nat × Nat) × Int × Int × (Option Addr × Nat × Nat) × Unit)) =>
 call Tryz.prog 28 [(.agg #[(.int .i64 x12.1), (.slice x12.2.1.1 x12.2.1.2.1 x12.2.1.2.2), (.int .i64 x12.2.2.1), (.int .i64 x12.2.2.2.1), (.slice x12.2.2.2.2.1.1 x12.2.2.2.2.1.2.1 x12.2.2.2.2.1.2.2)])] (.one (.one (.int .i64))) w11 fun (x13 : Int) (w14 : World) =>
 z (IntKind.wrap .i64 (s5.1 + x13)) fun (z15 : Int) =>
 z (IntKind.wrap .i64 (s5.2.1 + 1)) fun (z16 : Int) =>
 again4 (z15, z16, ()) w14)
 (R (.int .i64 s5.1) w6)
def H28 : Hints := ⟨[(2, 0, [(3, (.one (.int .i64))), (9, (.one (.int .i64)))])], [], [], []⟩
set_option maxRecDepth 100000 in
theorem S28_eq (p_0 : Int) (p_1a : Option Addr) (p_1n : Nat) (p_1c : Nat) (p_2 : Int) (p_3 : Int) (p_4a : Option Addr) (p_4n : Nat) (p_4c : Nat) (w0 : World) (R : Value → World → Prop) : vcFn Tryz.prog H28 Tryz.f28 [(.agg #[(.int .i64 p_0), (.slice p_1a p_1n p_1c), (.int .i64 p_2), (.int .i64 p_3), (.slice p_4a p_4n p_4c)])] w0 R = S28 p_0 p_1a p_1n p_1c p_2 p_3 p_4a p_4n p_4c w0 R := by kernel_rfl
set_option maxRecDepth 100000 in
theorem S28_calls (p_0 : Int) (p_1a : Option Addr) (p_1n : Nat) (p_1c : Nat) (p_2 : Int) (p_3 : Int) (p_4a : Option Addr) (p_4n : Nat) (p_4c : Nat) (w0 : World) (R : Value → World → Prop) (h : S28 p_0 p_1a p_1n p_1c p_2 p_3 p_4a p_4n p_4c w0 R) : Calls Tryz.prog 28 #[(.agg #[(.int .i64 p_0), (.slice p_1a p_1n p_1c), (.int .i64 p_2), (.int .i64 p_3), (.slice p_4a p_4n p_4c)])] w0 (ret R) := by
  rw [← S28_eq] at h; exact vcFn_sound follows_ Tryz.func28 h

/-- querylab/querylabref12.Size -/
def S24 (p_0 : Int) (p_1a : Option Addr) (p_1n : Nat) (p_1c : Nat) (p_2 : Int) (p_3 : Int) (p_4a : Option Addr) (p_4n : Nat) (p_4c : Nat) (w0 : World) (R : Value → World → Prop) : Prop :=
 wr Tryz.prog (Instr.box 35 (.agg #[(.int .i64 p_0), (.slice p_1a p_1n p_1c), (.int .i64 p_2), (.int .i64 p_3), (.slice p_4a p_4n p_4c)])) (.one .addr) w0 fun (x1 : Addr) (w2 : World) =>
 loop (T := (Int × Int × Unit)) (1, 0, ()) w2 fun (again3 : (Int × Int × Unit) → World → Prop) (s4 : (Int × Int × Unit)) w5 => ∀ _ : Nat → Value,
 rd Tryz.prog (Instr.loadAt 33 (.pointer (some (Addr.add x1 4)))) (.one .slice) w5 fun (x6 : (Option Addr × Nat × Nat)) =>
 br (decide (s4.2.1 < ((x6.2.1 : Nat) : Int))) (rd Tryz.prog (Instr.loadAt 33 (.pointer (some (Addr.add x1 4)))) (.one .slice) w5 fun (x7 : (Option Addr × Nat × Nat)) =>
 rdp Tryz.prog (Instr.indexAt 33 (.slice x7.1 x7.2.1 x7.2.2) (.int .i64 s4.2.1)) (.one .addr) fun (x8 : Addr) =>
 rd Tryz.prog (Instr.loadAt 35 (.pointer (some x8))) (.agg [(.int .i64), .slice, (.int .i64), (.int .i64), .slice]) w5 fun (x9 : (Int × (Option Addr × Nat × Nat) × Int × Int × (Option Addr × Nat × Nat) × Unit)) =>
 call Tryz.prog 24 [(.agg #[(.int .i64 x9.1), (.slice x9.2.1.1 x9.2.1.2.1 x9.2.1.2.2), (.int .i64 x9.2.2.1), (.int .i64 x9.2.2.2.1), (.slice x9.2.2.2.2.1.1 x9.2.2.2.2.1.2.1 x9.2.2.2.2.1.2.2)])] (.one (.one (.int .i64))) w5 fun (x10 : Int) (w11 : World) =>
 z (IntKind.wrap .i64 (s4.1 + x10)) fun (z12 : Int) =>
 z (IntKind.wrap .i64 (s4.2.1 + 1)) fun (z13 : Int) =>
 again3 (z12, z13, ()) w11)
 (R (.int .i64 s4.1) w5)
def H24 : Hints := ⟨[(2, 0, [(3, (.one (.int .i64))), (4, (.one (.int .i64)))])], [], [], []⟩
set_option maxRecDepth 100000 in
theorem S24_eq (p_0 : Int) (p_1a : Option Addr) (p_1n : Nat) (p_1c : Nat) (p_2 : Int) (p_3 : Int) (p_4a : Option Addr) (p_4n : Nat) (p_4c : Nat) (w0 : World) (R : Value → World → Prop) : vcFn Tryz.prog H24 Tryz.f24 [(.agg #[(.int .i64 p_0), (.slice p_1a p_1n p_1c), (.int .i64 p_2), (.int .i64 p_3), (.slice p_4a p_4n p_4c)])] w0 R = S24 p_0 p_1a p_1n p_1c p_2 p_3 p_4a p_4n p_4c w0 R := by kernel_rfl
set_option maxRecDepth 100000 in
theorem S24_calls (p_0 : Int) (p_1a : Option Addr) (p_1n : Nat) (p_1c : Nat) (p_2 : Int) (p_3 : Int) (p_4a : Option Addr) (p_4n : Nat) (p_4c : Nat) (w0 : World) (R : Value → World → Prop) (h : S24 p_0 p_1a p_1n p_1c p_2 p_3 p_4a p_4n p_4c w0 R) : Calls Tryz.prog 24 #[(.agg #[(.int .i64 p_0), (.slice p_1a p_1n p_1c), (.int .i64 p_2), (.int .i64 p_3), (.slice p_4a p_4n p_4c)])] w0 (ret R) := by
  rw [← S24_eq] at h; exact vcFn_sound follows_ Tryz.func24 h

/-- querylab/integral.depth -/
def S29 (p_0 : Int) (p_1a : Option Addr) (p_1n : Nat) (p_1c : Nat) (p_2 : Int) (p_3 : Int) (p_4a : Option Addr) (p_4n : Nat) (p_4c : Nat) (w0 : World) (R : Value → World → Prop) : Prop :=
 wr Tryz.prog (Instr.box 35 (.agg #[(.int .i64 p_0), (.slice p_1a p_1n p_1c), (.int .i64 p_2), (.int .i64 p_3), (.slice p_4a p_4n p_4c)])) (.one .addr) w0 fun (x1 : Addr) (w2 : World) =>
 rd Tryz.prog (Instr.loadAt 33 (.pointer (some (Addr.add x1 4)))) (.one .slice) w2 fun (x3 : (Option Addr × Nat × Nat)) =>
 loop (T := (Int × Int × Unit)) (0, 0, ()) w2 fun (again4 : (Int × Int × Unit) → World → Prop) (s5 : (Int × Int × Unit)) w6 => ∀ _ : Nat → Value,
 br (decide (s5.2.1 < ((x3.2.1 : Nat) : Int))) (rdp Tryz.prog (Instr.indexAt 33 (.slice x3.1 x3.2.1 x3.2.2) (.int .i64 s5.2.1)) (.one .addr) fun (x7 : Addr) =>
 rd Tryz.prog (Instr.loadAt 35 (.pointer (some x7))) (.agg [(.int .i64), .slice, (.int .i64), (.int .i64), .slice]) w6 fun (x8 : (Int × (Option Addr × Nat × Nat) × Int × Int × (Option Addr × Nat × Nat) × Unit)) =>
 wr Tryz.prog (Instr.alloc 35 true (.tuple #[])) (.one .addr) w6 fun (x9 : Addr) (w10 : World) =>
 wu Tryz.prog (Instr.storeAt 35 (.pointer (some x9)) (.agg #[(.int .i64 x8.1), (.slice x8.2.1.1 x8.2.1.2.1 x8.2.1.2.2), (.int .i64 x8.2.2.1), (.int .i64 x8.2.2.2.1), (.slice x8.2.2.2.2.1.1 x8.2.2.2.2.1.2.1 x8.2.2.2.2.1.2.2)])) w10 fun (w11 : World) =>
 rd Tryz.prog (Instr.loadAt 35 (.pointer (some x9))) (.agg [(.int .i64), .slice, (.int .i64), (.int .i64), .slice]) w11 fun (x12 : (Int × (Option Addr × Nat × Nat) × Int × Int × (Option Addr × Nat × Nat) × Unit)) =>
 call Tryz.prog 29 [(.agg #[(.int .i64 x12.1), (.slice x12.2.1.1 x12.2.1.2.1 x12.2.1.2.2), (.int .i64 x12.2.2.1), (.int .i64 x12.2.2.2.1), (.slice x12.2.2.2.2.1.1 x12.2.2.2.2.1.2.1 x12.2.2.2.2.1.2.2)])] (.one (.one (.int .i64))) w11 fun (x13 : Int) (w14 : World) =>
 z (if x13 > s5.1 then x13 else s5.1) fun (z15 : Int) =>
 z (IntKind.wrap .i64 (s5.2.1 + 1)) fun (z16 : Int) =>
 again4 (z15, z16, ()) w14)
 (z (IntKind.wrap .i64 (s5.1 + 1)) fun (z17 : Int) =>
 R (.int .i64 z17) w6)
def H29 : Hints := ⟨[(2, 0, [(3, (.one (.int .i64))), (9, (.one (.int .i64)))])], [], [], []⟩
set_option maxRecDepth 100000 in
theorem S29_eq (p_0 : Int) (p_1a : Option Addr) (p_1n : Nat) (p_1c : Nat) (p_2 : Int) (p_3 : Int) (p_4a : Option Addr) (p_4n : Nat) (p_4c : Nat) (w0 : World) (R : Value → World → Prop) : vcFn Tryz.prog H29 Tryz.f29 [(.agg #[(.int .i64 p_0), (.slice p_1a p_1n p_1c), (.int .i64 p_2), (.int .i64 p_3), (.slice p_4a p_4n p_4c)])] w0 R = S29 p_0 p_1a p_1n p_1c p_2 p_3 p_4a p_4n p_4c w0 R := by kernel_rfl
set_option maxRecDepth 100000 in
theorem S29_calls (p_0 : Int) (p_1a : Option Addr) (p_1n : Nat) (p_1c : Nat) (p_2 : Int) (p_3 : Int) (p_4a : Option Addr) (p_4n : Nat) (p_4c : Nat) (w0 : World) (R : Value → World → Prop) (h : S29 p_0 p_1a p_1n p_1c p_2 p_3 p_4a p_4n p_4c w0 R) : Calls Tryz.prog 29 #[(.agg #[(.int .i64 p_0), (.slice p_1a p_1n p_1c), (.int .i64 p_2), (.int .i64 p_3), (.slice p_4a p_4n p_4c)])] w0 (ret R) := by
  rw [← S29_eq] at h; exact vcFn_sound follows_ Tryz.func29 h

/-- querylab/querylabref12.depth -/
def S25 (p_0 : Int) (p_1a : Option Addr) (p_1n : Nat) (p_1c : Nat) (p_2 : Int) (p_3 : Int) (p_4a : Option Addr) (p_4n : Nat) (p_4c : Nat) (w0 : World) (R : Value → World → Prop) : Prop :=
 wr Tryz.prog (Instr.box 35 (.agg #[(.int .i64 p_0), (.slice p_1a p_1n p_1c), (.int .i64 p_2), (.int .i64 p_3), (.slice p_4a p_4n p_4c)])) (.one .addr) w0 fun (x1 : Addr) (w2 : World) =>
 loop (T := (Int × Int × Unit)) (0, 0, ()) w2 fun (again3 : (Int × Int × Unit) → World → Prop) (s4 : (Int × Int × Unit)) w5 => ∀ _ : Nat → Value,
 rd Tryz.prog (Instr.loadAt 33 (.pointer (some (Addr.add x1 4)))) (.one .slice) w5 fun (x6 : (Option Addr × Nat × Nat)) =>
 br (decide (s4.2.1 < ((x6.2.1 : Nat) : Int))) (rd Tryz.prog (Instr.loadAt 33 (.pointer (some (Addr.add x1 4)))) (.one .slice) w5 fun (x7 : (Option Addr × Nat × Nat)) =>
 rdp Tryz.prog (Instr.indexAt 33 (.slice x7.1 x7.2.1 x7.2.2) (.int .i64 s4.2.1)) (.one .addr) fun (x8 : Addr) =>
 rd Tryz.prog (Instr.loadAt 35 (.pointer (some x8))) (.agg [(.int .i64), .slice, (.int .i64), (.int .i64), .slice]) w5 fun (x9 : (Int × (Option Addr × Nat × Nat) × Int × Int × (Option Addr × Nat × Nat) × Unit)) =>
 call Tryz.prog 25 [(.agg #[(.int .i64 x9.1), (.slice x9.2.1.1 x9.2.1.2.1 x9.2.1.2.2), (.int .i64 x9.2.2.1), (.int .i64 x9.2.2.2.1), (.slice x9.2.2.2.2.1.1 x9.2.2.2.2.1.2.1 x9.2.2.2.2.1.2.2)])] (.one (.one (.int .i64))) w5 fun (x10 : Int) (w11 : World) =>
 z (if x10 > s4.1 then x10 else s4.1) fun (z12 : Int) =>
 z (IntKind.wrap .i64 (s4.2.1 + 1)) fun (z13 : Int) =>
 again3 (z12, z13, ()) w11)
 (z (IntKind.wrap .i64 (s4.1 + 1)) fun (z14 : Int) =>
 R (.int .i64 z14) w5)
def H25 : Hints := ⟨[(2, 0, [(3, (.one (.int .i64))), (4, (.one (.int .i64)))])], [], [], []⟩
set_option maxRecDepth 100000 in
theorem S25_eq (p_0 : Int) (p_1a : Option Addr) (p_1n : Nat) (p_1c : Nat) (p_2 : Int) (p_3 : Int) (p_4a : Option Addr) (p_4n : Nat) (p_4c : Nat) (w0 : World) (R : Value → World → Prop) : vcFn Tryz.prog H25 Tryz.f25 [(.agg #[(.int .i64 p_0), (.slice p_1a p_1n p_1c), (.int .i64 p_2), (.int .i64 p_3), (.slice p_4a p_4n p_4c)])] w0 R = S25 p_0 p_1a p_1n p_1c p_2 p_3 p_4a p_4n p_4c w0 R := by kernel_rfl
set_option maxRecDepth 100000 in
theorem S25_calls (p_0 : Int) (p_1a : Option Addr) (p_1n : Nat) (p_1c : Nat) (p_2 : Int) (p_3 : Int) (p_4a : Option Addr) (p_4n : Nat) (p_4c : Nat) (w0 : World) (R : Value → World → Prop) (h : S25 p_0 p_1a p_1n p_1c p_2 p_3 p_4a p_4n p_4c w0 R) : Calls Tryz.prog 25 #[(.agg #[(.int .i64 p_0), (.slice p_1a p_1n p_1c), (.int .i64 p_2), (.int .i64 p_3), (.slice p_4a p_4n p_4c)])] w0 (ret R) := by
  rw [← S25_eq] at h; exact vcFn_sound follows_ Tryz.func25 h

/-- querylab/querylabref12.copied -/
def S55 (l_a : Option Addr) (l_n : Nat) (l_c : Nat) (w0 : World) (R : Value → World → Prop) : Prop :=
 wr Tryz.prog (Instr.makeSlice 26 (.int .i64 ((l_n : Nat) : Int)) (.int .i64 ((l_n : Nat) : Int))) (.one .slice) w0 fun (x1 : (Option Addr × Nat × Nat)) (w2 : World) =>
 wr Tryz.prog (Builtin.copy_ #[26, 26] 3 #[(.slice x1.1 x1.2.1 x1.2.2), (.slice l_a l_n l_c)]) (.one (.int .i64)) w2 fun (_x3 : Int) (w4 : World) =>
 R (.slice x1.1 x1.2.1 x1.2.2) w4
def H55 : Hints := ⟨[], [], [], []⟩
set_option maxRecDepth 100000 in
theorem S55_eq (l_a : Option Addr) (l_n : Nat) (l_c : Nat) (w0 : World) (R : Value → World → Prop) : vcFn Tryz.prog H55 Tryz.f55 [(.slice l_a l_n l_c)] w0 R = S55 l_a l_n l_c w0 R := by kernel_rfl
set_option maxRecDepth 100000 in
theorem S55_calls (l_a : Option Addr) (l_n : Nat) (l_c : Nat) (w0 : World) (R : Value → World → Prop) (h : S55 l_a l_n l_c w0 R) : Calls Tryz.prog 55 #[(.slice l_a l_n l_c)] w0 (ret R) := by
  rw [← S55_eq] at h; exact vcFn_sound follows_ Tryz.func55 h

/-- slices.Clone[[]int64,int64] -/
def S39 (s_a : Option Addr) (s_n : Nat) (s_c : Nat) (w0 : World) (R : Value → World → Prop) : Prop :=
 rd Tryz.prog (cmpS .eql 26 (.tmp 3) (.const (.slice none 0 0)) (.slice s_a s_n s_c) (.slice none 0 0)) (.one .bool) w0 fun (x1 : Bool) =>
 br x1 (R (.slice none 0 0) w0)
 (wr Tryz.prog (Instr.buildSlice 26 0 #[]) (.one .slice) w0 fun (x2 : (Option Addr × Nat × Nat)) (w3 : World) =>
 wr Tryz.prog (Builtin.append_ #[26, 26] 26 #[(.slice x2.1 x2.2.1 x2.2.2), (.slice s_a s_n s_c)]) (.one .slice) w3 fun (x4 : (Option Addr × Nat × Nat)) (w5 : World) =>
 R (.slice x4.1 x4.2.1 x4.2.2) w5)
def H39 : Hints := ⟨[], [], [], []⟩
set_option maxRecDepth 100000 in
theorem S39_eq (s_a : Option Addr) (s_n : Nat) (s_c : Nat) (w0 : World) (R : Value → World → Prop) : vcFn Tryz.prog H39 Tryz.f39 [(.slice s_a s_n s_c)] w0 R = S39 s_a s_n s_c w0 R := by kernel_rfl
set_option maxRecDepth 100000 in
theorem S39_calls (s_a : Option Addr) (s_n : Nat) (s_c : Nat) (w0 : World) (R : Value → World → Prop) (h : S39 s_a s_n s_c w0 R) : Calls Tryz.prog 39 #[(.slice s_a s_n s_c)] w0 (ret R) := by
  rw [← S39_eq] at h; exact vcFn_sound follows_ Tryz.func39 h

/-- querylab/integral.right -/
def S30 (s_0a : Option Addr) (s_0n : Nat) (s_0c : Nat) (s_1a : Option Addr) (s_1n : Nat) (s_1c : Nat) (s_2a : Option Addr) (s_2n : Nat) (s_2c : Nat) (p_0 : Int) (p_1a : Option Addr) (p_1n : Nat) (p_1c : Nat) (p_2 : Int) (p_3 : Int) (p_4a : Option Addr) (p_4n : Nat) (p_4c : Nat) (lower_a : Option Addr) (lower_n : Nat) (lower_c : Nat) (upper_a : Option Addr) (upper_n : Nat) (upper_c : Nat) (w0 : World) (R : Value → World → Prop) : Prop :=
 wr Tryz.prog (Instr.box 29 (.agg #[(.slice s_0a s_0n s_0c), (.slice s_1a s_1n s_1c), (.slice s_2a s_2n s_2c)])) (.one .addr) w0 fun (x1 : Addr) (w2 : World) =>
 wr Tryz.prog (Instr.box 35 (.agg #[(.int .i64 p_0), (.slice p_1a p_1n p_1c), (.int .i64 p_2), (.int .i64 p_3), (.slice p_4a p_4n p_4c)])) (.one .addr) w2 fun (x3 : Addr) (w4 : World) =>
 join (T := (Bool × Unit)) (fun (s6 : (Bool × Unit)) w7 => ∀ _ : Nat → Value,
 rd Tryz.prog (Instr.loadAt 3 (.pointer (some x3))) (.one (.int .i64)) w7 fun (x8 : Int) =>
 br (x8 == 1) (br (!s6.1) (rd Tryz.prog (Instr.loadAt 29 (.pointer (some x1))) (.agg [.slice, .slice, .slice]) w7 fun (x9 : ((Option Addr × Nat × Nat) × (Option Addr × Nat × Nat) × (Option Addr × Nat × Nat) × Unit)) =>
 rd Tryz.prog (Instr.loadAt 32 (.pointer (some (Addr.add x3 1)))) (.one .slice) w7 fun (x10 : (Option Addr × Nat × Nat)) =>
 call Tryz.prog 56 [(.agg #[(.slice x9.1.1 x9.1.2.1 x9.1.2.2), (.slice x9.2.1.1 x9.2.1.2.1 x9.2.1.2.2), (.slice x9.2.2.1.1 x9.2.2.1.2.1 x9.2.2.1.2.2)]), (.slice lower_a lower_n lower_c), (.slice upper_a upper_n upper_c), (.slice x10.1 x10.2.1 x10.2.2)] (.one (.one .bool)) w7 fun (x11 : Bool) (w12 : World) =>
 R (.bool x11) w12)
 (R (.bool false) w7))
 (br (x8 == 2) (br (!s6.1) (rd Tryz.prog (Instr.loadAt 29 (.pointer (some x1))) (.agg [.slice, .slice, .slice]) w7 fun (x13 : ((Option Addr × Nat × Nat) × (Option Addr × Nat × Nat) × (Option Addr × Nat × Nat) × Unit)) =>
 rd Tryz.prog (Instr.loadAt 32 (.pointer (some (Addr.add x3 1)))) (.one .slice) w7 fun (x14 : (Option Addr × Nat × Nat)) =>
 call Tryz.prog 57 [(.agg #[(.slice x13.1.1 x13.1.2.1 x13.1.2.2), (.slice x13.2.1.1 x13.2.1.2.1 x13.2.1.2.2), (.slice x13.2.2.1.1 x13.2.2.1.2.1 x13.2.2.1.2.2)]), (.slice x14.1 x14.2.1 x14.2.2)] (.one (.one .bool)) w7 fun (x15 : Bool) (w16 : World) =>
 R (.bool x15) w16)
 (R (.bool false) w7))
 (br (x8 == 3) (rd Tryz.prog (Instr.loadAt 33 (.pointer (some (Addr.add x3 4)))) (.one .slice) w7 fun (x17 : (Option Addr × Nat × Nat)) =>
 br (((x17.2.1 : Nat) : Int) != 2) (R (.bool false) w7)
 (rd Tryz.prog (Instr.loadAt 32 (.pointer (some (Addr.add x3 1)))) (.one .slice) w7 fun (x18 : (Option Addr × Nat × Nat)) =>
 br (decide (((x18.2.1 : Nat) : Int) > 0)) (R (.bool false) w7)
 (rd Tryz.prog (Instr.loadAt 3 (.pointer (some (Addr.add x3 2)))) (.one (.int .i64)) w7 fun (x19 : Int) =>
 br (decide (x19 < 0)) (R (.bool false) w7)
 (rd Tryz.prog (Instr.loadAt 3 (.pointer (some (Addr.add x3 2)))) (.one (.int .i64)) w7 fun (x20 : Int) =>
 rd Tryz.prog (Instr.loadAt 26 (.pointer (some x1))) (.one .slice) w7 fun (x21 : (Option Addr × Nat × Nat)) =>
 br (decide (x20 ≥ ((x21.2.1 : Nat) : Int))) (R (.bool false) w7)
 (rd Tryz.prog (Instr.loadAt 2 (.pointer (some (Addr.add x3 3)))) (.one (.int .i64)) w7 fun (x22 : Int) =>
 br (decide (x22 < 0)) (R (.bool false) w7)
 (rd Tryz.prog (Instr.loadAt 2 (.pointer (some (Addr.add x3 3)))) (.one (.int .i64)) w7 fun (x23 : Int) =>
 br (decide (x23 > 1000000000)) (R (.bool false) w7)
 (call Tryz.prog 39 [(.slice lower_a lower_n lower_c)] (.one (.one .slice)) w7 fun (x24 : (Option Addr × Nat × Nat)) (w25 : World) =>
 call Tryz.prog 39 [(.slice upper_a upper_n upper_c)] (.one (.one .slice)) w25 fun (x26 : (Option Addr × Nat × Nat)) (w27 : World) =>
 drw w27 fun w28 => flExC w28 fun E31 G30 Y29 F32 =>
 rdE Tryz.prog (ER Y29 [24, 26] E31) (Instr.loadAt 3 (.pointer (some (Addr.add x3 2)))) (.one (.int .i64)) w28 fun (x33 : Int) =>
 rdE Tryz.prog (ER Y29 [26] E31) (Instr.loadAt 3 (.pointer (some (Addr.add x3 2)))) (.one (.int .i64)) w28 fun (x34 : Int) =>
 rdE Tryz.prog (ER Y29 [24, 26] E31) (Instr.loadAt 3 (.pointer (some (Addr.add x3 2)))) (.one (.int .i64)) w28 fun (x35 : Int) =>
 rdp Tryz.prog (Instr.indexAt 26 (.slice x26.1 x26.2.1 x26.2.2) (.int .i64 x35)) (.one .addr) fun (x36 : Addr) =>
 rdE Tryz.prog (ER Y29 [24, 26] E31) (Instr.loadAt 2 (.pointer (some x36))) (.one (.int .i64)) w28 fun (x37 : Int) =>
 rdE Tryz.prog (ER Y29 [24, 26] E31) (Instr.loadAt 2 (.pointer (some (Addr.add x3 3)))) (.one (.int .i64)) w28 fun (x38 : Int) =>
 z (if x38 < x37 then x38 else x37) fun (z39 : Int) =>
 rdE Tryz.prog (ER Y29 [24, 26] E31) (Instr.loadAt 3 (.pointer (some (Addr.add x3 2)))) (.one (.int .i64)) w28 fun (x40 : Int) =>
 rdp Tryz.prog (Instr.indexAt 26 (.slice x24.1 x24.2.1 x24.2.2) (.int .i64 x40)) (.one .addr) fun (x41 : Addr) =>
 rdE Tryz.prog (ER Y29 [24, 26] E31) (Instr.loadAt 2 (.pointer (some x41))) (.one (.int .i64)) w28 fun (x42 : Int) =>
 rdE Tryz.prog (ER Y29 [26] E31) (Instr.loadAt 2 (.pointer (some (Addr.add x3 3)))) (.one (.int .i64)) w28 fun (x43 : Int) =>
 z (IntKind.wrap .i64 (x43 + 1)) fun (z44 : Int) =>
 z (if z44 > x42 then z44 else x42) fun (z45 : Int) =>
 rdp Tryz.prog (Instr.indexAt 26 (.slice x26.1 x26.2.1 x26.2.2) (.int .i64 x33)) (.one .addr) fun (x46 : Addr) =>
 flcC Y29 24 E31 w28 (fun _w48 => True) (fun (D49 : Nat → Bool) (w47 : World) =>
   wu Tryz.prog (Instr.storeAt 2 (.pointer (some x46)) (.int .i64 z39)) w47 fun (w50 : World) =>
 (E31 w47 w50 ∧ G30 24 w47 w50 ∧ Y29 (setD D49 24) w50 ∧ F32 24 [] undef w50))
  fun (_x51 : (Unit)) =>
 flendC Y29 [24] E31 w28 (fun w53 => F32 24 [] (.tuple #[]) w53 ∧ True) fun w52 =>
 rdp Tryz.prog (Instr.indexAt 26 (.slice x24.1 x24.2.1 x24.2.2) (.int .i64 x34)) (.one .addr) fun (x54 : Addr) =>
 wu Tryz.prog (Instr.storeAt 2 (.pointer (some x54)) (.int .i64 z45)) w52 fun (w55 : World) =>
 drw w55 fun w56 => flEx fun F57 =>
 rd Tryz.prog (Instr.loadAt 29 (.pointer (some x1))) (.agg [.slice, .slice, .slice]) w56 fun (x58 : ((Option Addr × Nat × Nat) × (Option Addr × Nat × Nat) × (Option Addr × Nat × Nat) × Unit)) =>
 rd Tryz.prog (Instr.loadAt 33 (.pointer (some (Addr.add x3 4)))) (.one .slice) w56 fun (x59 : (Option Addr × Nat × Nat)) =>
 rdp Tryz.prog (Instr.indexAt 33 (.slice x59.1 x59.2.1 x59.2.2) (.int .i64 0)) (.one .addr) fun (x60 : Addr) =>
 rd Tryz.prog (Instr.loadAt 35 (.pointer (some x60))) (.agg [(.int .i64), .slice, (.int .i64), (.int .i64), .slice]) w56 fun (x61 : (Int × (Option Addr × Nat × Nat) × Int × Int × (Option Addr × Nat × Nat) × Unit)) =>
 flc bel w56 (fun _w63 => True) (fun (w62 : World) =>
   call Tryz.prog 30 [(.agg #[(.slice x58.1.1 x58.1.2.1 x58.1.2.2), (.slice x58.2.1.1 x58.2.1.2.1 x58.2.1.2.2), (.slice x58.2.2.1.1 x58.2.2.1.2.1 x58.2.2.1.2.2)]), (.agg #[(.int .i64 x61.1), (.slice x61.2.1.1 x61.2.1.2.1 x61.2.1.2.2), (.int .i64 x61.2.2.1), (.int .i64 x61.2.2.2.1), (.slice x61.2.2.2.2.1.1 x61.2.2.2.2.1.2.1 x61.2.2.2.2.1.2.2)]), (.slice lower_a lower_n lower_c), (.slice x26.1 x26.2.1 x26.2.2)] (.one (.one .bool)) w62 fun (x64 : Bool) (w65 : World) =>
 (bel w62 w65 ∧ F57 7 [(.agg #[(.slice x58.1.1 x58.1.2.1 x58.1.2.2), (.slice x58.2.1.1 x58.2.1.2.1 x58.2.1.2.2), (.slice x58.2.2.1.1 x58.2.2.1.2.1 x58.2.2.1.2.2)]), (.agg #[(.int .i64 x61.1), (.slice x61.2.1.1 x61.2.1.2.1 x61.2.1.2.2), (.int .i64 x61.2.2.1), (.int .i64 x61.2.2.2.1), (.slice x61.2.2.2.2.1.1 x61.2.2.2.2.1.2.1 x61.2.2.2.2.1.2.2)]), (.slice lower_a lower_n lower_c), (.slice x26.1 x26.2.1 x26.2.2)] (.bool x64) w65))
  fun (x66 : Bool) =>
 br x66 (rd Tryz.prog (Instr.loadAt 29 (.pointer (some x1))) (.agg [.slice, .slice, .slice]) w56 fun (x67 : ((Option Addr × Nat × Nat) × (Option Addr × Nat × Nat) × (Option Addr × Nat × Nat) × Unit)) =>
 rd Tryz.prog (Instr.loadAt 33 (.pointer (some (Addr.add x3 4)))) (.one .slice) w56 fun (x68 : (Option Addr × Nat × Nat)) =>
 rdp Tryz.prog (Instr.indexAt 33 (.slice x68.1 x68.2.1 x68.2.2) (.int .i64 1)) (.one .addr) fun (x69 : Addr) =>
 rd Tryz.prog (Instr.loadAt 35 (.pointer (some x69))) (.agg [(.int .i64), .slice, (.int .i64), (.int .i64), .slice]) w56 fun (x70 : (Int × (Option Addr × Nat × Nat) × Int × Int × (Option Addr × Nat × Nat) × Unit)) =>
 flend bel w56 (fun w72 => F57 7 [(.agg #[(.slice x58.1.1 x58.1.2.1 x58.1.2.2), (.slice x58.2.1.1 x58.2.1.2.1 x58.2.1.2.2), (.slice x58.2.2.1.1 x58.2.2.1.2.1 x58.2.2.1.2.2)]), (.agg #[(.int .i64 x61.1), (.slice x61.2.1.1 x61.2.1.2.1 x61.2.1.2.2), (.int .i64 x61.2.2.1), (.int .i64 x61.2.2.2.1), (.slice x61.2.2.2.2.1.1 x61.2.2.2.2.1.2.1 x61.2.2.2.2.1.2.2)]), (.slice lower_a lower_n lower_c), (.slice x26.1 x26.2.1 x26.2.2)] (.bool x66) w72 ∧ True) fun w71 =>
 call Tryz.prog 30 [(.agg #[(.slice x67.1.1 x67.1.2.1 x67.1.2.2), (.slice x67.2.1.1 x67.2.1.2.1 x67.2.1.2.2), (.slice x67.2.2.1.1 x67.2.2.1.2.1 x67.2.2.1.2.2)]), (.agg #[(.int .i64 x70.1), (.slice x70.2.1.1 x70.2.1.2.1 x70.2.1.2.2), (.int .i64 x70.2.2.1), (.int .i64 x70.2.2.2.1), (.slice x70.2.2.2.2.1.1 x70.2.2.2.2.1.2.1 x70.2.2.2.2.1.2.2)]), (.slice x24.1 x24.2.1 x24.2.2), (.slice upper_a upper_n upper_c)] (.one (.one .bool)) w71 fun (x73 : Bool) (w74 : World) =>
 R (.bool x73) w74)
 (flend bel w56 (fun w76 => F57 7 [(.agg #[(.slice x58.1.1 x58.1.2.1 x58.1.2.2), (.slice x58.2.1.1 x58.2.1.2.1 x58.2.1.2.2), (.slice x58.2.2.1.1 x58.2.2.1.2.1 x58.2.2.1.2.2)]), (.agg #[(.int .i64 x61.1), (.slice x61.2.1.1 x61.2.1.2.1 x61.2.1.2.2), (.int .i64 x61.2.2.1), (.int .i64 x61.2.2.2.1), (.slice x61.2.2.2.2.1.1 x61.2.2.2.2.1.2.1 x61.2.2.2.2.1.2.2)]), (.slice lower_a lower_n lower_c), (.slice x26.1 x26.2.1 x26.2.2)] (.bool x66) w76 ∧ True) fun w75 =>
 R (.bool false) w75))))))))
 (R (.bool false) w7))))
  fun (K5 : (Bool × Unit) → World → Prop) =>
 rd Tryz.prog (Instr.loadAt 3 (.pointer (some (Addr.add x3 2)))) (.one (.int .i64)) w4 fun (x77 : Int) =>
 br (x77 != 0) (K5 (true, ()) w4)
 (rd Tryz.prog (Instr.loadAt 2 (.pointer (some (Addr.add x3 3)))) (.one (.int .i64)) w4 fun (x78 : Int) =>
 br (x78 != 0) (K5 (true, ()) w4)
 (rd Tryz.prog (Instr.loadAt 33 (.pointer (some (Addr.add x3 4)))) (.one .slice) w4 fun (x79 : (Option Addr × Nat × Nat)) =>
 K5 ((decide (((x79.2.1 : Nat) : Int) > 0)), ()) w4))
def H30 : Hints := ⟨[(3, 1, [(9, (.one .bool))])], [(11, 25), (12, 16)], [], [1000011]⟩
set_option maxRecDepth 100000 in
theorem S30_eq (s_0a : Option Addr) (s_0n : Nat) (s_0c : Nat) (s_1a : Option Addr) (s_1n : Nat) (s_1c : Nat) (s_2a : Option Addr) (s_2n : Nat) (s_2c : Nat) (p_0 : Int) (p_1a : Option Addr) (p_1n : Nat) (p_1c : Nat) (p_2 : Int) (p_3 : Int) (p_4a : Option Addr) (p_4n : Nat) (p_4c : Nat) (lower_a : Option Addr) (lower_n : Nat) (lower_c : Nat) (upper_a : Option Addr) (upper_n : Nat) (upper_c : Nat) (w0 : World) (R : Value → World → Prop) : vcFn Tryz.prog H30 Tryz.f30 [(.agg #[(.slice s_0a s_0n s_0c), (.slice s_1a s_1n s_1c), (.slice s_2a s_2n s_2c)]), (.agg #[(.int .i64 p_0), (.slice p_1a p_1n p_1c), (.int .i64 p_2), (.int .i64 p_3), (.slice p_4a p_4n p_4c)]), (.slice lower_a lower_n lower_c), (.slice upper_a upper_n upper_c)] w0 R = S30 s_0a s_0n s_0c s_1a s_1n s_1c s_2a s_2n s_2c p_0 p_1a p_1n p_1c p_2 p_3 p_4a p_4n p_4c lower_a lower_n lower_c upper_a upper_n upper_c w0 R := by kernel_rfl
set_option maxRecDepth 100000 in
theorem S30_calls (s_0a : Option Addr) (s_0n : Nat) (s_0c : Nat) (s_1a : Option Addr) (s_1n : Nat) (s_1c : Nat) (s_2a : Option Addr) (s_2n : Nat) (s_2c : Nat) (p_0 : Int) (p_1a : Option Addr) (p_1n : Nat) (p_1c : Nat) (p_2 : Int) (p_3 : Int) (p_4a : Option Addr) (p_4n : Nat) (p_4c : Nat) (lower_a : Option Addr) (lower_n : Nat) (lower_c : Nat) (upper_a : Option Addr) (upper_n : Nat) (upper_c : Nat) (w0 : World) (R : Value → World → Prop) (h : S30 s_0a s_0n s_0c s_1a s_1n s_1c s_2a s_2n s_2c p_0 p_1a p_1n p_1c p_2 p_3 p_4a p_4n p_4c lower_a lower_n lower_c upper_a upper_n upper_c w0 R) : Calls Tryz.prog 30 #[(.agg #[(.slice s_0a s_0n s_0c), (.slice s_1a s_1n s_1c), (.slice s_2a s_2n s_2c)]), (.agg #[(.int .i64 p_0), (.slice p_1a p_1n p_1c), (.int .i64 p_2), (.int .i64 p_3), (.slice p_4a p_4n p_4c)]), (.slice lower_a lower_n lower_c), (.slice upper_a upper_n upper_c)] w0 (ret R) := by
  rw [← S30_eq] at h; exact vcFn_sound follows_ Tryz.func30 h

/-- querylab/querylabref12.right -/
def S26 (s_0a : Option Addr) (s_0n : Nat) (s_0c : Nat) (s_1a : Option Addr) (s_1n : Nat) (s_1c : Nat) (s_2a : Option Addr) (s_2n : Nat) (s_2c : Nat) (p_0 : Int) (p_1a : Option Addr) (p_1n : Nat) (p_1c : Nat) (p_2 : Int) (p_3 : Int) (p_4a : Option Addr) (p_4n : Nat) (p_4c : Nat) (lower_a : Option Addr) (lower_n : Nat) (lower_c : Nat) (upper_a : Option Addr) (upper_n : Nat) (upper_c : Nat) (w0 : World) (R : Value → World → Prop) : Prop :=
 wr Tryz.prog (Instr.box 29 (.agg #[(.slice s_0a s_0n s_0c), (.slice s_1a s_1n s_1c), (.slice s_2a s_2n s_2c)])) (.one .addr) w0 fun (x1 : Addr) (w2 : World) =>
 wr Tryz.prog (Instr.box 35 (.agg #[(.int .i64 p_0), (.slice p_1a p_1n p_1c), (.int .i64 p_2), (.int .i64 p_3), (.slice p_4a p_4n p_4c)])) (.one .addr) w2 fun (x3 : Addr) (w4 : World) =>
 rd Tryz.prog (Instr.loadAt 3 (.pointer (some x3))) (.one (.int .i64)) w4 fun (x5 : Int) =>
 br (x5 == 1) (rd Tryz.prog (Instr.loadAt 33 (.pointer (some (Addr.add x3 4)))) (.one .slice) w4 fun (x6 : (Option Addr × Nat × Nat)) =>
 br (((x6.2.1 : Nat) : Int) == 0) (rd Tryz.prog (Instr.loadAt 3 (.pointer (some (Addr.add x3 2)))) (.one (.int .i64)) w4 fun (x7 : Int) =>
 br (x7 == 0) (rd Tryz.prog (Instr.loadAt 2 (.pointer (some (Addr.add x3 3)))) (.one (.int .i64)) w4 fun (x8 : Int) =>
 br (x8 == 0) (rd Tryz.prog (Instr.loadAt 29 (.pointer (some x1))) (.agg [.slice, .slice, .slice]) w4 fun (x9 : ((Option Addr × Nat × Nat) × (Option Addr × Nat × Nat) × (Option Addr × Nat × Nat) × Unit)) =>
 rd Tryz.prog (Instr.loadAt 32 (.pointer (some (Addr.add x3 1)))) (.one .slice) w4 fun (x10 : (Option Addr × Nat × Nat)) =>
 call Tryz.prog 53 [(.agg #[(.slice x9.1.1 x9.1.2.1 x9.1.2.2), (.slice x9.2.1.1 x9.2.1.2.1 x9.2.1.2.2), (.slice x9.2.2.1.1 x9.2.2.1.2.1 x9.2.2.1.2.2)]), (.slice lower_a lower_n lower_c), (.slice upper_a upper_n upper_c), (.slice x10.1 x10.2.1 x10.2.2)] (.one (.one .bool)) w4 fun (x11 : Bool) (w12 : World) =>
 R (.bool x11) w12)
 (R (.bool false) w4))
 (R (.bool false) w4))
 (R (.bool false) w4))
 (br (x5 == 2) (rd Tryz.prog (Instr.loadAt 33 (.pointer (some (Addr.add x3 4)))) (.one .slice) w4 fun (x13 : (Option Addr × Nat × Nat)) =>
 br (((x13.2.1 : Nat) : Int) == 0) (rd Tryz.prog (Instr.loadAt 3 (.pointer (some (Addr.add x3 2)))) (.one (.int .i64)) w4 fun (x14 : Int) =>
 br (x14 == 0) (rd Tryz.prog (Instr.loadAt 2 (.pointer (some (Addr.add x3 3)))) (.one (.int .i64)) w4 fun (x15 : Int) =>
 br (x15 == 0) (rd Tryz.prog (Instr.loadAt 29 (.pointer (some x1))) (.agg [.slice, .slice, .slice]) w4 fun (x16 : ((Option Addr × Nat × Nat) × (Option Addr × Nat × Nat) × (Option Addr × Nat × Nat) × Unit)) =>
 rd Tryz.prog (Instr.loadAt 32 (.pointer (some (Addr.add x3 1)))) (.one .slice) w4 fun (x17 : (Option Addr × Nat × Nat)) =>
 call Tryz.prog 54 [(.agg #[(.slice x16.1.1 x16.1.2.1 x16.1.2.2), (.slice x16.2.1.1 x16.2.1.2.1 x16.2.1.2.2), (.slice x16.2.2.1.1 x16.2.2.1.2.1 x16.2.2.1.2.2)]), (.slice x17.1 x17.2.1 x17.2.2)] (.one (.one .bool)) w4 fun (x18 : Bool) (w19 : World) =>
 R (.bool x18) w19)
 (R (.bool false) w4))
 (R (.bool false) w4))
 (R (.bool false) w4))
 (br (x5 == 3) (rd Tryz.prog (Instr.loadAt 33 (.pointer (some (Addr.add x3 4)))) (.one .slice) w4 fun (x20 : (Option Addr × Nat × Nat)) =>
 br (((x20.2.1 : Nat) : Int) != 2) (R (.bool false) w4)
 (rd Tryz.prog (Instr.loadAt 32 (.pointer (some (Addr.add x3 1)))) (.one .slice) w4 fun (x21 : (Option Addr × Nat × Nat)) =>
 br (decide (((x21.2.1 : Nat) : Int) > 0)) (R (.bool false) w4)
 (rd Tryz.prog (Instr.loadAt 3 (.pointer (some (Addr.add x3 2)))) (.one (.int .i64)) w4 fun (x22 : Int) =>
 br (decide (x22 < 0)) (R (.bool false) w4)
 (rd Tryz.prog (Instr.loadAt 3 (.pointer (some (Addr.add x3 2)))) (.one (.int .i64)) w4 fun (x23 : Int) =>
 rd Tryz.prog (Instr.loadAt 26 (.pointer (some x1))) (.one .slice) w4 fun (x24 : (Option Addr × Nat × Nat)) =>
 br (decide (x23 ≥ ((x24.2.1 : Nat) : Int))) (R (.bool false) w4)
 (rd Tryz.prog (Instr.loadAt 2 (.pointer (some (Addr.add x3 3)))) (.one (.int .i64)) w4 fun (x25 : Int) =>
 br (decide (x25 < 0)) (R (.bool false) w4)
 (rd Tryz.prog (Instr.loadAt 2 (.pointer (some (Addr.add x3 3)))) (.one (.int .i64)) w4 fun (x26 : Int) =>
 br (decide (x26 > 1000000000)) (R (.bool false) w4)
 (call Tryz.prog 55 [(.slice lower_a lower_n lower_c)] (.one (.one .slice)) w4 fun (x27 : (Option Addr × Nat × Nat)) (w28 : World) =>
 call Tryz.prog 55 [(.slice upper_a upper_n upper_c)] (.one (.one .slice)) w28 fun (x29 : (Option Addr × Nat × Nat)) (w30 : World) =>
 drw w30 fun w31 =>
 rd Tryz.prog (Instr.loadAt 3 (.pointer (some (Addr.add x3 2)))) (.one (.int .i64)) w31 fun (x32 : Int) =>
 rd Tryz.prog (Instr.loadAt 3 (.pointer (some (Addr.add x3 2)))) (.one (.int .i64)) w31 fun (x33 : Int) =>
 rdp Tryz.prog (Instr.indexAt 26 (.slice x29.1 x29.2.1 x29.2.2) (.int .i64 x33)) (.one .addr) fun (x34 : Addr) =>
 rd Tryz.prog (Instr.loadAt 2 (.pointer (some x34))) (.one (.int .i64)) w31 fun (x35 : Int) =>
 rd Tryz.prog (Instr.loadAt 2 (.pointer (some (Addr.add x3 3)))) (.one (.int .i64)) w31 fun (x36 : Int) =>
 z (if x36 < x35 then x36 else x35) fun (z37 : Int) =>
 rdp Tryz.prog (Instr.indexAt 26 (.slice x29.1 x29.2.1 x29.2.2) (.int .i64 x32)) (.one .addr) fun (x38 : Addr) =>
 wu Tryz.prog (Instr.storeAt 2 (.pointer (some x38)) (.int .i64 z37)) w31 fun (w39 : World) =>
 drw w39 fun w40 =>
 rd Tryz.prog (Instr.loadAt 3 (.pointer (some (Addr.add x3 2)))) (.one (.int .i64)) w40 fun (x41 : Int) =>
 rd Tryz.prog (Instr.loadAt 3 (.pointer (some (Addr.add x3 2)))) (.one (.int .i64)) w40 fun (x42 : Int) =>
 rdp Tryz.prog (Instr.indexAt 26 (.slice x27.1 x27.2.1 x27.2.2) (.int .i64 x42)) (.one .addr) fun (x43 : Addr) =>
 rd Tryz.prog (Instr.loadAt 2 (.pointer (some x43))) (.one (.int .i64)) w40 fun (x44 : Int) =>
 rd Tryz.prog (Instr.loadAt 2 (.pointer (some (Addr.add x3 3)))) (.one (.int .i64)) w40 fun (x45 : Int) =>
 z (IntKind.wrap .i64 (x45 + 1)) fun (z46 : Int) =>
 z (if z46 > x44 then z46 else x44) fun (z47 : Int) =>
 rdp Tryz.prog (Instr.indexAt 26 (.slice x27.1 x27.2.1 x27.2.2) (.int .i64 x41)) (.one .addr) fun (x48 : Addr) =>
 wu Tryz.prog (Instr.storeAt 2 (.pointer (some x48)) (.int .i64 z47)) w40 fun (w49 : World) =>
 drw w49 fun w50 => flEx fun F51 =>
 rd Tryz.prog (Instr.loadAt 29 (.pointer (some x1))) (.agg [.slice, .slice, .slice]) w50 fun (x52 : ((Option Addr × Nat × Nat) × (Option Addr × Nat × Nat) × (Option Addr × Nat × Nat) × Unit)) =>
 rd Tryz.prog (Instr.loadAt 33 (.pointer (some (Addr.add x3 4)))) (.one .slice) w50 fun (x53 : (Option Addr × Nat × Nat)) =>
 rdp Tryz.prog (Instr.indexAt 33 (.slice x53.1 x53.2.1 x53.2.2) (.int .i64 0)) (.one .addr) fun (x54 : Addr) =>
 rd Tryz.prog (Instr.loadAt 35 (.pointer (some x54))) (.agg [(.int .i64), .slice, (.int .i64), (.int .i64), .slice]) w50 fun (x55 : (Int × (Option Addr × Nat × Nat) × Int × Int × (Option Addr × Nat × Nat) × Unit)) =>
 flc bel w50 (fun _w57 => True) (fun (w56 : World) =>
   call Tryz.prog 26 [(.agg #[(.slice x52.1.1 x52.1.2.1 x52.1.2.2), (.slice x52.2.1.1 x52.2.1.2.1 x52.2.1.2.2), (.slice x52.2.2.1.1 x52.2.2.1.2.1 x52.2.2.1.2.2)]), (.agg #[(.int .i64 x55.1), (.slice x55.2.1.1 x55.2.1.2.1 x55.2.1.2.2), (.int .i64 x55.2.2.1), (.int .i64 x55.2.2.2.1), (.slice x55.2.2.2.2.1.1 x55.2.2.2.2.1.2.1 x55.2.2.2.2.1.2.2)]), (.slice lower_a lower_n lower_c), (.slice x29.1 x29.2.1 x29.2.2)] (.one (.one .bool)) w56 fun (x58 : Bool) (w59 : World) =>
 (bel w56 w59 ∧ F51 7 [(.agg #[(.slice x52.1.1 x52.1.2.1 x52.1.2.2), (.slice x52.2.1.1 x52.2.1.2.1 x52.2.1.2.2), (.slice x52.2.2.1.1 x52.2.2.1.2.1 x52.2.2.1.2.2)]), (.agg #[(.int .i64 x55.1), (.slice x55.2.1.1 x55.2.1.2.1 x55.2.1.2.2), (.int .i64 x55.2.2.1), (.int .i64 x55.2.2.2.1), (.slice x55.2.2.2.2.1.1 x55.2.2.2.2.1.2.1 x55.2.2.2.2.1.2.2)]), (.slice lower_a lower_n lower_c), (.slice x29.1 x29.2.1 x29.2.2)] (.bool x58) w59))
  fun (x60 : Bool) =>
 br x60 (rd Tryz.prog (Instr.loadAt 29 (.pointer (some x1))) (.agg [.slice, .slice, .slice]) w50 fun (x61 : ((Option Addr × Nat × Nat) × (Option Addr × Nat × Nat) × (Option Addr × Nat × Nat) × Unit)) =>
 rd Tryz.prog (Instr.loadAt 33 (.pointer (some (Addr.add x3 4)))) (.one .slice) w50 fun (x62 : (Option Addr × Nat × Nat)) =>
 rdp Tryz.prog (Instr.indexAt 33 (.slice x62.1 x62.2.1 x62.2.2) (.int .i64 1)) (.one .addr) fun (x63 : Addr) =>
 rd Tryz.prog (Instr.loadAt 35 (.pointer (some x63))) (.agg [(.int .i64), .slice, (.int .i64), (.int .i64), .slice]) w50 fun (x64 : (Int × (Option Addr × Nat × Nat) × Int × Int × (Option Addr × Nat × Nat) × Unit)) =>
 flend bel w50 (fun w66 => F51 7 [(.agg #[(.slice x52.1.1 x52.1.2.1 x52.1.2.2), (.slice x52.2.1.1 x52.2.1.2.1 x52.2.1.2.2), (.slice x52.2.2.1.1 x52.2.2.1.2.1 x52.2.2.1.2.2)]), (.agg #[(.int .i64 x55.1), (.slice x55.2.1.1 x55.2.1.2.1 x55.2.1.2.2), (.int .i64 x55.2.2.1), (.int .i64 x55.2.2.2.1), (.slice x55.2.2.2.2.1.1 x55.2.2.2.2.1.2.1 x55.2.2.2.2.1.2.2)]), (.slice lower_a lower_n lower_c), (.slice x29.1 x29.2.1 x29.2.2)] (.bool x60) w66 ∧ True) fun w65 =>
 call Tryz.prog 26 [(.agg #[(.slice x61.1.1 x61.1.2.1 x61.1.2.2), (.slice x61.2.1.1 x61.2.1.2.1 x61.2.1.2.2), (.slice x61.2.2.1.1 x61.2.2.1.2.1 x61.2.2.1.2.2)]), (.agg #[(.int .i64 x64.1), (.slice x64.2.1.1 x64.2.1.2.1 x64.2.1.2.2), (.int .i64 x64.2.2.1), (.int .i64 x64.2.2.2.1), (.slice x64.2.2.2.2.1.1 x64.2.2.2.2.1.2.1 x64.2.2.2.2.1.2.2)]), (.slice x27.1 x27.2.1 x27.2.2), (.slice upper_a upper_n upper_c)] (.one (.one .bool)) w65 fun (x67 : Bool) (w68 : World) =>
 R (.bool x67) w68)
 (flend bel w50 (fun w70 => F51 7 [(.agg #[(.slice x52.1.1 x52.1.2.1 x52.1.2.2), (.slice x52.2.1.1 x52.2.1.2.1 x52.2.1.2.2), (.slice x52.2.2.1.1 x52.2.2.1.2.1 x52.2.2.1.2.2)]), (.agg #[(.int .i64 x55.1), (.slice x55.2.1.1 x55.2.1.2.1 x55.2.1.2.2), (.int .i64 x55.2.2.1), (.int .i64 x55.2.2.2.1), (.slice x55.2.2.2.2.1.1 x55.2.2.2.2.1.2.1 x55.2.2.2.2.1.2.2)]), (.slice lower_a lower_n lower_c), (.slice x29.1 x29.2.1 x29.2.2)] (.bool x60) w70 ∧ True) fun w69 =>
 R (.bool false) w69))))))))
 (R (.bool false) w4)))
def H26 : Hints := ⟨[], [(10, 11), (11, 12), (12, 16)], [], []⟩
set_option maxRecDepth 100000 in
theorem S26_eq (s_0a : Option Addr) (s_0n : Nat) (s_0c : Nat) (s_1a : Option Addr) (s_1n : Nat) (s_1c : Nat) (s_2a : Option Addr) (s_2n : Nat) (s_2c : Nat) (p_0 : Int) (p_1a : Option Addr) (p_1n : Nat) (p_1c : Nat) (p_2 : Int) (p_3 : Int) (p_4a : Option Addr) (p_4n : Nat) (p_4c : Nat) (lower_a : Option Addr) (lower_n : Nat) (lower_c : Nat) (upper_a : Option Addr) (upper_n : Nat) (upper_c : Nat) (w0 : World) (R : Value → World → Prop) : vcFn Tryz.prog H26 Tryz.f26 [(.agg #[(.slice s_0a s_0n s_0c), (.slice s_1a s_1n s_1c), (.slice s_2a s_2n s_2c)]), (.agg #[(.int .i64 p_0), (.slice p_1a p_1n p_1c), (.int .i64 p_2), (.int .i64 p_3), (.slice p_4a p_4n p_4c)]), (.slice lower_a lower_n lower_c), (.slice upper_a upper_n upper_c)] w0 R = S26 s_0a s_0n s_0c s_1a s_1n s_1c s_2a s_2n s_2c p_0 p_1a p_1n p_1c p_2 p_3 p_4a p_4n p_4c lower_a lower_n lower_c upper_a upper_n upper_c w0 R := by kernel_rfl
set_option maxRecDepth 100000 in
theorem S26_calls (s_0a : Option Addr) (s_0n : Nat) (s_0c : Nat) (s_1a : Option Addr) (s_1n : Nat) (s_1c : Nat) (s_2a : Option Addr) (s_2n : Nat) (s_2c : Nat) (p_0 : Int) (p_1a : Option Addr) (p_1n : Nat) (p_1c : Nat) (p_2 : Int) (p_3 : Int) (p_4a : Option Addr) (p_4n : Nat) (p_4c : Nat) (lower_a : Option Addr) (lower_n : Nat) (lower_c : Nat) (upper_a : Option Addr) (upper_n : Nat) (upper_c : Nat) (w0 : World) (R : Value → World → Prop) (h : S26 s_0a s_0n s_0c s_1a s_1n s_1c s_2a s_2n s_2c p_0 p_1a p_1n p_1c p_2 p_3 p_4a p_4n p_4c lower_a lower_n lower_c upper_a upper_n upper_c w0 R) : Calls Tryz.prog 26 #[(.agg #[(.slice s_0a s_0n s_0c), (.slice s_1a s_1n s_1c), (.slice s_2a s_2n s_2c)]), (.agg #[(.int .i64 p_0), (.slice p_1a p_1n p_1c), (.int .i64 p_2), (.int .i64 p_3), (.slice p_4a p_4n p_4c)]), (.slice lower_a lower_n lower_c), (.slice upper_a upper_n upper_c)] w0 (ret R) := by
  rw [← S26_eq] at h; exact vcFn_sound follows_ Tryz.func26 h

/-- querylab/integral.CheckProof -/
def S16 (s_0a : Option Addr) (s_0n : Nat) (s_0c : Nat) (s_1a : Option Addr) (s_1n : Nat) (s_1c : Nat) (s_2a : Option Addr) (s_2n : Nat) (s_2c : Nat) (p_0 : Int) (p_1a : Option Addr) (p_1n : Nat) (p_1c : Nat) (p_2 : Int) (p_3 : Int) (p_4a : Option Addr) (p_4n : Nat) (p_4c : Nat) (w0 : World) (R : Value → World → Prop) : Prop :=
 wr Tryz.prog (Instr.box 29 (.agg #[(.slice s_0a s_0n s_0c), (.slice s_1a s_1n s_1c), (.slice s_2a s_2n s_2c)])) (.one .addr) w0 fun (x1 : Addr) (w2 : World) =>
 wr Tryz.prog (Instr.box 35 (.agg #[(.int .i64 p_0), (.slice p_1a p_1n p_1c), (.int .i64 p_2), (.int .i64 p_3), (.slice p_4a p_4n p_4c)])) (.one .addr) w2 fun (x3 : Addr) (w4 : World) =>
 drw w4 fun w5 => flEx fun F6 =>
 rd Tryz.prog (Instr.loadAt 29 (.pointer (some x1))) (.agg [.slice, .slice, .slice]) w5 fun (x7 : ((Option Addr × Nat × Nat) × (Option Addr × Nat × Nat) × (Option Addr × Nat × Nat) × Unit)) =>
 flc bel w5 (fun _w9 => True) (fun (w8 : World) =>
   call Tryz.prog 18 [(.agg #[(.slice x7.1.1 x7.1.2.1 x7.1.2.2), (.slice x7.2.1.1 x7.2.1.2.1 x7.2.1.2.2), (.slice x7.2.2.1.1 x7.2.2.1.2.1 x7.2.2.1.2.2)])] (.one (.one (.int .i64))) w8 fun (x10 : Int) (w11 : World) =>
 (bel w8 w11 ∧ F6 1 [(.agg #[(.slice x7.1.1 x7.1.2.1 x7.1.2.2), (.slice x7.2.1.1 x7.2.1.2.1 x7.2.1.2.2), (.slice x7.2.2.1.1 x7.2.2.1.2.1 x7.2.2.1.2.2)])] (.int .i64 x10) w11))
  fun (x12 : Int) =>
 br (x12 == 0) (rd Tryz.prog (Instr.loadAt 35 (.pointer (some x3))) (.agg [(.int .i64), .slice, (.int .i64), (.int .i64), .slice]) w5 fun (x13 : (Int × (Option Addr × Nat × Nat) × Int × Int × (Option Addr × Nat × Nat) × Unit)) =>
 flc bel w5 (fun w15 => F6 1 [(.agg #[(.slice x7.1.1 x7.1.2.1 x7.1.2.2), (.slice x7.2.1.1 x7.2.1.2.1 x7.2.1.2.2), (.slice x7.2.2.1.1 x7.2.2.1.2.1 x7.2.2.1.2.2)])] (.int .i64 x12) w15 ∧ True) (fun (w14 : World) =>
   call Tryz.prog 28 [(.agg #[(.int .i64 x13.1), (.slice x13.2.1.1 x13.2.1.2.1 x13.2.1.2.2), (.int .i64 x13.2.2.1), (.int .i64 x13.2.2.2.1), (.slice x13.2.2.2.2.1.1 x13.2.2.2.2.1.2.1 x13.2.2.2.2.1.2.2)])] (.one (.one (.int .i64))) w14 fun (x16 : Int) (w17 : World) =>
 (bel w14 w17 ∧ F6 5 [(.agg #[(.int .i64 x13.1), (.slice x13.2.1.1 x13.2.1.2.1 x13.2.1.2.2), (.int .i64 x13.2.2.1), (.int .i64 x13.2.2.2.1), (.slice x13.2.2.2.2.1.1 x13.2.2.2.2.1.2.1 x13.2.2.2.2.1.2.2)])] (.int .i64 x16) w17))
  fun (x18 : Int) =>
 br (decide (x18 ≤ 2000)) (rd Tryz.prog (Instr.loadAt 35 (.pointer (some x3))) (.agg [(.int .i64), .slice, (.int .i64), (.int .i64), .slice]) w5 fun (x19 : (Int × (Option Addr × Nat × Nat) × Int × Int × (Option Addr × Nat × Nat) × Unit)) =>
 flc bel w5 (fun w21 => F6 5 [(.agg #[(.int .i64 x13.1), (.slice x13.2.1.1 x13.2.1.2.1 x13.2.1.2.2), (.int .i64 x13.2.2.1), (.int .i64 x13.2.2.2.1), (.slice x13.2.2.2.2.1.1 x13.2.2.2.2.1.2.1 x13.2.2.2.2.1.2.2)])] (.int .i64 x18) w21 ∧ F6 1 [(.agg #[(.slice x7.1.1 x7.1.2.1 x7.1.2.2), (.slice x7.2.1.1 x7.2.1.2.1 x7.2.1.2.2), (.slice x7.2.2.1.1 x7.2.2.1.2.1 x7.2.2.1.2.2)])] (.int .i64 x12) w21 ∧ True) (fun (w20 : World) =>
   call Tryz.prog 29 [(.agg #[(.int .i64 x19.1), (.slice x19.2.1.1 x19.2.1.2.1 x19.2.1.2.2), (.int .i64 x19.2.2.1), (.int .i64 x19.2.2.2.1), (.slice x19.2.2.2.2.1.1 x19.2.2.2.2.1.2.1 x19.2.2.2.2.1.2.2)])] (.one (.one (.int .i64))) w20 fun (x22 : Int) (w23 : World) =>
 (bel w20 w23 ∧ F6 10 [(.agg #[(.int .i64 x19.1), (.slice x19.2.1.1 x19.2.1.2.1 x19.2.1.2.2), (.int .i64 x19.2.2.1), (.int .i64 x19.2.2.2.1), (.slice x19.2.2.2.2.1.1 x19.2.2.2.2.1.2.1 x19.2.2.2.2.1.2.2)])] (.int .i64 x22) w23))
  fun (x24 : Int) =>
 br (decide (x24 ≤ 200)) (rd Tryz.prog (Instr.loadAt 29 (.pointer (some x1))) (.agg [.slice, .slice, .slice]) w5 fun (x25 : ((Option Addr × Nat × Nat) × (Option Addr × Nat × Nat) × (Option Addr × Nat × Nat) × Unit)) =>
 rd Tryz.prog (Instr.loadAt 35 (.pointer (some x3))) (.agg [(.int .i64), .slice, (.int .i64), (.int .i64), .slice]) w5 fun (x26 : (Int × (Option Addr × Nat × Nat) × Int × Int × (Option Addr × Nat × Nat) × Unit)) =>
 rd Tryz.prog (Instr.loadAt 26 (.pointer (some x1))) (.one .slice) w5 fun (x27 : (Option Addr × Nat × Nat)) =>
 flc bel w5 (fun w29 => F6 10 [(.agg #[(.int .i64 x19.1), (.slice x19.2.1.1 x19.2.1.2.1 x19.2.1.2.2), (.int .i64 x19.2.2.1), (.int .i64 x19.2.2.2.1), (.slice x19.2.2.2.2.1.1 x19.2.2.2.2.1.2.1 x19.2.2.2.2.1.2.2)])] (.int .i64 x24) w29 ∧ F6 5 [(.agg #[(.int .i64 x13.1), (.slice x13.2.1.1 x13.2.1.2.1 x13.2.1.2.2), (.int .i64 x13.2.2.1), (.int .i64 x13.2.2.2.1), (.slice x13.2.2.2.2.1.1 x13.2.2.2.2.1.2.1 x13.2.2.2.2.1.2.2)])] (.int .i64 x18) w29 ∧ F6 1 [(.agg #[(.slice x7.1.1 x7.1.2.1 x7.1.2.2), (.slice x7.2.1.1 x7.2.1.2.1 x7.2.1.2.2), (.slice x7.2.2.1.1 x7.2.2.1.2.1 x7.2.2.1.2.2)])] (.int .i64 x12) w29 ∧ True) (fun (w28 : World) =>
   wr Tryz.prog (Instr.makeSlice 26 (.int .i64 ((x27.2.1 : Nat) : Int)) (.int .i64 ((x27.2.1 : Nat) : Int))) (.one .slice) w28 fun (x30 : (Option Addr × Nat × Nat)) (w31 : World) =>
 (bel w28 w31 ∧ F6 19 [] (.slice x30.1 x30.2.1 x30.2.2) w31))
  fun (x32 : (Option Addr × Nat × Nat)) =>
 rd Tryz.prog (Instr.loadAt 26 (.pointer (some x1))) (.one .slice) w5 fun (x33 : (Option Addr × Nat × Nat)) =>
 flend bel w5 (fun w35 => F6 19 [] (.slice x32.1 x32.2.1 x32.2.2) w35 ∧ F6 10 [(.agg #[(.int .i64 x19.1), (.slice x19.2.1.1 x19.2.1.2.1 x19.2.1.2.2), (.int .i64 x19.2.2.1), (.int .i64 x19.2.2.2.1), (.slice x19.2.2.2.2.1.1 x19.2.2.2.2.1.2.1 x19.2.2.2.2.1.2.2)])] (.int .i64 x24) w35 ∧ F6 5 [(.agg #[(.int .i64 x13.1), (.slice x13.2.1.1 x13.2.1.2.1 x13.2.1.2.2), (.int .i64 x13.2.2.1), (.int .i64 x13.2.2.2.1), (.slice x13.2.2.2.2.1.1 x13.2.2.2.2.1.2.1 x13.2.2.2.2.1.2.2)])] (.int .i64 x18) w35 ∧ F6 1 [(.agg #[(.slice x7.1.1 x7.1.2.1 x7.1.2.2), (.slice x7.2.1.1 x7.2.1.2.1 x7.2.1.2.2), (.slice x7.2.2.1.1 x7.2.2.1.2.1 x7.2.2.1.2.2)])] (.int .i64 x12) w35 ∧ True) fun w34 =>
 call Tryz.prog 30 [(.agg #[(.slice x25.1.1 x25.1.2.1 x25.1.2.2), (.slice x25.2.1.1 x25.2.1.2.1 x25.2.1.2.2), (.slice x25.2.2.1.1 x25.2.2.1.2.1 x25.2.2.1.2.2)]), (.agg #[(.int .i64 x26.1), (.slice x26.2.1.1 x26.2.1.2.1 x26.2.1.2.2), (.int .i64 x26.2.2.1), (.int .i64 x26.2.2.2.1), (.slice x26.2.2.2.2.1.1 x26.2.2.2.2.1.2.1 x26.2.2.2.2.1.2.2)]), (.slice x32.1 x32.2.1 x32.2.2), (.slice x33.1 x33.2.1 x33.2.2)] (.one (.one .bool)) w34 fun (x36 : Bool) (w37 : World) =>
 R (.bool x36) w37)
 (flend bel w5 (fun w39 => F6 10 [(.agg #[(.int .i64 x19.1), (.slice x19.2.1.1 x19.2.1.2.1 x19.2.1.2.2), (.int .i64 x19.2.2.1), (.int .i64 x19.2.2.2.1), (.slice x19.2.2.2.2.1.1 x19.2.2.2.2.1.2.1 x19.2.2.2.2.1.2.2)])] (.int .i64 x24) w39 ∧ F6 5 [(.agg #[(.int .i64 x13.1), (.slice x13.2.1.1 x13.2.1.2.1 x13.2.1.2.2), (.int .i64 x13.2.2.1), (.int .i64 x13.2.2.2.1), (.slice x13.2.2.2.2.1.1 x13.2.2.2.2.1.2.1 x13.2.2.2.2.1.2.2)])] (.int .i64 x18) w39 ∧ F6 1 [(.agg #[(.slice x7.1.1 x7.1.2.1 x7.1.2.2), (.slice x7.2.1.1 x7.2.1.2.1 x7.2.1.2.2), (.slice x7.2.2.1.1 x7.2.2.1.2.1 x7.2.2.1.2.2)])] (.int .i64 x12) w39 ∧ True) fun w38 =>
 R (.bool false) w38))
 (flend bel w5 (fun w41 => F6 5 [(.agg #[(.int .i64 x13.1), (.slice x13.2.1.1 x13.2.1.2.1 x13.2.1.2.2), (.int .i64 x13.2.2.1), (.int .i64 x13.2.2.2.1), (.slice x13.2.2.2.2.1.1 x13.2.2.2.2.1.2.1 x13.2.2.2.2.1.2.2)])] (.int .i64 x18) w41 ∧ F6 1 [(.agg #[(.slice x7.1.1 x7.1.2.1 x7.1.2.2), (.slice x7.2.1.1 x7.2.1.2.1 x7.2.1.2.2), (.slice x7.2.2.1.1 x7.2.2.1.2.1 x7.2.2.1.2.2)])] (.int .i64 x12) w41 ∧ True) fun w40 =>
 R (.bool false) w40))
 (flend bel w5 (fun w43 => F6 1 [(.agg #[(.slice x7.1.1 x7.1.2.1 x7.1.2.2), (.slice x7.2.1.1 x7.2.1.2.1 x7.2.1.2.2), (.slice x7.2.2.1.1 x7.2.2.1.2.1 x7.2.2.1.2.2)])] (.int .i64 x12) w43 ∧ True) fun w42 =>
 R (.bool false) w42)
def H16 : Hints := ⟨[], [(1, 22)], [], []⟩
set_option maxRecDepth 100000 in
theorem S16_eq (s_0a : Option Addr) (s_0n : Nat) (s_0c : Nat) (s_1a : Option Addr) (s_1n : Nat) (s_1c : Nat) (s_2a : Option Addr) (s_2n : Nat) (s_2c : Nat) (p_0 : Int) (p_1a : Option Addr) (p_1n : Nat) (p_1c : Nat) (p_2 : Int) (p_3 : Int) (p_4a : Option Addr) (p_4n : Nat) (p_4c : Nat) (w0 : World) (R : Value → World → Prop) : vcFn Tryz.prog H16 Tryz.f16 [(.agg #[(.slice s_0a s_0n s_0c), (.slice s_1a s_1n s_1c), (.slice s_2a s_2n s_2c)]), (.agg #[(.int .i64 p_0), (.slice p_1a p_1n p_1c), (.int .i64 p_2), (.int .i64 p_3), (.slice p_4a p_4n p_4c)])] w0 R = S16 s_0a s_0n s_0c s_1a s_1n s_1c s_2a s_2n s_2c p_0 p_1a p_1n p_1c p_2 p_3 p_4a p_4n p_4c w0 R := by kernel_rfl
set_option maxRecDepth 100000 in
theorem S16_calls (s_0a : Option Addr) (s_0n : Nat) (s_0c : Nat) (s_1a : Option Addr) (s_1n : Nat) (s_1c : Nat) (s_2a : Option Addr) (s_2n : Nat) (s_2c : Nat) (p_0 : Int) (p_1a : Option Addr) (p_1n : Nat) (p_1c : Nat) (p_2 : Int) (p_3 : Int) (p_4a : Option Addr) (p_4n : Nat) (p_4c : Nat) (w0 : World) (R : Value → World → Prop) (h : S16 s_0a s_0n s_0c s_1a s_1n s_1c s_2a s_2n s_2c p_0 p_1a p_1n p_1c p_2 p_3 p_4a p_4n p_4c w0 R) : Calls Tryz.prog 16 #[(.agg #[(.slice s_0a s_0n s_0c), (.slice s_1a s_1n s_1c), (.slice s_2a s_2n s_2c)]), (.agg #[(.int .i64 p_0), (.slice p_1a p_1n p_1c), (.int .i64 p_2), (.int .i64 p_3), (.slice p_4a p_4n p_4c)])] w0 (ret R) := by
  rw [← S16_eq] at h; exact vcFn_sound follows_ Tryz.func16 h

/-- querylab/querylabref12.CheckProof -/
def S11 (s_0a : Option Addr) (s_0n : Nat) (s_0c : Nat) (s_1a : Option Addr) (s_1n : Nat) (s_1c : Nat) (s_2a : Option Addr) (s_2n : Nat) (s_2c : Nat) (p_0 : Int) (p_1a : Option Addr) (p_1n : Nat) (p_1c : Nat) (p_2 : Int) (p_3 : Int) (p_4a : Option Addr) (p_4n : Nat) (p_4c : Nat) (w0 : World) (R : Value → World → Prop) : Prop :=
 wr Tryz.prog (Instr.box 29 (.agg #[(.slice s_0a s_0n s_0c), (.slice s_1a s_1n s_1c), (.slice s_2a s_2n s_2c)])) (.one .addr) w0 fun (x1 : Addr) (w2 : World) =>
 wr Tryz.prog (Instr.box 35 (.agg #[(.int .i64 p_0), (.slice p_1a p_1n p_1c), (.int .i64 p_2), (.int .i64 p_3), (.slice p_4a p_4n p_4c)])) (.one .addr) w2 fun (x3 : Addr) (w4 : World) =>
 rd Tryz.prog (Instr.loadAt 29 (.pointer (some x1))) (.agg [.slice, .slice, .slice]) w4 fun (x5 : ((Option Addr × Nat × Nat) × (Option Addr × Nat × Nat) × (Option Addr × Nat × Nat) × Unit)) =>
 call Tryz.prog 14 [(.agg #[(.slice x5.1.1 x5.1.2.1 x5.1.2.2), (.slice x5.2.1.1 x5.2.1.2.1 x5.2.1.2.2), (.slice x5.2.2.1.1 x5.2.2.1.2.1 x5.2.2.1.2.2)])] (.one (.one (.int .i64))) w4 fun (x6 : Int) (w7 : World) =>
 br (x6 != 0) (R (.bool false) w7)
 (rd Tryz.prog (Instr.loadAt 35 (.pointer (some x3))) (.agg [(.int .i64), .slice, (.int .i64), (.int .i64), .slice]) w7 fun (x8 : (Int × (Option Addr × Nat × Nat) × Int × Int × (Option Addr × Nat × Nat) × Unit)) =>
 call Tryz.prog 24 [(.agg #[(.int .i64 x8.1), (.slice x8.2.1.1 x8.2.1.2.1 x8.2.1.2.2), (.int .i64 x8.2.2.1), (.int .i64 x8.2.2.2.1), (.slice x8.2.2.2.2.1.1 x8.2.2.2.2.1.2.1 x8.2.2.2.2.1.2.2)])] (.one (.one (.int .i64))) w7 fun (x9 : Int) (w10 : World) =>
 br (decide (x9 > 2000)) (R (.bool false) w10)
 (rd Tryz.prog (Instr.loadAt 35 (.pointer (some x3))) (.agg [(.int .i64), .slice, (.int .i64), (.int .i64), .slice]) w10 fun (x11 : (Int × (Option Addr × Nat × Nat) × Int × Int × (Option Addr × Nat × Nat) × Unit)) =>
 call Tryz.prog 25 [(.agg #[(.int .i64 x11.1), (.slice x11.2.1.1 x11.2.1.2.1 x11.2.1.2.2), (.int .i64 x11.2.2.1), (.int .i64 x11.2.2.2.1), (.slice x11.2.2.2.2.1.1 x11.2.2.2.2.1.2.1 x11.2.2.2.2.1.2.2)])] (.one (.one (.int .i64))) w10 fun (x12 : Int) (w13 : World) =>
 br (decide (x12 > 200)) (R (.bool false) w13)
 (drw w13 fun w14 => flEx fun F15 =>
 rd Tryz.prog (Instr.loadAt 29 (.pointer (some x1))) (.agg [.slice, .slice, .slice]) w14 fun (x16 : ((Option Addr × Nat × Nat) × (Option Addr × Nat × Nat) × (Option Addr × Nat × Nat) × Unit)) =>
 rd Tryz.prog (Instr.loadAt 35 (.pointer (some x3))) (.agg [(.int .i64), .slice, (.int .i64), (.int .i64), .slice]) w14 fun (x17 : (Int × (Option Addr × Nat × Nat) × Int × Int × (Option Addr × Nat × Nat) × Unit)) =>
 rd Tryz.prog (Instr.loadAt 26 (.pointer (some x1))) (.one .slice) w14 fun (x18 : (Option Addr × Nat × Nat)) =>
 flc bel w14 (fun _w20 => True) (fun (w19 : World) =>
   wr Tryz.prog (Instr.makeSlice 26 (.int .i64 ((x18.2.1 : Nat) : Int)) (.int .i64 ((x18.2.1 : Nat) : Int))) (.one .slice) w19 fun (x21 : (Option Addr × Nat × Nat)) (w22 : World) =>
 (bel w19 w22 ∧ F15 5 [] (.slice x21.1 x21.2.1 x21.2.2) w22))
  fun (x23 : (Option Addr × Nat × Nat)) =>
 rd Tryz.prog (Instr.loadAt 26 (.pointer (some x1))) (.one .slice) w14 fun (x24 : (Option Addr × Nat × Nat)) =>
 flend bel w14 (fun w26 => F15 5 [] (.slice x23.1 x23.2.1 x23.2.2) w26 ∧ True) fun w25 =>
 call Tryz.prog 26 [(.agg #[(.slice x16.1.1 x16.1.2.1 x16.1.2.2), (.slice x16.2.1.1 x16.2.1.2.1 x16.2.1.2.2), (.slice x16.2.2.1.1 x16.2.2.1.2.1 x16.2.2.1.2.2)]), (.agg #[(.int .i64 x17.1), (.slice x17.2.1.1 x17.2.1.2.1 x17.2.1.2.2), (.int .i64 x17.2.2.1), (.int .i64 x17.2.2.2.1), (.slice x17.2.2.2.2.1.1 x17.2.2.2.2.1.2.1 x17.2.2.2.2.1.2.2)]), (.slice x23.1 x23.2.1 x23.2.2), (.slice x24.1 x24.2.1 x24.2.2)] (.one (.one .bool)) w25 fun (x27 : Bool) (w28 : World) =>
 R (.bool x27) w28)))
def H11 : Hints := ⟨[], [(3, 8)], [], []⟩
set_option maxRecDepth 100000 in
theorem S11_eq (s_0a : Option Addr) (s_0n : Nat) (s_0c : Nat) (s_1a : Option Addr) (s_1n : Nat) (s_1c : Nat) (s_2a : Option Addr) (s_2n : Nat) (s_2c : Nat) (p_0 : Int) (p_1a : Option Addr) (p_1n : Nat) (p_1c : Nat) (p_2 : Int) (p_3 : Int) (p_4a : Option Addr) (p_4n : Nat) (p_4c : Nat) (w0 : World) (R : Value → World → Prop) : vcFn Tryz.prog H11 Tryz.f11 [(.agg #[(.slice s_0a s_0n s_0c), (.slice s_1a s_1n s_1c), (.slice s_2a s_2n s_2c)]), (.agg #[(.int .i64 p_0), (.slice p_1a p_1n p_1c), (.int .i64 p_2), (.int .i64 p_3), (.slice p_4a p_4n p_4c)])] w0 R = S11 s_0a s_0n s_0c s_1a s_1n s_1c s_2a s_2n s_2c p_0 p_1a p_1n p_1c p_2 p_3 p_4a p_4n p_4c w0 R := by kernel_rfl
set_option maxRecDepth 100000 in
theorem S11_calls (s_0a : Option Addr) (s_0n : Nat) (s_0c : Nat) (s_1a : Option Addr) (s_1n : Nat) (s_1c : Nat) (s_2a : Option Addr) (s_2n : Nat) (s_2c : Nat) (p_0 : Int) (p_1a : Option Addr) (p_1n : Nat) (p_1c : Nat) (p_2 : Int) (p_3 : Int) (p_4a : Option Addr) (p_4n : Nat) (p_4c : Nat) (w0 : World) (R : Value → World → Prop) (h : S11 s_0a s_0n s_0c s_1a s_1n s_1c s_2a s_2n s_2c p_0 p_1a p_1n p_1c p_2 p_3 p_4a p_4n p_4c w0 R) : Calls Tryz.prog 11 #[(.agg #[(.slice s_0a s_0n s_0c), (.slice s_1a s_1n s_1c), (.slice s_2a s_2n s_2c)]), (.agg #[(.int .i64 p_0), (.slice p_1a p_1n p_1c), (.int .i64 p_2), (.int .i64 p_3), (.slice p_4a p_4n p_4c)])] w0 (ret R) := by
  rw [← S11_eq] at h; exact vcFn_sound follows_ Tryz.func11 h

end Go.Proofs

/- A block of one's own that others may write: relations for regions that tell their states. -/

namespace Go.V
open Go Go.RowKit Go.Q

/-- only one block that was there may have turned -/
abbrev Xg (b : Nat) : Rel := fun w w' => w.grownBy w' (some b)
theorem bel.xg {w w' : World} (h : bel w w') (b : Nat) : Xg b w w' := grown_of_bel h _
theorem Box.xg {w w' : World} {a : Addr} {cs : List Value} {b : Nat} (X : Box w a cs) (h : Xg b w w') (hne : a.block ≠ b) : Box w' a cs := X.grown h (by intro e; injection e; omega)
theorem _root_.Go.Q.Sl.xg {w w' : World} {a : Option Addr} {n c sz : Nat} {xs : List Value} {b : Nat} (S : Sl w a n c sz xs) (h : Xg b w w') (hne : ∀ ad, a = some ad → xs ≠ [] → ad.block ≠ b) : Sl w' a n c sz xs :=
  S.grown h fun ad ha hx e => hne ad ha hx (by injection e)
theorem Own.xg {w w' : World} {B : Nat} {e : TypeId} {sz : Nat} {a : Option Addr} {n c : Nat} {xs : List Value} {b : Nat} (O : Own w B e sz a n c xs) (h : Xg b w w') (hb : b < B) : Own w' B e sz a n c xs := by
  refine O.keptBy h ?_
  cases hk : blk a with
  | none => exact .inl rfl
  | some k => exact .inr fun q => by have := (O.lt k hk).1; injection q; omega
theorem rdE_box0 {P : Program} {E : Rel} {t : TypeId} {s : Sh} {w : World} {a : Addr} {cs : List Value} {v : Value} {x : s.T} {k : s.T → Prop} (ht : scal P t = true) (h : ∀ w', E w w' → Box w' a cs) (hi : cs[0]? = some v) (hx : s.get v = some x) (hk : k x) :
    rdE P E (Instr.loadAt t (.pointer (some a))) (.one s) w k := ⟨x, fun w' hw => by rw [run_loadAt, run_loadVar1 ht ((h w' hw).cell0 hi), Sh.get_spec hx]; rfl, hk⟩
theorem rdE_box {P : Program} {E : Rel} {t : TypeId} {s : Sh} {w : World} {a : Addr} {cs : List Value} {i : Nat} {v : Value} {x : s.T} {k : s.T → Prop} (ht : scal P t = true) (h : ∀ w', E w w' → Box w' a cs) (hi : cs[i]? = some v) (hx : s.get v = some x) (hk : k x) :
    rdE P E (Instr.loadAt t (.pointer (some (a.add i)))) (.one s) w k := ⟨x, fun w' hw => by rw [run_loadAt, run_loadVar1 ht ((h w' hw).cell hi), Sh.get_spec hx]; rfl, hk⟩
theorem flExC_mk {w0 : World} {B : Rel → (Nat → Rel) → ((Nat → Bool) → World → Prop) → Facts → Prop} (E : Rel) (G : Nat → Rel) (St : (Nat → Bool) → World → Prop) (Φ : Facts) (h1 : ∀ w, E w w) (h2 : ∀ a b c, E a b → E b c → E a c)
    (h3 : ∀ i j ags v w w', i ≠ j → Φ i ags v w → E w w' → G j w w' → Φ i ags v w') (h4 : St (fun _ => false) w0) (h5 : B E G St Φ) : flExC w0 B := ⟨E, G, St, Φ, h1, h2, h3, h4, h5⟩
theorem flcC_mk {St : (Nat → Bool) → World → Prop} {j : Nat} {E : Rel} {w0 : World} {pre : World → Prop} {ob : (Nat → Bool) → World → Prop} {T : Type} {nxt : T → Prop} (h1 : ∀ D w, D j = false → E w0 w → St D w → pre w → ob D w) (h2 : ∀ x, nxt x) : flcC St j E w0 pre ob nxt := ⟨h1, h2⟩
theorem flendC_mk {St : (Nat → Bool) → World → Prop} {L : List Nat} {E : Rel} {w0 : World} {pre k : World → Prop} (h : ∀ w, E w0 w → St (fun i => L.contains i) w → pre w → k w) : flendC St L E w0 pre k := h
theorem setD_self (D : Nat → Bool) (j : Nat) : setD D j j = true := by simp [setD]
theorem setD_ne {D : Nat → Bool} {i j : Nat} (h : i ≠ j) : setD D j i = D i := by simp [setD, h]
/-- frames over several blocks -/
structure Xb (S : Nat → Prop) (w w' : World) : Prop where
  os : w'.os = w.os
  tape : w'.tape = w.tape
  output : w'.output = w.output
  size : w.heap.size ≤ w'.heap.size
  block : ∀ k, k < w.heap.size → ¬ S k → w'.heap[k]? = w.heap[k]?
theorem Xb.refl (S : Nat → Prop) (w : World) : Xb S w w := ⟨rfl, rfl, rfl, Nat.le_refl _, fun _ _ _ => rfl⟩
theorem Xb.trans {S : Nat → Prop} {a b c : World} (h : Xb S a b) (h' : Xb S b c) : Xb S a c :=
  ⟨h'.os.trans h.os, h'.tape.trans h.tape, h'.output.trans h.output, Nat.le_trans h.size h'.size, fun k hk hs => by rw [h'.block k (by have := h.size; omega) hs, h.block k hk hs]⟩
theorem Xb.of {S : Nat → Prop} {w w' : World} {o : Option Nat} (h : w.grownBy w' o) (ho : ∀ k, o = some k → S k) : Xb S w w' :=
  ⟨h.os, h.tape, h.output, h.size, fun k hk hs => h.block k hk (fun e => hs (ho k e.symm))⟩
theorem Xb.bel {S : Nat → Prop} {a w w' : World} (h : bel a w) (h' : Xb S w w') (hs : ∀ k, S k → a.heap.size ≤ k) : bel a w' :=
  ⟨h'.os.trans h.os, h'.tape.trans h.tape, h'.output.trans h.output, Nat.le_trans h.size h'.size, fun k hk => by rw [h'.block k (by have := h.size; omega) (fun q => by have := hs k q; omega), h.block k hk]⟩
theorem Xb.grown {S : Nat → Prop} {w w' : World} (h : Xb S w w') {o : Option Nat} (hs : ∀ k, S k → k < w.heap.size → o = some k) : w.grownBy w' o :=
  ⟨h.os, h.tape, h.output, h.size, fun k hk hne => h.block k hk fun q => hne (hs k q hk).symm⟩
theorem Xb.more {S S' : Nat → Prop} {a w w' : World} (h : Xb S a w) (h' : Xb S' w w') (hs : ∀ k, S' k → S k ∨ a.heap.size ≤ k) : Xb S a w' :=
  ⟨h'.os.trans h.os, h'.tape.trans h.tape, h'.output.trans h.output, Nat.le_trans h.size h'.size, fun k hk hn => by
    rw [h'.block k (by have := h.size; omega) (fun q => by
      rcases hs k q with q | q
      · exact hn q
      · omega), h.block k hk hn]⟩
theorem _root_.Go.Q.Sl.xb {S : Nat → Prop} {w w' : World} {a : Option Addr} {n c sz : Nat} {xs : List Value} (H : Sl w a n c sz xs) (hX : Xb S w w') (hne : ∀ ad, a = some ad → xs ≠ [] → ¬ S ad.block) : Sl w' a n c sz xs := by
  refine ⟨H.len, H.cap, H.most, H.nil', fun k u hu => ?_⟩
  obtain ⟨ad, q1, q2, q3⟩ := H.at' k u hu
  have hx : xs ≠ [] := by rintro rfl; simp at hu
  refine ⟨ad, q1, ?_, by have := hX.size; omega⟩
  have := hX.block ad.block q3 (hne ad q1 hx)
  unfold World.cell? at q2 ⊢
  rw [add_block] at q2 ⊢
  rw [this]; exact q2
theorem Box.xb {S : Nat → Prop} {w w' : World} {a : Addr} {cs : List Value} (X : Box w a cs) (hX : Xb S w w') (hne : ¬ S a.block) : Box w' a cs :=
  ⟨X.off, X.spot, by obtain ⟨T, hT⟩ := X.blk; exact ⟨T, by rw [hX.block _ X.lt hne]; exact hT⟩⟩
/-- slices of different kinds of elements do not lie in one block -/
theorem Own.apart {w : World} {B B' : Nat} {e e' : TypeId} {sz sz' : Nat} {a a' : Option Addr} {n c n' c' : Nat} {xs ys : List Value} (h : Own w B e sz a n c xs) (h' : Own w B' e' sz' a' n' c' ys) (hne : e ≠ e') : ∀ k, blk a = some k → blk a' = some k → False := by
  intro k hk hk'
  obtain ⟨_, h2⟩ := h
  obtain ⟨_, h2'⟩ := h'
  rcases h2 with ⟨hv, _⟩ | ⟨g, cap, cur, hv, _, hh, _⟩
  · injection hv with ha; rw [ha] at hk; cases hk
  · rcases h2' with ⟨hv', _⟩ | ⟨g', cap', cur', hv', _, hh', _⟩
    · injection hv' with ha'; rw [ha'] at hk'; cases hk'
    · injection hv with ha
      injection hv' with ha'
      subst ha ha'
      have q1 : g = k := by simpa [blk] using hk
      have q2 : g' = k := by simpa [blk] using hk'
      subst q1
      subst q2
      rw [hh] at hh'
      injection hh' with hh'
      injection hh' with _ he _
      exact hne he
theorem xg_put {w w' w'' : World} {t : Nat} {o : Option Nat} (h : w.grownBy w' (some t)) (hg : w'.grownBy w'' o) (ho : ∀ k, o = some k → w.heap.size ≤ k ∨ k = t) : w.grownBy w'' (some t) :=
  ⟨hg.os.trans h.os, hg.tape.trans h.tape, hg.output.trans h.output, Nat.le_trans h.size hg.size, fun k hk hne => by
    rw [hg.block k (by have := h.size; omega) (fun e => by
      rcases ho k e.symm with q | q
      · omega
      · exact hne (by rw [q])), h.block k hk hne]⟩
end Go.V

/- copy, and regions with a relation. -/


namespace Go.V
open Go Go.RowKit Go.Q

theorem putAt_at : ∀ (vs pre cs : List Value), vs.length ≤ cs.length → putAt (pre ++ cs) pre.length vs = pre ++ vs ++ cs.drop vs.length
  | [], pre, cs, _ => by simp [putAt]
  | v :: vs, pre, [], h => by simp at h
  | v :: vs, pre, c :: cs, h => by
    simp only [putAt]
    have h1 : (pre ++ c :: cs).set pre.length v = (pre ++ [v]) ++ cs := by simp
    rw [h1]
    have := putAt_at vs (pre ++ [v]) cs (by simpa using h)
    simp only [List.length_append, List.length_cons, List.length_nil, Nat.zero_add] at this
    rw [this]; simp
theorem run_storeOwn {P : Program} {B : Nat} {e : TypeId} {ad : Addr} {n c : Nat} : ∀ (vs : List Value) (i : Nat) (w : World) (xs : List Value), Own w B e 1 (some ad) n c xs → i + vs.length ≤ xs.length → plainV vs = true →
    ∃ w', (storeCells ad vs i).run P w = .ok () w' ∧ Own w' B e 1 (some ad) n c (putAt xs i vs) ∧ w.grownBy w' (some ad.block) ∧ w'.heap.size = w.heap.size
  | [], i, w, xs, hb, _, _ => ⟨w, rfl, hb, grown_refl _ _, rfl⟩
  | v :: vs, i, w, xs, hb, hl, hp => by
    simp only [plainV, List.all_cons, Bool.and_eq_true] at hp
    simp only [List.length_cons] at hl
    obtain ⟨u, hu⟩ : ∃ u, xs[i]? = some u := ⟨_, List.getElem?_eq_getElem (by omega)⟩
    obtain ⟨ad', h1, hc, hfz, _⟩ := hb.cell (j := i) hu
    cases h1
    obtain ⟨w', h1, h2, h3, h4⟩ := run_storeOwn (P := P) vs (i + 1) (w.setCell (ad.add i) v) (xs.set i v) (hb.set i v) (by simp; omega) hp.2
    refine ⟨w', ?_, h2, ?_, by rw [h4, setCell_size]⟩
    · simp only [storeCells, Sem.run_bind]
      rw [run_store P w (ad.add i) v .plain hp.1, hc]
      simp only [hfz, Bool.false_eq_true, if_false, Result.andThen_ok, h1]
    · refine World.grownBy.trans ?_ h3
      have := setCell_grown w (ad.add i) v
      rwa [add_block] at this
/-- copy into a slice of one's own -/
theorem wr_copy {P : Program} {t e : TypeId} {z : Value} {bytes : Nat} (T : TyS P t e z 1 bytes) {w : World} {B : Nat} {a b : Option Addr} {n c m c' : Nat} {xs ys : List Value} {ty : TypeId} {k : Int → World → Prop}
    (O : Own w B e 1 a n c xs) (S : Sl w b m c' 1 ys) (hp : plainV ys = true)
    (hk : ∀ w', Own w' B e 1 a n c (ys.take n ++ xs.drop m) → w.grownBy w' (blk a) → w'.heap.size = w.heap.size → k ((Nat.min m n : Nat) : Int) w') :
    wr P (Builtin.copy_ #[t, t] ty #[.slice a n c, .slice b m c']) (.one (.int .i64)) w k := by
  obtain ⟨i, h1, _, h2, _⟩ := info_parts T.hi
  have hxs : xs.length = n := by have := O.1; omega
  have hys : ys.length = m := by have := S.len; omega
  have hi : i.size = 1 := h2
  have hmin : (Nat.min m n) = min m n := rfl
  have hcl : (ys.take n).length = Nat.min m n := by rw [List.length_take, hys, hmin]; omega
  have key : putAt xs 0 (ys.take n) = ys.take n ++ xs.drop m := by
    have := putAt_at (ys.take n) [] xs (by rw [hcl, hmin]; omega)
    simp only [List.nil_append, List.length_nil] at this
    rw [this, hcl, hmin]
    rcases Nat.le_total m n with q | q
    · rw [show min m n = m by omega]
    · rw [show min m n = n by omega, List.drop_of_length_le (by omega), List.drop_of_length_le (by omega)]
  have hpl : plainV (ys.take n) = true := by
    unfold plainV at hp ⊢
    rw [List.all_eq_true] at hp ⊢
    exact fun x hx => hp x (List.mem_of_mem_take hx)
  cases a with
  | none =>
    have hn0 : n = 0 := by
      rcases O.2 with ⟨hv, _⟩ | ⟨g, cap, cur, hv, _⟩
      · injection hv
      · cases hv
    subst hn0
    have hx0 : xs = [] := List.eq_nil_of_length_eq_zero hxs
    subst hx0
    refine ⟨(0 : Int), w, ?_, ?_⟩
    · cases b with
      | none => simp [Builtin.copy_, run_underlying T.ht, Builtin.lenOf, Builtin.firstCells, sizeOf, typeInfo, h1, goInt]; rfl
      | some b =>
        have hl := run_loadCells_list (P := P) w b [] (fun j v h => by simp at h)
        simp [Builtin.copy_, run_underlying T.ht, Builtin.lenOf, Builtin.firstCells, sizeOf, typeInfo, h1] at hl ⊢
        simp [hl, goInt]; rfl
    · have := hk w (by simpa using O) (grown_refl _ _) rfl
      simpa [hmin] using this
  | some ad =>
    obtain ⟨w', r1, r2, r3, r4⟩ := run_storeOwn (P := P) (ys.take n) 0 w xs O (by rw [hcl, hmin]; omega) hpl
    rw [key] at r2
    refine ⟨((Nat.min m n : Nat) : Int), w', ?_, hk w' r2 r3 r4⟩
    cases b with
    | none =>
      have hm0 : m = 0 := (S.nil' rfl).1
      subst hm0
      have hy0 : ys = [] := List.eq_nil_of_length_eq_zero hys
      subst hy0
      simp at r1
      simp [Builtin.copy_, run_underlying T.ht, Builtin.lenOf, Builtin.firstCells, sizeOf, typeInfo, h1, goInt, r1]; rfl
    | some b =>
      have hl := run_loadCells_list (P := P) w b (ys.take n) (fun j v h => by
        have hj : ys[j]? = some v := by
          rw [List.getElem?_take] at h
          split at h
          · exact h
          · cases h
        obtain ⟨ad', q1, q2, _⟩ := S.at' j v hj
        cases q1; exact q2)
      rw [hcl] at hl
      simp [Builtin.copy_, run_underlying T.ht, Builtin.lenOf, Builtin.firstCells, sizeOf, typeInfo, h1, hi, hl, r1, goInt]; rfl
theorem Own.putNew {w w' : World} {B : Nat} {e : TypeId} {sz : Nat} {a : Option Addr} {n c : Nat} {xs : List Value} {k : Nat} (O : Own w B e sz a n c xs) (h : w.grownBy w' (some k)) (hk : ∀ j, blk a = some j → j ≠ k) : Own w' B e sz a n c xs := by
  refine O.keptBy h ?_
  cases hj : blk a with
  | none => exact .inl rfl
  | some j => exact .inr fun q => hk j hj (by injection q)
theorem flExE_mk {B : Rel → Facts → Prop} (E : Rel) (Φ : Facts) (h1 : ∀ w, E w w) (h2 : ∀ a b c, E a b → E b c → E a c) (h3 : ∀ i ags v w w', Φ i ags v w → E w w' → Φ i ags v w') (h4 : B E Φ) : flExE B := ⟨E, Φ, h1, h2, h3, h4⟩
end Go.V

/- Proofs as trees: few, Size, depth. -/



namespace Go.Proofs.YtajpdnphamomjaaGreat
open Go.RowKit Go.Q Go.Q.Num Go.V

abbrev CPr := Int × Hdr × Int × Int × Hdr × Unit
abbrev prc (x : CPr) : List Value := [.int .i64 x.1, .slice x.2.1.1 x.2.1.2.1 x.2.1.2.2, .int .i64 x.2.2.1, .int .i64 x.2.2.2.1, .slice x.2.2.2.2.1.1 x.2.2.2.2.1.2.1 x.2.2.2.2.1.2.2]
abbrev prv (x : CPr) : Value := .agg #[.int .i64 x.1, .slice x.2.1.1 x.2.1.2.1 x.2.1.2.2, .int .i64 x.2.2.1, .int .i64 x.2.2.2.1, .slice x.2.2.2.2.1.1 x.2.2.2.2.1.2.1 x.2.2.2.2.1.2.2]
theorem prc_len (x : CPr) : (prc x).length = 5 := rfl
theorem tyPrs : TyS Tryz.prog 33 35 (.agg #[.int .i64 0, .slice none 0 0, .int .i64 0, .int .i64 0, .slice none 0 0]) 5 72 := ⟨by kernel_rfl, by kernel_rfl⟩
theorem agPr : aggOf Tryz.prog 35 5 = true := by kernel_rfl
/-- a node over some kind of trees -/
structure PN (α : Type) where
  kind : Int
  mul : List (Int × Int)
  var : Int
  bound : Int
  kids : List α
/-- trees of at most so many nodes below one another -/
def PT : Nat → Type
  | 0 => Empty
  | n + 1 => PN (PT n)
def PrAt (w : World) : (n : Nat) → PT n → CPr → Prop
  | 0, _, _ => False
  | n + 1, p, x =>
    let q : PN (PT n) := p
    (x.1 = q.kind ∧ I64 q.kind) ∧ (Sl w x.2.1.1 x.2.1.2.1 x.2.1.2.2 2 (q.mul.flatMap encF) ∧ ∀ y ∈ q.mul, I64 y.1 ∧ I64 y.2) ∧ (x.2.2.1 = q.var ∧ I64 q.var) ∧ (x.2.2.2.1 = q.bound ∧ I64 q.bound) ∧ q.kids.length ≤ 3 ∧
      ∃ xs : List CPr, Sl w x.2.2.2.2.1.1 x.2.2.2.2.1.2.1 x.2.2.2.2.1.2.2 5 (xs.flatMap prc) ∧ xs.length = q.kids.length ∧ ∀ (i : Nat) (y : CPr) (k : PT n), xs[i]? = some y → q.kids[i]? = some k → PrAt w n k y
theorem PrAt.up {w w' : World} (hb : bel w w') : ∀ {n : Nat} {p : PT n} {x : CPr}, PrAt w n p x → PrAt w' n p x
  | 0, _, _, h => h
  | n + 1, p, x, h => by
    obtain ⟨h1, ⟨h2, h3⟩, h4, h5, h6, xs, h7, h8, h9⟩ := h
    exact ⟨h1, ⟨h2.kept hb, h3⟩, h4, h5, h6, xs, h7.kept hb, h8, fun i y k q1 q2 => PrAt.up hb (h9 i y k q1 q2)⟩
def szP : (n : Nat) → PT n → Nat
  | 0, _ => 0
  | n + 1, p => let q : PN (PT n) := p; 1 + (q.kids.map (szP n)).sum
def maxl (l : List Nat) : Nat := l.foldl max 0
def depP : (n : Nat) → PT n → Nat
  | 0, _ => 0
  | n + 1, p => let q : PN (PT n) := p; maxl (q.kids.map (depP n)) + 1
theorem sum_le {B : Nat} : ∀ {l : List Nat}, (∀ x ∈ l, x ≤ B) → l.sum ≤ l.length * B
  | [], _ => by simp
  | x :: l, h => by
    have := sum_le (l := l) fun y hy => h y (List.mem_cons_of_mem _ hy)
    have := h x (List.mem_cons_self ..)
    rw [List.sum_cons, List.length_cons, Nat.add_mul]; omega
theorem szP_le {w : World} : ∀ {n : Nat} {p : PT n} {x : CPr}, PrAt w n p x → szP n p ≤ 4 ^ n
  | 0, _, _, _ => Nat.zero_le _
  | n + 1, p, x, h => by
    obtain ⟨_, _, _, _, h6, xs, _, h8, h9⟩ := h
    have : ((p : PN (PT n)).kids.map (szP n)).sum ≤ ((p : PN (PT n)).kids.map (szP n)).length * 4 ^ n := sum_le fun y hy => by
      obtain ⟨k, hk, rfl⟩ := List.mem_map.1 hy
      obtain ⟨j, hj, rfl⟩ := List.mem_iff_getElem.1 hk
      exact szP_le (h9 j _ _ (List.getElem?_eq_getElem (by omega)) (List.getElem?_eq_getElem hj))
    rw [List.length_map] at this
    have h4 : 1 ≤ 4 ^ n := Nat.pow_pos (by omega)
    have : ((p : PN (PT n)).kids.map (szP n)).sum ≤ 3 * 4 ^ n := Nat.le_trans this (Nat.mul_le_mul_right _ h6)
    show 1 + ((p : PN (PT n)).kids.map (szP n)).sum ≤ 4 ^ (n + 1)
    rw [Nat.pow_succ]; omega
theorem maxl_le {B : Nat} {l : List Nat} (h : ∀ x ∈ l, x ≤ B) : maxl l ≤ B := by
  have key : ∀ (l : List Nat) (a : Nat), a ≤ B → (∀ x ∈ l, x ≤ B) → l.foldl max a ≤ B := by
    intro l
    induction l with
    | nil => intro a ha _; exact ha
    | cons x l ih => intro a ha h; exact ih _ (by have := h x (List.mem_cons_self ..); omega) fun y hy => h y (List.mem_cons_of_mem _ hy)
  exact key l 0 (Nat.zero_le _) h
theorem depP_le {w : World} : ∀ {n : Nat} {p : PT n} {x : CPr}, PrAt w n p x → depP n p ≤ n
  | 0, _, _, _ => Nat.le_refl _
  | n + 1, p, x, h => by
    obtain ⟨_, _, _, _, h6, xs, _, h8, h9⟩ := h
    have : maxl ((p : PN (PT n)).kids.map (depP n)) ≤ n := maxl_le fun y hy => by
      obtain ⟨k, hk, rfl⟩ := List.mem_map.1 hy
      obtain ⟨j, hj, rfl⟩ := List.mem_iff_getElem.1 hk
      exact depP_le (h9 j _ _ (List.getElem?_eq_getElem (by omega)) (List.getElem?_eq_getElem hj))
    show maxl ((p : PN (PT n)).kids.map (depP n)) + 1 ≤ n + 1
    omega
theorem sum_take {l : List Nat} {i x : Nat} (h : l[i]? = some x) : (l.take (i + 1)).sum = (l.take i).sum + x := by
  rw [List.take_add_one, h]; simp
theorem max_take {l : List Nat} {i x : Nat} (h : l[i]? = some x) : maxl (l.take (i + 1)) = max (maxl (l.take i)) x := by
  rw [List.take_add_one, h]; simp [maxl]
set_option maxRecDepth 100000 in
/-- a node's memory, as it came in -/
theorem readPr0 {w : World} {ch : List Value} (h : Go.Q.Read Tryz.prog w 35 ch) : ∃ v1 v2 v3 v4 v5, ch = [v1, v2, v3, v4, v5] ∧ Go.Q.Read Tryz.prog w 3 [v1] ∧ Go.Q.Read Tryz.prog w 32 [v2] ∧ Go.Q.Read Tryz.prog w 3 [v3] ∧ Go.Q.Read Tryz.prog w 2 [v4] ∧ Go.Q.Read Tryz.prog w 33 [v5] := by
  obtain ⟨hl, h⟩ := Go.Q.Read.struct Tryz.underlying35 h
  have hsz' : ch.length = 5 := by rw [hl]; kernel_rfl
  obtain ⟨v1, v2, v3, v4, v5, rfl⟩ : ∃ v1 v2 v3 v4 v5, ch = [v1, v2, v3, v4, v5] := by
    rcases ch with _ | ⟨v1, _ | ⟨v2, _ | ⟨v3, _ | ⟨v4, _ | ⟨v5, _ | ⟨v6, l⟩⟩⟩⟩⟩⟩ <;> simp at hsz'
    exact ⟨v1, v2, v3, v4, v5, rfl⟩
  exact ⟨v1, v2, v3, v4, v5, rfl, h _ (List.mem_cons_self ..), h _ (List.mem_cons_of_mem _ (List.mem_cons_self ..)), h _ (List.mem_cons_of_mem _ (List.mem_cons_of_mem _ (List.mem_cons_self ..))),
    h _ (List.mem_cons_of_mem _ (List.mem_cons_of_mem _ (List.mem_cons_of_mem _ (List.mem_cons_self ..)))), h _ (List.mem_cons_of_mem _ (List.mem_cons_of_mem _ (List.mem_cons_of_mem _ (List.mem_cons_of_mem _ (List.mem_cons_self ..)))))⟩
set_option maxRecDepth 100000 in
theorem readPr {w : World} {ch : List Value} (h : Go.Q.Read Tryz.prog w 35 ch) : ∃ x : CPr, ch = prc x ∧ Go.Q.Read Tryz.prog w 35 (prc x) := by
  obtain ⟨v1, v2, v3, v4, v5, rfl, h1, h2, h3, h4, h5⟩ := readPr0 h
  obtain ⟨n1, e1, _⟩ := Go.Q.Read.int Tryz.underlying3 h1
  obtain ⟨a2, n2, c2, e2, _⟩ := Go.Q.Read.slice Tryz.underlying32 h2
  obtain ⟨n3, e3, _⟩ := Go.Q.Read.int Tryz.underlying3 h3
  obtain ⟨n4, e4, _⟩ := Go.Q.Read.int Tryz.underlying2 h4
  obtain ⟨a5, n5, c5, e5, _⟩ := Go.Q.Read.slice Tryz.underlying33 h5
  cases e1; cases e2; cases e3; cases e4; cases e5
  exact ⟨(n1, (a2, n2, c2), n3, n4, (a5, n5, c5), ()), rfl, h⟩
set_option maxRecDepth 100000 in
theorem prShape {w : World} {x : CPr} (h : Go.Q.Read Tryz.prog w 35 (prc x)) : I64 x.1 ∧ (∃ M : List (Int × Int), Sl w x.2.1.1 x.2.1.2.1 x.2.1.2.2 2 (M.flatMap encF) ∧ ∀ y ∈ M, I64 y.1 ∧ I64 y.2) ∧ I64 x.2.2.1 ∧ I64 x.2.2.2.1 ∧
    ∃ xs : List CPr, Sl w x.2.2.2.2.1.1 x.2.2.2.2.1.2.1 x.2.2.2.2.1.2.2 5 (xs.flatMap prc) ∧ ∀ y ∈ xs, Go.Q.Read Tryz.prog w 35 (prc y) := by
  obtain ⟨v1, v2, v3, v4, v5, e, h1, h2, h3, h4, h5⟩ := readPr0 h
  simp only [prc, List.cons.injEq, and_true] at e
  obtain ⟨e1, e2, e3, e4, e5⟩ := e
  rw [← e1] at h1; rw [← e2] at h2; rw [← e3] at h3; rw [← e4] at h4; rw [← e5] at h5
  obtain ⟨n1, e1, b1⟩ := Go.Q.Read.int Tryz.underlying3 h1
  obtain ⟨n3, e3, b3⟩ := Go.Q.Read.int Tryz.underlying3 h3
  obtain ⟨n4, e4, b4⟩ := Go.Q.Read.int Tryz.underlying2 h4
  obtain ⟨a1, n1', c1, L, q1, _, s1, b2⟩ := Go.V.Read.elems (enc := encF) (R := fun p => I64 p.1 ∧ I64 p.2) encF_len (by omega) (fun _ h => readFrac h) Tryz.underlying32 (by kernel_rfl) h2
  obtain ⟨a2, n2', c2, L2, q2, _, s2, b5⟩ := Go.V.Read.elems (enc := prc) (R := fun p => Go.Q.Read Tryz.prog w 35 (prc p)) prc_len (by omega) (fun _ h => readPr h) Tryz.underlying33 (by kernel_rfl) h5
  simp only [List.cons.injEq, and_true, Value.int.injEq, true_and, Value.slice.injEq] at e1 e3 e4 q1 q2
  obtain ⟨q1, q1', q1''⟩ := q1
  obtain ⟨q2, q2', q2''⟩ := q2
  rw [e1, e3, e4, q1, q1', q1'', q2, q2', q2'']
  exact ⟨bounds_i64 b1, ⟨L, s1, b2⟩, bounds_i64 b3, bounds_i64 b4, L2, s2, b5⟩
end Go.Proofs.YtajpdnphamomjaaGreat

/- Size and depth of proofs. -/

namespace Go.Proofs.YtajpdnphamomjaaGreat
open Go.RowKit Go.Q Go.Q.Num Go.V

abbrev zpr : Value := .agg #[.int .i64 0, .slice none 0 0, .int .i64 0, .int .i64 0, .slice none 0 0]
theorem sz_part {w : World} {n : Nat} {p : PN (PT n)} {x : CPr} (h : PrAt w (n + 1) p x) (hn : n ≤ 30) (i : Nat) : (((p.kids.map (szP n)).take i).sum) ≤ 4 ^ 31 := by
  have h1 := szP_le h
  have h2 : szP (n + 1) p = 1 + (p.kids.map (szP n)).sum := rfl
  have h3 : (p.kids.map (szP n)).sum = ((p.kids.map (szP n)).take i).sum + ((p.kids.map (szP n)).drop i).sum := by rw [← List.sum_append, List.take_append_drop]
  have h4 : 4 ^ (n + 1) ≤ 4 ^ 31 := Nat.pow_le_pow_right (by omega) (by omega)
  omega
theorem dep_part {w : World} {n : Nat} {p : PN (PT n)} {x : CPr} (h : PrAt w (n + 1) p x) (i : Nat) : maxl ((p.kids.map (depP n)).take i) ≤ n := by
  obtain ⟨_, _, _, _, h6, xs, _, h8, h9⟩ := h
  refine maxl_le fun y hy => ?_
  obtain ⟨k, hk, rfl⟩ := List.mem_map.1 (List.mem_of_mem_take hy)
  obtain ⟨j, hj, rfl⟩ := List.mem_iff_getElem.1 hk
  exact depP_le (h9 j _ _ (List.getElem?_eq_getElem (by omega)) (List.getElem?_eq_getElem hj))
theorem take_all {α : Type} {l : List α} {i : Nat} (h : l.length ≤ i) : l.take i = l := List.take_of_length_le h

set_option maxHeartbeats 1600000 in
theorem szL : ∀ (m : Nat) (p : PT m) (x : CPr) (w : World), m ≤ 31 → PrAt w m p x →
    call Tryz.prog 28 [prv x] (.one (.one (.int .i64))) w (fun (n : Int) w' => n = (szP m p : Int) ∧ bel w w') := by
  intro m
  induction m with
  | zero => intro p; exact p.elim
  | succ m ih =>
    intro (p : PN (PT m)) x w hm hP
    obtain ⟨_, _, _, _, h6, xs, S5, hxl, hK⟩ := id hP
    have hxn : xs.length = x.2.2.2.2.1.2.1 := by have := S5.len; rw [flat_len prc_len] at this; omega
    refine call_of (S28_calls x.1 x.2.1.1 x.2.1.2.1 x.2.1.2.2 x.2.2.1 x.2.2.2.1 x.2.2.2.2.1.1 x.2.2.2.2.1.2.1 x.2.2.2.2.1.2.2 w _ ?_)
    unfold S28
    refine wr_box fun x1 w2 X h _ _ => ?_
    replace X : Box w2 x1 (prc x) := X
    refine rd_box (by kernel_rfl) X (i := 4) rfl rfl ?_
    refine loop_upA xs.length (fun i a w' => bel w2 w' ∧ a = 1 + (((p.kids.map (szP m)).take i).sum : Nat)) ⟨Below.refl _ _, by simp⟩ fun i a w7 hi ⟨hw, ha⟩ again hag _ => ?_
    have h7 := h.trans hw
    have hb1 := sz_part hP (by omega) i
    have hb2 := sz_part hP (by omega) (i + 1)
    refine br_dec (fun e4 => ?_) (fun e4 => ?_)
    · dsimp only at e4
      obtain ⟨y, hy⟩ : ∃ y, xs[i]? = some y := ⟨_, List.getElem?_eq_getElem (by omega)⟩
      obtain ⟨k, hk⟩ : ∃ k, p.kids[i]? = some k := ⟨_, List.getElem?_eq_getElem (by omega)⟩
      have hmap : (p.kids.map (szP m))[i]? = some (szP m k) := by rw [List.getElem?_map, hk]; rfl
      refine at_agg tyPrs agPr prc_len (by omega) (S5.up h7) rfl hy rfl ?_
      refine var_mk (v := prv y) (z := zpr) (by kernel_rfl) (by kernel_rfl) rfl rfl fun x9 w11 Y h11 _ => ?_
      replace Y : Box w11 x9 (prc y) := Y
      refine rd_boxN Y (by kernel_rfl) rfl ?_
      refine call_mono (ih k y w11 (by omega) ((hK i y k hy hk).up (h7.trans h11))) ?_
      rintro (n : Int) w14 ⟨rfl, h14⟩
      rw [sum_take hmap] at hb2
      refine z_i64 (by dsimp only; omega) ?_
      refine z_i64 (by dsimp only; omega) ?_
      refine hag _ _ (by omega) ⟨hw.trans (h11.trans h14), ?_⟩
      rw [sum_take hmap]; subst ha; omega
    · dsimp only at e4
      refine ⟨a, rfl, ?_, h7⟩
      rw [take_all (by simp; omega)] at ha
      rw [ha]
      show _ = ((1 + (p.kids.map (szP m)).sum : Nat) : Int)
      omega
set_option maxHeartbeats 1600000 in
theorem sz12 : ∀ (m : Nat) (p : PT m) (x : CPr) (w : World), m ≤ 31 → PrAt w m p x →
    call Tryz.prog 24 [prv x] (.one (.one (.int .i64))) w (fun (n : Int) w' => n = (szP m p : Int) ∧ bel w w') := by
  intro m
  induction m with
  | zero => intro p; exact p.elim
  | succ m ih =>
    intro (p : PN (PT m)) x w hm hP
    obtain ⟨_, _, _, _, h6, xs, S5, hxl, hK⟩ := id hP
    have hxn : xs.length = x.2.2.2.2.1.2.1 := by have := S5.len; rw [flat_len prc_len] at this; omega
    refine call_of (S24_calls x.1 x.2.1.1 x.2.1.2.1 x.2.1.2.2 x.2.2.1 x.2.2.2.1 x.2.2.2.2.1.1 x.2.2.2.2.1.2.1 x.2.2.2.2.1.2.2 w _ ?_)
    unfold S24
    refine wr_box fun x1 w2 X h _ _ => ?_
    replace X : Box w2 x1 (prc x) := X
    refine loop_upA xs.length (fun i a w' => bel w2 w' ∧ a = 1 + (((p.kids.map (szP m)).take i).sum : Nat)) ⟨Below.refl _ _, by simp⟩ fun i a w7 hi ⟨hw, ha⟩ again hag _ => ?_
    have h7 := h.trans hw
    have hb1 := sz_part hP (by omega) i
    have hb2 := sz_part hP (by omega) (i + 1)
    refine rd_box (by kernel_rfl) (X.up hw) (i := 4) rfl rfl ?_
    refine br_dec (fun e4 => ?_) (fun e4 => ?_)
    · dsimp only at e4
      refine rd_box (by kernel_rfl) (X.up hw) (i := 4) rfl rfl ?_
      obtain ⟨y, hy⟩ : ∃ y, xs[i]? = some y := ⟨_, List.getElem?_eq_getElem (by omega)⟩
      obtain ⟨k, hk⟩ : ∃ k, p.kids[i]? = some k := ⟨_, List.getElem?_eq_getElem (by omega)⟩
      have hmap : (p.kids.map (szP m))[i]? = some (szP m k) := by rw [List.getElem?_map, hk]; rfl
      refine at_agg tyPrs agPr prc_len (by omega) (S5.up h7) rfl hy rfl ?_
      refine call_mono (ih k y w7 (by omega) ((hK i y k hy hk).up h7)) ?_
      rintro (n : Int) w14 ⟨rfl, h14⟩
      rw [sum_take hmap] at hb2
      refine z_i64 (by dsimp only; omega) ?_
      refine z_i64 (by dsimp only; omega) ?_
      refine hag _ _ (by omega) ⟨hw.trans h14, ?_⟩
      rw [sum_take hmap]; subst ha; omega
    · dsimp only at e4
      refine ⟨a, rfl, ?_, h7⟩
      rw [take_all (by simp; omega)] at ha
      rw [ha]
      show _ = ((1 + (p.kids.map (szP m)).sum : Nat) : Int)
      omega
set_option maxHeartbeats 1600000 in
theorem depL : ∀ (m : Nat) (p : PT m) (x : CPr) (w : World), m ≤ 31 → PrAt w m p x →
    call Tryz.prog 29 [prv x] (.one (.one (.int .i64))) w (fun (n : Int) w' => n = (depP m p : Int) ∧ bel w w') := by
  intro m
  induction m with
  | zero => intro p; exact p.elim
  | succ m ih =>
    intro (p : PN (PT m)) x w hm hP
    obtain ⟨_, _, _, _, h6, xs, S5, hxl, hK⟩ := id hP
    have hxn : xs.length = x.2.2.2.2.1.2.1 := by have := S5.len; rw [flat_len prc_len] at this; omega
    refine call_of (S29_calls x.1 x.2.1.1 x.2.1.2.1 x.2.1.2.2 x.2.2.1 x.2.2.2.1 x.2.2.2.2.1.1 x.2.2.2.2.1.2.1 x.2.2.2.2.1.2.2 w _ ?_)
    unfold S29
    refine wr_box fun x1 w2 X h _ _ => ?_
    replace X : Box w2 x1 (prc x) := X
    refine rd_box (by kernel_rfl) X (i := 4) rfl rfl ?_
    refine loop_upA xs.length (fun i a w' => bel w2 w' ∧ a = ((maxl ((p.kids.map (depP m)).take i) : Nat) : Int)) ⟨Below.refl _ _, by simp [maxl]⟩ fun i a w7 hi ⟨hw, ha⟩ again hag _ => ?_
    have h7 := h.trans hw
    have hb1 := dep_part hP i
    have hb2 := dep_part hP (i + 1)
    refine br_dec (fun e4 => ?_) (fun e4 => ?_)
    · dsimp only at e4
      obtain ⟨y, hy⟩ : ∃ y, xs[i]? = some y := ⟨_, List.getElem?_eq_getElem (by omega)⟩
      obtain ⟨k, hk⟩ : ∃ k, p.kids[i]? = some k := ⟨_, List.getElem?_eq_getElem (by omega)⟩
      have hmap : (p.kids.map (depP m))[i]? = some (depP m k) := by rw [List.getElem?_map, hk]; rfl
      refine at_agg tyPrs agPr prc_len (by omega) (S5.up h7) rfl hy rfl ?_
      refine var_mk (v := prv y) (z := zpr) (by kernel_rfl) (by kernel_rfl) rfl rfl fun x9 w11 Y h11 _ => ?_
      replace Y : Box w11 x9 (prc y) := Y
      refine rd_boxN Y (by kernel_rfl) rfl ?_
      refine call_mono (ih k y w11 (by omega) ((hK i y k hy hk).up (h7.trans h11))) ?_
      rintro (n : Int) w14 ⟨rfl, h14⟩
      rw [max_take hmap] at hb2
      refine z_eq rfl ?_
      refine z_i64 (by dsimp only; omega) ?_
      refine hag _ _ (by omega) ⟨hw.trans (h11.trans h14), ?_⟩
      rw [max_take hmap]; subst ha; dsimp only; split <;> omega
    · dsimp only at e4
      refine z_i64 (by dsimp only; omega) ?_
      refine ⟨a + 1, rfl, ?_, h7⟩
      rw [take_all (by simp; omega)] at ha
      rw [ha]
      show _ = ((maxl (p.kids.map (depP m)) + 1 : Nat) : Int)
      omega
set_option maxHeartbeats 1600000 in
theorem dep12 : ∀ (m : Nat) (p : PT m) (x : CPr) (w : World), m ≤ 31 → PrAt w m p x →
    call Tryz.prog 25 [prv x] (.one (.one (.int .i64))) w (fun (n : Int) w' => n = (depP m p : Int) ∧ bel w w') := by
  intro m
  induction m with
  | zero => intro p; exact p.elim
  | succ m ih =>
    intro (p : PN (PT m)) x w hm hP
    obtain ⟨_, _, _, _, h6, xs, S5, hxl, hK⟩ := id hP
    have hxn : xs.length = x.2.2.2.2.1.2.1 := by have := S5.len; rw [flat_len prc_len] at this; omega
    refine call_of (S25_calls x.1 x.2.1.1 x.2.1.2.1 x.2.1.2.2 x.2.2.1 x.2.2.2.1 x.2.2.2.2.1.1 x.2.2.2.2.1.2.1 x.2.2.2.2.1.2.2 w _ ?_)
    unfold S25
    refine wr_box fun x1 w2 X h _ _ => ?_
    replace X : Box w2 x1 (prc x) := X
    refine loop_upA xs.length (fun i a w' => bel w2 w' ∧ a = ((maxl ((p.kids.map (depP m)).take i) : Nat) : Int)) ⟨Below.refl _ _, by simp [maxl]⟩ fun i a w7 hi ⟨hw, ha⟩ again hag _ => ?_
    have h7 := h.trans hw
    have hb1 := dep_part hP i
    have hb2 := dep_part hP (i + 1)
    refine rd_box (by kernel_rfl) (X.up hw) (i := 4) rfl rfl ?_
    refine br_dec (fun e4 => ?_) (fun e4 => ?_)
    · dsimp only at e4
      refine rd_box (by kernel_rfl) (X.up hw) (i := 4) rfl rfl ?_
      obtain ⟨y, hy⟩ : ∃ y, xs[i]? = some y := ⟨_, List.getElem?_eq_getElem (by omega)⟩
      obtain ⟨k, hk⟩ : ∃ k, p.kids[i]? = some k := ⟨_, List.getElem?_eq_getElem (by omega)⟩
      have hmap : (p.kids.map (depP m))[i]? = some (depP m k) := by rw [List.getElem?_map, hk]; rfl
      refine at_agg tyPrs agPr prc_len (by omega) (S5.up h7) rfl hy rfl ?_
      refine call_mono (ih k y w7 (by omega) ((hK i y k hy hk).up h7)) ?_
      rintro (n : Int) w14 ⟨rfl, h14⟩
      rw [max_take hmap] at hb2
      refine z_eq rfl ?_
      refine z_i64 (by dsimp only; omega) ?_
      refine hag _ _ (by omega) ⟨hw.trans h14, ?_⟩
      rw [max_take hmap]; subst ha; dsimp only; split <;> omega
    · dsimp only at e4
      refine z_i64 (by dsimp only; omega) ?_
      refine ⟨a + 1, rfl, ?_, h7⟩
      rw [take_all (by simp; omega)] at ha
      rw [ha]
      show _ = ((maxl (p.kids.map (depP m)) + 1 : Nat) : Int)
      omega
end Go.Proofs.YtajpdnphamomjaaGreat

/- right, of both. -/

namespace Go.Proofs.YtajpdnphamomjaaGreat
open Go.RowKit Go.Q Go.Q.Num Go.V

theorem idx1 {t e : TypeId} {z : Value} {bytes : Nat} (T : TyS Tryz.prog t e z 1 bytes) {a : Option Addr} {ad : Addr} {n c j : Nat} {k : IntKind} {i : Int} {K : Addr → Prop} (hj : i = (j : Int)) (h : j < n) (ha : a = some ad) (hk : K (ad.add j)) :
    rdp Tryz.prog (Instr.indexAt t (.slice a n c) (.int k i)) (.one .addr) K := by
  refine idx_mk T hj h ha ?_
  rw [Nat.mul_one]; exact hk
theorem rdE_elem {E : Rel} {e : TypeId} {w : World} {ad : Addr} {n c j : Nat} {kk : IntKind} {xs : List Int} {x : Int} {K : Int → Prop} (he : scal Tryz.prog e = true) (h : ∀ w', E w w' → Sl w' (some ad) n c 1 (ints kk xs)) (hx : xs[j]? = some x) (hk : K x) :
    rdE Tryz.prog E (Instr.loadAt e (.pointer (some (ad.add j)))) (.one (.int kk)) w K := by
  refine ⟨x, fun w' hw => ?_, hk⟩
  obtain ⟨ad', h1, h2, _⟩ := (h w' hw).at' j (.int kk x) (by simp [ints, hx])
  cases h1
  have hg : (Sh.int kk).get (.int kk x) = some x := by unfold Sh.get; simp; rfl
  rw [run_loadAt, run_loadVar1 he h2, Sh.get_spec hg]; rfl
theorem own_some {w : World} {B : Nat} {e : TypeId} {a : Option Addr} {n c : Nat} {xs : List Int} (O : Own w B e 1 a n c (ints .i64 xs)) {j : Nat} (hj : j < xs.length) : ∃ ad, a = some ad := by
  obtain ⟨ad, h, _⟩ := O.sl.at' j (.int .i64 xs[j]) (by simp [ints, hj])
  exact ⟨ad, h⟩
theorem clone64 (s : Hdr) (xs : List Int) (w : World) (S : Sl w s.1 s.2.1 s.2.2 1 (ints .i64 xs)) (hn : s.2.1 ≤ 1000000) :
    call Tryz.prog 39 [.slice s.1 s.2.1 s.2.2] (.one (.one .slice)) w (fun (x : Hdr) w' => OwnI w' w.heap.size x xs ∧ bel w w') := by
  refine call_of (S39_calls s.1 s.2.1 s.2.2 w _ ?_)
  unfold S39
  have hl := S.int
  refine rd_nil tyI64 ?_
  obtain ⟨a, n, c⟩ := s
  dsimp only at hl hn S ⊢
  cases a with
  | none =>
    refine br_t rfl ?_
    have hn0 := (S.nil' rfl).1
    have : xs = [] := List.eq_nil_of_length_eq_zero (by omega)
    subst this
    exact ⟨((none, 0, 0) : Hdr), rfl, Own.nil _ _ _ _, bel.refl _⟩
  | some ad =>
    refine br_f rfl ?_
    refine wr_lit0 tyI64 fun b w3 O h3 _ _ => ?_
    refine wr_app tyI64 (O w.heap.size (Nat.le_refl _)) (S.up h3) h3.size rfl (by omega) (by clear S hl; induction xs with | nil => rfl | cons y ys ih => exact ih) (by omega) (by unfold maxLen; omega) fun a' c' w5 O5 hg _ _ => ?_
    refine ⟨((a', 0 + n, c') : Hdr), rfl, by simpa using O5, h3.grown hg fun k hk => ?_⟩
    have := (Own.lt (O w.heap.size (Nat.le_refl _)) k hk).1
    omega
theorem copiedF (s : Hdr) (xs : List Int) (w : World) (S : Sl w s.1 s.2.1 s.2.2 1 (ints .i64 xs)) (hn : s.2.1 ≤ 1000000) :
    call Tryz.prog 55 [.slice s.1 s.2.1 s.2.2] (.one (.one .slice)) w (fun (x : Hdr) w' => OwnI w' w.heap.size x xs ∧ bel w w') := by
  refine call_of (S55_calls s.1 s.2.1 s.2.2 w _ ?_)
  unfold S55
  have hl := S.int
  refine wr_make tyI64 s.2.1 rfl rfl (by omega) (by unfold maxLen; omega) fun ad w2 O h2 hb _ => ?_
  have O2 := O w.heap.size (Nat.le_refl _)
  refine wr_copy tyI64 O2 (S.up h2) (by clear S hl; induction xs with | nil => rfl | cons y ys ih => exact ih) fun w4 O4 hg _ => ?_
  have e : (ints .i64 xs).take s.2.1 ++ (madeCells (Value.int .i64 0).cells (s.2.1 * 1)).toList.drop s.2.1 = ints .i64 xs := by
    rw [List.take_of_length_le (by simp [ints]; omega), List.drop_of_length_le (by rw [Array.length_toList, size_madeCells]; omega), List.append_nil]
  rw [e] at O4
  exact ⟨((some ad, s.2.1, s.2.1) : Hdr), rfl, O4, h2.grown hg fun k hk => by have := (O2.lt k hk).1; omega⟩

def rightP (up : List Int) (T : List (List Int)) (rt : List Int) : (n : Nat) → PT n → List Int → List Int → Prop
  | 0, _, _, _ => False
  | n + 1, p, lo, hi =>
    let q : PN (PT n) := p
    (q.kind = 1 ∧ (q.var = 0 ∧ q.bound = 0 ∧ q.kids.length = 0) ∧ BndP up T rt lo hi q.mul) ∨
    (q.kind = 2 ∧ (q.var = 0 ∧ q.bound = 0 ∧ q.kids.length = 0) ∧ LatP up T rt q.mul) ∨
    (q.kind = 3 ∧ q.kids.length = 2 ∧ q.mul.length = 0 ∧ (0 ≤ q.var ∧ q.var < (up.length : Int)) ∧ (0 ≤ q.bound ∧ q.bound ≤ 1000000000) ∧
      (∀ a, q.kids[0]? = some a → rightP up T rt n a lo (hi.set q.var.toNat (min (hi.getD q.var.toNat 0) q.bound))) ∧ (∀ a, q.kids[1]? = some a → rightP up T rt n a (lo.set q.var.toNat (max (lo.getD q.var.toNat 0) (q.bound + 1))) hi))
section
variable {up : List Int} {T : List (List Int)} {rt : List Int} {n : Nat} {p : PN (PT n)} {lo hi : List Int}
theorem right_1 (hk : p.kind = 1) (hZ : p.var = 0 ∧ p.bound = 0 ∧ p.kids.length = 0) : rightP up T rt (n + 1) p lo hi ↔ BndP up T rt lo hi p.mul := by
  refine ⟨fun h => ?_, fun h => .inl ⟨hk, hZ, h⟩⟩
  rcases (h : _ ∨ _ ∨ _) with ⟨_, _, h⟩ | ⟨h1, _⟩ | ⟨h1, _⟩
  · exact h
  · have h1 : p.kind = 2 := h1; omega
  · have h1 : p.kind = 3 := h1; omega
theorem right_2 (hk : p.kind = 2) (hZ : p.var = 0 ∧ p.bound = 0 ∧ p.kids.length = 0) : rightP up T rt (n + 1) p lo hi ↔ LatP up T rt p.mul := by
  refine ⟨fun h => ?_, fun h => .inr (.inl ⟨hk, hZ, h⟩)⟩
  rcases (h : _ ∨ _ ∨ _) with ⟨h1, _⟩ | ⟨_, _, h⟩ | ⟨h1, _⟩
  · have h1 : p.kind = 1 := h1; omega
  · exact h
  · have h1 : p.kind = 3 := h1; omega
theorem right_no (hk : p.kind ≠ 3) (hZ : p.kind = 1 ∨ p.kind = 2 → ¬ (p.var = 0 ∧ p.bound = 0 ∧ p.kids.length = 0)) : ¬ rightP up T rt (n + 1) p lo hi := by
  intro h
  rcases (h : _ ∨ _ ∨ _) with ⟨h1, h2, _⟩ | ⟨h1, h2, _⟩ | ⟨h1, _⟩
  · exact hZ (.inl h1) h2
  · exact hZ (.inr h1) h2
  · exact hk h1
theorem right_3 (hk : p.kind = 3) : rightP up T rt (n + 1) p lo hi ↔ p.kids.length = 2 ∧ p.mul.length = 0 ∧ (0 ≤ p.var ∧ p.var < (up.length : Int)) ∧ (0 ≤ p.bound ∧ p.bound ≤ 1000000000) ∧
      (∀ a, p.kids[0]? = some a → rightP up T rt n a lo (hi.set p.var.toNat (min (hi.getD p.var.toNat 0) p.bound))) ∧ (∀ a, p.kids[1]? = some a → rightP up T rt n a (lo.set p.var.toNat (max (lo.getD p.var.toNat 0) (p.bound + 1))) hi) := by
  refine ⟨fun h => ?_, fun h => .inr (.inr ⟨hk, h⟩)⟩
  rcases (h : _ ∨ _ ∨ _) with ⟨h1, _⟩ | ⟨h1, _⟩ | ⟨_, h⟩
  · have h1 : p.kind = 1 := h1; omega
  · have h1 : p.kind = 2 := h1; omega
  · exact h
end
theorem iff_no {P : Prop} (h : ¬ P) : (false = true ↔ P) := ⟨(fun q => by cases q), fun q => absurd q h⟩
end Go.Proofs.YtajpdnphamomjaaGreat

/- Plain law: a right proof refutes all points; unit multipliers. -/

namespace Go.Proofs.YtajpdnphamomjaaGreat
open Go.RowKit Go.Q Go.Q.Num Go.V

/-! ### sums -/
def sm (f : Nat → Rat) : Nat → Rat
  | 0 => 0
  | k + 1 => sm f k + f k
theorem sm_congr {f g : Nat → Rat} : ∀ {n : Nat}, (∀ k, k < n → f k = g k) → sm f n = sm g n
  | 0, _ => rfl
  | n + 1, h => by
    show sm f n + f n = sm g n + g n
    rw [sm_congr fun k hk => h k (by omega), h n (by omega)]
theorem sm_zero {f : Nat → Rat} : ∀ {n : Nat}, (∀ k, k < n → f k = 0) → sm f n = 0
  | 0, _ => rfl
  | n + 1, h => by
    show sm f n + f n = 0
    rw [sm_zero fun k hk => h k (by omega), h n (by omega)]; exact Rat.add_zero 0
theorem sm_add (f g : Nat → Rat) : ∀ n, sm (fun k => f k + g k) n = sm f n + sm g n
  | 0 => (Rat.add_zero 0).symm
  | n + 1 => by
    show sm (fun k => f k + g k) n + (f n + g n) = sm f n + f n + (sm g n + g n)
    rw [sm_add f g n]; grind
theorem sm_mul (f : Nat → Rat) (c : Rat) : ∀ n, sm (fun k => f k * c) n = sm f n * c
  | 0 => by show (0 : Rat) = 0 * c; rw [Rat.zero_mul]
  | n + 1 => by
    show sm (fun k => f k * c) n + f n * c = (sm f n + f n) * c
    rw [sm_mul f c n]; grind
theorem sm_comm (f : Nat → Nat → Rat) : ∀ n m, sm (fun k => sm (fun i => f i k) m) n = sm (fun i => sm (fun k => f i k) n) m
  | 0, m => by
    show (0 : Rat) = sm (fun _ => 0) m
    exact (sm_zero fun _ _ => rfl).symm
  | n + 1, m => by
    show sm (fun k => sm (fun i => f i k) m) n + sm (fun i => f i n) m = sm (fun i => sm (fun k => f i k) n + f i n) m
    rw [sm_add, sm_comm f n m]
theorem sm_le {f g : Nat → Rat} : ∀ {n : Nat}, (∀ k, k < n → f k ≤ g k) → sm f n ≤ sm g n
  | 0, _ => Rat.le_refl
  | n + 1, h => by
    show sm f n + f n ≤ sm g n + g n
    have h1 := sm_le (n := n) fun k hk => h k (by omega)
    have h2 := h n (by omega)
    grind
theorem dotN_sm (r : List Int) (L : List (Int × Int)) : ∀ n, dotN r L n = sm (dotT r L) n
  | 0 => rfl
  | n + 1 => by show dotN r L n + dotT r L n = sm (dotT r L) n + dotT r L n; rw [dotN_sm r L n]
theorem dotI_sm (r xs : List Int) : ∀ n, ((dotI r xs n : Int) : Rat) = sm (fun k => ((dotJ r xs k : Int) : Rat)) n
  | 0 => rfl
  | n + 1 => by
    show ((dotI r xs n + dotJ r xs n : Int) : Rat) = sm (fun k => ((dotJ r xs k : Int) : Rat)) n + ((dotJ r xs n : Int) : Rat)
    rw [← dotI_sm r xs n]; exact Rat.intCast_add _ _

/-! ### points -/
/-- a point of a box that solves the rows -/
structure Pt (T : List (List Int)) (rt lo hi xs : List Int) : Prop where
  llo : lo.length = xs.length
  lhi : hi.length = xs.length
  each : ∀ (k : Nat) a b x, lo[k]? = some a → hi[k]? = some b → xs[k]? = some x → a ≤ x ∧ x ≤ b
  rows : ∀ (i : Nat) r b, T[i]? = some r → rt[i]? = some b → dotI r xs xs.length = b
section
variable {up : List Int} {T : List (List Int)} {rt lo hi xs : List Int} {M : List (Int × Int)}
/-- the combination of the rows at a point -/
theorem comb_pt (hA : SysA up T rt) (hM : M.length = T.length) (hx : xs.length = up.length) (hr : ∀ (i : Nat) r b, T[i]? = some r → rt[i]? = some b → dotI r xs xs.length = b) :
    sm (fun k => colQ T M k * ((xs.getD k 0 : Int) : Rat)) up.length = rhsQ T rt M := by
  have h1 : sm (fun k => colQ T M k * ((xs.getD k 0 : Int) : Rat)) up.length = sm (fun k => sm (fun i => dotT (colI T k) M i * ((xs.getD k 0 : Int) : Rat)) T.length) up.length :=
    sm_congr fun k _ => by rw [sm_mul, ← dotN_sm]; rfl
  rw [h1, sm_comm (fun i k => dotT (colI T k) M i * ((xs.getD k 0 : Int) : Rat))]
  show _ = dotN rt M T.length
  rw [dotN_sm]
  refine sm_congr fun i hi => ?_
  obtain ⟨row, hrow⟩ : ∃ row, T[i]? = some row := ⟨_, List.getElem?_eq_getElem hi⟩
  obtain ⟨p, hp⟩ : ∃ p, M[i]? = some p := ⟨_, List.getElem?_eq_getElem (by omega)⟩
  obtain ⟨b, hb⟩ : ∃ b, rt[i]? = some b := ⟨_, List.getElem?_eq_getElem (by rw [hA.1]; exact hi)⟩
  have hl : row.length = up.length := hA.2 row (List.mem_of_getElem? hrow)
  rw [dotT_at hb hp, ← hr i row b hrow hb, hx, dotI_sm, Rat.mul_comm, ← sm_mul]
  refine sm_congr fun k hk => ?_
  obtain ⟨c, hc⟩ : ∃ c, row[k]? = some c := ⟨_, List.getElem?_eq_getElem (by omega)⟩
  obtain ⟨x, hx'⟩ : ∃ x, xs[k]? = some x := ⟨_, List.getElem?_eq_getElem (by omega)⟩
  rw [dotT_at (colI_get hrow hc) hp, List.getD_eq_getElem?_getD, hx']
  have : dotJ row xs k = c * x := by unfold dotJ; rw [hc, hx']
  rw [this, Rat.intCast_mul]
  show ratv p.1 p.2 * (c : Rat) * (x : Rat) = (c : Rat) * (x : Rat) * ratv p.1 p.2
  grind
theorem lowN_sm (T : List (List Int)) (M : List (Int × Int)) (lo hi : List Int) : ∀ n, lowN T M lo hi n = sm (fun k => colQ T M k * ((pickB (colQ T M k) lo hi k : Int) : Rat)) n
  | 0 => rfl
  | n + 1 => by
    show lowN T M lo hi n + _ = sm _ n + _
    rw [lowN_sm T M lo hi n]
theorem mul_mono {c : Rat} {x y : Int} (h : 0 ≤ c) (hxy : x ≤ y) : c * (x : Rat) ≤ c * (y : Rat) := Rat.mul_le_mul_of_nonneg_left (Rat.intCast_le_intCast.2 hxy) h
theorem mul_anti {c : Rat} {x y : Int} (h : c < 0) (hxy : x ≤ y) : c * (y : Rat) ≤ c * (x : Rat) := by
  have h1 : -c * (x : Rat) ≤ -c * (y : Rat) := mul_mono (by grind) hxy
  grind
theorem bnd_sound (h : BndP up T rt lo hi M) (hx : Pt T rt lo hi xs) : False := by
  obtain ⟨h1, h2, h3, h4, h5, h6⟩ := h
  obtain ⟨c1, c2, c3, c4, c5⟩ := combE_ok h1
  obtain ⟨_, _, _, hA⟩ := sysE_ok c1
  have hxl : xs.length = up.length := by rw [← hx.llo, h2]
  have hc := comb_pt hA c2 hxl hx.rows
  have get : ∀ k, k < up.length → ∃ a b x, lo[k]? = some a ∧ hi[k]? = some b ∧ xs[k]? = some x ∧ a ≤ x ∧ x ≤ b := fun k hk => by
    obtain ⟨a, ha⟩ : ∃ a, lo[k]? = some a := ⟨_, List.getElem?_eq_getElem (by omega)⟩
    obtain ⟨b, hb⟩ : ∃ b, hi[k]? = some b := ⟨_, List.getElem?_eq_getElem (by omega)⟩
    obtain ⟨x, hx'⟩ : ∃ x, xs[k]? = some x := ⟨_, List.getElem?_eq_getElem (by omega)⟩
    exact ⟨a, b, x, ha, hb, hx', hx.each k a b x ha hb hx'⟩
  have hlow : lowN T M lo hi up.length ≤ rhsQ T rt M := by
    rw [lowN_sm, ← hc]
    refine sm_le fun k hk => ?_
    obtain ⟨a, b, x, ha, hb, hx', hax, hxb⟩ := get k hk
    rw [pick_at ha hb, List.getD_eq_getElem?_getD, hx']
    show _ ≤ colQ T M k * (x : Rat)
    split
    · rename_i hn; exact mul_anti hn hxb
    · rename_i hn; exact mul_mono (by grind) hax
  have hhigh : rhsQ T rt M ≤ lowN T M hi lo up.length := by
    rw [lowN_sm, ← hc]
    refine sm_le fun k hk => ?_
    obtain ⟨a, b, x, ha, hb, hx', hax, hxb⟩ := get k hk
    rw [pick_at hb ha, List.getD_eq_getElem?_getD, hx']
    show colQ T M k * (x : Rat) ≤ _
    split
    · rename_i hn; exact mul_anti hn hax
    · rename_i hn; exact mul_mono (by grind) hxb
  rcases h6 with ⟨k, a, b, ha, hb, hab⟩ | h6 | h6
  · have hk : k < xs.length := by have := (List.getElem?_eq_some_iff.1 ha).1; have := hx.llo; omega
    obtain ⟨x, hx'⟩ : ∃ x, xs[k]? = some x := ⟨_, List.getElem?_eq_getElem hk⟩
    have := hx.each k a b x ha hb hx'
    omega
  · grind
  · grind
/-- a sum of whole numbers is whole -/
theorem sm_whole {f : Nat → Rat} : ∀ {n : Nat}, (∀ k, k < n → ∃ z : Int, f k = (z : Rat)) → ∃ z : Int, sm f n = (z : Rat)
  | 0, _ => ⟨0, rfl⟩
  | n + 1, h => by
    obtain ⟨a, ha⟩ := sm_whole (n := n) fun k hk => h k (by omega)
    obtain ⟨b, hb⟩ := h n (by omega)
    exact ⟨a + b, by show sm f n + f n = _; rw [ha, hb]; exact (Rat.intCast_add _ _).symm⟩
theorem den_one {q : Rat} (h : q.den = 1) : q = (q.num : Rat) := by
  apply Rat.ext
  · rfl
  · rw [h]; rfl
theorem lat_sound (h : LatP up T rt M) (hx : Pt T rt lo hi xs) (hl : xs.length = up.length) : False := by
  obtain ⟨h1, h2, h3⟩ := h
  obtain ⟨c1, c2, c3, c4, c5⟩ := combE_ok h1
  obtain ⟨_, _, _, hA⟩ := sysE_ok c1
  have hc := comb_pt hA c2 hl hx.rows
  obtain ⟨z, hz⟩ := sm_whole (n := up.length) (f := fun k => colQ T M k * ((xs.getD k 0 : Int) : Rat)) fun k hk => by
    have hd := h2 _ (List.mem_of_getElem? (cols_get (up := up) (T := T) (M := M) hk))
    have hd' : (colQ T M k).den = 1 := by
      have : (((colQ T M k).den : Nat) : Int) = 1 := hd
      omega
    refine ⟨(colQ T M k).num * xs.getD k 0, ?_⟩
    rw [Rat.intCast_mul, ← den_one hd']
  rw [hc] at hz
  refine h3 ?_
  rw [hz]; rfl
/-- A RIGHT PROOF LEAVES NO POINT. -/
theorem right_sound : ∀ (n : Nat) (p : PT n) (lo hi : List Int), rightP up T rt n p lo hi → lo.length = up.length → hi.length = up.length → ¬ Pt T rt lo hi xs
  | 0, _, _, _, h, _, _, _ => h
  | n + 1, p, lo, hi, h, hl, hh, hx => by
    have hxl : xs.length = up.length := by rw [← hx.llo, hl]
    rcases (h : _ ∨ _ ∨ _) with ⟨_, _, h⟩ | ⟨_, _, h⟩ | ⟨_, h1, _, h3, h4, h5, h6⟩
    · exact bnd_sound h hx
    · exact lat_sound h hx hxl
    · generalize hq : (p : PN (PT n)) = q at *
      have h1 : q.kids.length = 2 := h1
      have h3 : 0 ≤ q.var ∧ q.var < (up.length : Int) := h3
      obtain ⟨k, hk⟩ : ∃ k : Nat, q.var = (k : Int) := ⟨q.var.toNat, by omega⟩
      have hkk : q.var.toNat = k := by omega
      have h5 : ∀ a, q.kids[0]? = some a → rightP up T rt n a lo (hi.set q.var.toNat (min (hi.getD q.var.toNat 0) q.bound)) := h5
      have h6 : ∀ a, q.kids[1]? = some a → rightP up T rt n a (lo.set q.var.toNat (max (lo.getD q.var.toNat 0) (q.bound + 1))) hi := h6
      rw [hkk] at h5 h6
      have hku : k < up.length := by omega
      obtain ⟨a, ha⟩ : ∃ a, lo[k]? = some a := ⟨_, List.getElem?_eq_getElem (by omega)⟩
      obtain ⟨b, hb⟩ : ∃ b, hi[k]? = some b := ⟨_, List.getElem?_eq_getElem (by omega)⟩
      obtain ⟨x, hx'⟩ : ∃ x, xs[k]? = some x := ⟨_, List.getElem?_eq_getElem (by omega)⟩
      obtain ⟨hax, hxb⟩ := hx.each k a b x ha hb hx'
      rcases Int.lt_or_le q.bound x with hlt | hle
      · refine right_sound n _ _ _ (h6 q.kids[1] (by simp)) (by simp [hl]) hh ⟨by simp [hx.llo], hx.lhi, fun j a' b' y ha' hb' hy => ?_, hx.rows⟩
        by_cases hj : j = k
        · subst hj
          rw [List.getElem?_set_self (by omega), List.getD_eq_getElem?_getD, ha] at ha'
          rw [hb] at hb'; rw [hx'] at hy
          cases hb'; cases hy
          have : max a (q.bound + 1) = a' := by simpa using ha'
          omega
        · rw [List.getElem?_set_ne (fun e => hj e.symm)] at ha'
          exact hx.each j a' b' y ha' hb' hy
      · refine right_sound n _ _ _ (h5 q.kids[0] (by simp)) hl (by simp [hh]) ⟨hx.llo, by simp [hx.lhi], fun j a' b' y ha' hb' hy => ?_, hx.rows⟩
        by_cases hj : j = k
        · subst hj
          rw [List.getElem?_set_self (by omega), List.getD_eq_getElem?_getD, hb] at hb'
          rw [ha] at ha'; rw [hx'] at hy
          cases ha'; cases hy
          have : min b q.bound = b' := by simpa using hb'
          omega
        · rw [List.getElem?_set_ne (fun e => hj e.symm)] at hb'
          exact hx.each j a' b' y ha' hb' hy
end

theorem divInt_1 (n : Int) : Rat.divInt n 1 = n := by
  show Rat.divInt n ((1 : Nat) : Int) = n
  rw [Rat.divInt_ofNat, Rat.mkRat_one]

/-! ### unit multipliers -/
def unitM (m i : Nat) (p : Int × Int) : List (Int × Int) := (List.replicate m (0, 1)).set i p
theorem unitM_len (m i : Nat) (p : Int × Int) : (unitM m i p).length = m := by simp [unitM]
theorem unitM_self {m i : Nat} (h : i < m) (p : Int × Int) : (unitM m i p)[i]? = some p := by unfold unitM; rw [List.getElem?_set_self (by simpa using h)]
theorem unitM_ne {m i k : Nat} (h : k < m) (hk : k ≠ i) (p : Int × Int) : (unitM m i p)[k]? = some (0, 1) := by unfold unitM; rw [List.getElem?_set_ne (fun e => hk e.symm), List.getElem?_replicate, if_pos h]
theorem dotN_unit {r : List Int} {m i : Nat} {p : Int × Int} {c : Int} (hr : r.length = m) (hc : r[i]? = some c) : dotN r (unitM m i p) m = ratv p.1 p.2 * (c : Rat) := by
  have hi : i < m := by have := (List.getElem?_eq_some_iff.1 hc).1; omega
  have key : ∀ k, k ≤ m → dotN r (unitM m i p) k = if i < k then ratv p.1 p.2 * (c : Rat) else 0 := by
    intro k
    induction k with
    | zero => intro _; rfl
    | succ k ih =>
      intro hk
      show dotN r (unitM m i p) k + dotT r (unitM m i p) k = _
      rw [ih (by omega)]
      by_cases h : k = i
      · subst h
        rw [if_neg (by omega), if_pos (by omega), dotT_at hc (unitM_self hi p), Rat.zero_add]
      · obtain ⟨d, hd⟩ : ∃ d, r[k]? = some d := ⟨_, List.getElem?_eq_getElem (by omega)⟩
        rw [dotT_p0 hd (unitM_ne (by omega) h p) rfl, Rat.add_zero]
        by_cases h2 : i < k
        · rw [if_pos h2, if_pos (by omega)]
        · rw [if_neg h2, if_neg (by omega)]
  rw [key m (Nat.le_refl _), if_pos hi]
section
variable {up : List Int} {T : List (List Int)} {rt lo hi : List Int} {i : Nat} {row : List Int} {b : Int} {p : Int × Int}
theorem colQ_unit (hrow : T[i]? = some row) {k : Nat} {c : Int} (hc : row[k]? = some c) : colQ T (unitM T.length i p) k = ratv p.1 p.2 * (c : Rat) :=
  dotN_unit (colI_len T k) (colI_get hrow hc)
theorem rhsQ_unit (hA : SysA up T rt) (hb : rt[i]? = some b) : rhsQ T rt (unitM T.length i p) = ratv p.1 p.2 * (b : Rat) := dotN_unit hA.1 hb
theorem unit_frac (hp : IsFrac p.1 p.2) {m : Nat} : ∀ q ∈ unitM m i p, IsFrac q.1 q.2 := by
  intro q hq
  obtain ⟨k, hk⟩ := List.getElem?_of_mem hq
  by_cases h : k = i
  · subst h
    have hkm : k < m := by have := (List.getElem?_eq_some_iff.1 hk).1; simpa [unitM] using this
    rw [unitM_self hkm] at hk; cases hk; exact hp
  · have hkm : k < m := by have := (List.getElem?_eq_some_iff.1 hk).1; simpa [unitM] using this
    rw [unitM_ne hkm h] at hk; cases hk
    exact ⟨by decide, by decide, by decide, by decide, by decide⟩
theorem fits_int {z : Int} (h : -1000000000 ≤ z ∧ z ≤ 1000000000) : Fits (z : Rat) := ⟨by rw [show ((z : Rat)).num = z from rfl]; omega, by rw [show ((z : Rat)).num = z from rfl]; omega, by rw [show ((z : Rat)).den = 1 from rfl]; omega⟩
/-- a row whose bounds contradict it -/
def minI (r lo hi : List Int) : Nat → Int
  | 0 => 0
  | k + 1 => minI r lo hi k + min (r.getD k 0 * lo.getD k 0) (r.getD k 0 * hi.getD k 0)
def maxI (r lo hi : List Int) : Nat → Int
  | 0 => 0
  | k + 1 => maxI r lo hi k + max (r.getD k 0 * lo.getD k 0) (r.getD k 0 * hi.getD k 0)
theorem low_unit (hrow : T[i]? = some row) (hlo : lo.length = row.length) (hhi : hi.length = row.length) (hle : ∀ (k : Nat) a b, lo[k]? = some a → hi[k]? = some b → a ≤ b) : ∀ n, n ≤ row.length → lowN T (unitM T.length i (1, 1)) lo hi n = ((minI row lo hi n : Int) : Rat) ∧ lowN T (unitM T.length i (1, 1)) hi lo n = ((maxI row lo hi n : Int) : Rat)
  | 0, _ => ⟨rfl, rfl⟩
  | n + 1, hn => by
    obtain ⟨h1, h2⟩ := low_unit hrow hlo hhi hle n (by omega)
    obtain ⟨c, hc⟩ : ∃ c, row[n]? = some c := ⟨_, List.getElem?_eq_getElem (by omega)⟩
    obtain ⟨a, ha⟩ : ∃ a, lo[n]? = some a := ⟨_, List.getElem?_eq_getElem (by omega)⟩
    obtain ⟨b, hb⟩ : ∃ b, hi[n]? = some b := ⟨_, List.getElem?_eq_getElem (by omega)⟩
    have hab := hle n a b ha hb
    have hq : colQ T (unitM T.length i (1, 1)) n = (c : Rat) := by rw [colQ_unit hrow hc, ratv_one]; exact Rat.one_mul _
    have hneg : (c : Rat) < 0 ↔ c < 0 := by rw [← Rat.intCast_lt_intCast]; exact Iff.rfl
    have g1 : row.getD n 0 = c := by rw [List.getD_eq_getElem?_getD, hc]; rfl
    have g2 : lo.getD n 0 = a := by rw [List.getD_eq_getElem?_getD, ha]; rfl
    have g3 : hi.getD n 0 = b := by rw [List.getD_eq_getElem?_getD, hb]; rfl
    constructor
    · show lowN T (unitM T.length i (1, 1)) lo hi n + colQ T (unitM T.length i (1, 1)) n * ((pickB (colQ T (unitM T.length i (1, 1)) n) lo hi n : Int) : Rat) = ((minI row lo hi n + min (row.getD n 0 * lo.getD n 0) (row.getD n 0 * hi.getD n 0) : Int) : Rat)
      rw [h1, hq, pick_at ha hb, g1, g2, g3, Rat.intCast_add, ← Rat.intCast_mul]
      congr 2
      by_cases hn : c < 0
      · rw [if_pos (hneg.2 hn)]
        have := Int.mul_le_mul_of_nonpos_left (by omega : c ≤ 0) hab
        omega
      · rw [if_neg (fun q => hn (hneg.1 q))]
        have := Int.mul_le_mul_of_nonneg_left hab (by omega : 0 ≤ c)
        omega
    · show lowN T (unitM T.length i (1, 1)) hi lo n + colQ T (unitM T.length i (1, 1)) n * ((pickB (colQ T (unitM T.length i (1, 1)) n) hi lo n : Int) : Rat) = ((maxI row lo hi n + max (row.getD n 0 * lo.getD n 0) (row.getD n 0 * hi.getD n 0) : Int) : Rat)
      rw [h2, hq, pick_at hb ha, g1, g2, g3, Rat.intCast_add, ← Rat.intCast_mul]
      congr 2
      by_cases hn : c < 0
      · rw [if_pos (hneg.2 hn)]
        have := Int.mul_le_mul_of_nonpos_left (by omega : c ≤ 0) hab
        omega
      · rw [if_neg (fun q => hn (hneg.1 q))]
        have := Int.mul_le_mul_of_nonneg_left hab (by omega : 0 ≤ c)
        omega
theorem unit_comb (hok : sysE up T rt = 0) (hrow : T[i]? = some row) (hb : rt[i]? = some b) : combE up T rt (unitM T.length i (1, 1)) = 0 := by
  obtain ⟨_, _, hR, hA⟩ := sysE_ok hok
  have hl := hA.2 row (List.mem_of_getElem? hrow)
  refine combE_0 hok (unitM_len _ _ _) (unit_frac ⟨by decide, by decide, by decide, by decide, by decide⟩) ⟨fun k hk => ?_, ?_⟩
  · obtain ⟨c, hc⟩ : ∃ c, row[k]? = some c := ⟨_, List.getElem?_eq_getElem (by omega)⟩
    rw [colQ_unit hrow hc, ratv_one]
    have := hR.2.2 row (List.mem_of_getElem? hrow) c (List.mem_of_getElem? hc)
    rw [show ((1 : Int) : Rat) = 1 from rfl, Rat.one_mul]
    exact fits_int (by omega)
  · rw [rhsQ_unit hA hb, ratv_one, show ((1 : Int) : Rat) = 1 from rfl, Rat.one_mul]
    exact fits_int (hR.2.1 b (List.mem_of_getElem? hb))
theorem unit_bnd (hok : sysE up T rt = 0) (hrow : T[i]? = some row) (hb : rt[i]? = some b) (hlo : lo.length = up.length) (hhi : hi.length = up.length) (hle : ∀ (k : Nat) a b, lo[k]? = some a → hi[k]? = some b → a ≤ b)
    (w1 : ∀ x ∈ lo, Win x) (w2 : ∀ x ∈ hi, Win x) (h : b < minI row lo hi up.length ∨ maxI row lo hi up.length < b) : BndP up T rt lo hi (unitM T.length i (1, 1)) := by
  obtain ⟨_, _, hR, hA⟩ := sysE_ok hok
  have hl := hA.2 row (List.mem_of_getElem? hrow)
  obtain ⟨e1, e2⟩ := low_unit hrow (by omega) (by omega) hle up.length (by omega)
  refine ⟨unit_comb hok hrow hb, hlo, hhi, w1, w2, .inr ?_⟩
  rw [e1, e2, rhsQ_unit hA hb, ratv_one, show ((1 : Int) : Rat) = 1 from rfl, Rat.one_mul]
  rcases h with h | h
  · exact .inl (Rat.intCast_lt_intCast.2 h)
  · exact .inr (Rat.intCast_lt_intCast.2 h)
theorem unit_lat (hok : sysE up T rt = 0) (hrow : T[i]? = some row) (hb : rt[i]? = some b) {g : Int} (hg : 1 < g) (hg2 : g ≤ 1000000) (hd : ∀ c ∈ row, g ∣ c) (hn : ¬ g ∣ b) : LatP up T rt (unitM T.length i (1, g)) := by
  obtain ⟨_, _, hR, hA⟩ := sysE_ok hok
  have hl := hA.2 row (List.mem_of_getElem? hrow)
  have hf : IsFrac 1 g := ⟨by omega, by omega, by omega, by omega, by simp⟩
  have hr : ratv 1 g = Rat.divInt 1 g := ratv_div hf
  have col : ∀ k c, row[k]? = some c → ∃ z : Int, c = g * z ∧ colQ T (unitM T.length i (1, g)) k = (z : Rat) := fun k c hc => by
    obtain ⟨z, hz⟩ := hd c (List.mem_of_getElem? hc)
    refine ⟨z, hz, ?_⟩
    rw [colQ_unit hrow hc, hr, hz, Rat.intCast_mul]
    show Rat.divInt 1 g * ((g : Rat) * (z : Rat)) = z
    rw [← Rat.mul_assoc]
    have : Rat.divInt 1 g * (g : Rat) = 1 := by
      rw [← divInt_1 g, Rat.divInt_mul_divInt, Int.one_mul, Int.mul_one, Rat.divInt_self' (by omega)]
    rw [this, Rat.one_mul]
  have rhs : rhsQ T rt (unitM T.length i (1, g)) = Rat.divInt b g := by
    rw [rhsQ_unit hA hb, hr, ← divInt_1 b, Rat.divInt_mul_divInt, Int.one_mul, Int.mul_one]
  have hbr := hR.2.1 b (List.mem_of_getElem? hb)
  refine ⟨combE_0 hok (unitM_len _ _ _) (unit_frac hf) ⟨fun k hk => ?_, ?_⟩, fun q hq => ?_, ?_⟩
  · obtain ⟨c, hc⟩ : ∃ c, row[k]? = some c := ⟨_, List.getElem?_eq_getElem (by omega)⟩
    obtain ⟨z, hz, e⟩ := col k c hc
    rw [e]
    have := hR.2.2 row (List.mem_of_getElem? hrow) c (List.mem_of_getElem? hc)
    refine fits_int ?_
    have h1 : z.natAbs ≤ c.natAbs := by
      rw [hz, Int.natAbs_mul]
      exact Nat.le_mul_of_pos_left _ (by omega)
    omega
  · rw [rhs]
    exact (Bd.div (N := 1000000000) (D := 1000000) (by omega) (by omega) (by omega)).fits (by omega) (by omega)
  · obtain ⟨k, hk⟩ := List.getElem?_of_mem hq
    have hk' : k < up.length := by have := (List.getElem?_eq_some_iff.1 hk).1; rwa [cols_len] at this
    rw [cols_get hk'] at hk
    cases hk
    obtain ⟨c, hc⟩ : ∃ c, row[k]? = some c := ⟨_, List.getElem?_eq_getElem (by omega)⟩
    obtain ⟨z, _, e⟩ := col k c hc
    show (((colQ T _ k).den : Nat) : Int) = 1
    rw [e]; rfl
  · rw [rhs]
    intro h1
    have h1' : (Rat.divInt b g).den = 1 := by omega
    have h2 := den_one h1'
    have h3 : Rat.divInt b g * (g : Rat) = (b : Rat) := by
      rw [← divInt_1 g, Rat.divInt_mul_divInt, Int.mul_one, ← divInt_1 b, Rat.divInt_eq_divInt_iff (by omega) (by omega)]; grind
    rw [h2, ← Rat.intCast_mul] at h3
    have h4 := Rat.intCast_inj.1 h3
    exact hn ⟨_, by rw [← h4, Int.mul_comm]⟩
end
end Go.Proofs.YtajpdnphamomjaaGreat

/- The conditions of functions, printed by our tool; each is checked against the code by the kernel. -/



namespace Go.Proofs
open Go Go.V Go.RowKit
/-- querylab/integral.unit -/
def S38 (s_0a : Option Addr) (s_0n : Nat) (s_0c : Nat) (s_1a : Option Addr) (s_1n : Nat) (s_1c : Nat) (s_2a : Option Addr) (s_2n : Nat) (s_2c : Nat) (row_ : Int) (f_0 : Int) (f_1 : Int) (w0 : World) (R : Value → World → Prop) : Prop :=
 wr Tryz.prog (Instr.box 29 (.agg #[(.slice s_0a s_0n s_0c), (.slice s_1a s_1n s_1c), (.slice s_2a s_2n s_2c)])) (.one .addr) w0 fun (x1 : Addr) (w2 : World) =>
 wr Tryz.prog (Instr.box 60 (.agg #[(.int .i64 f_0), (.int .i64 f_1)])) (.one .addr) w2 fun (x3 : Addr) (w4 : World) =>
 rd Tryz.prog (Instr.loadAt 27 (.pointer (some (Addr.add x1 1)))) (.one .slice) w4 fun (x5 : (Option Addr × Nat × Nat)) =>
 wr Tryz.prog (Instr.makeSlice 32 (.int .i64 ((x5.2.1 : Nat) : Int)) (.int .i64 ((x5.2.1 : Nat) : Int))) (.one .slice) w4 fun (x6 : (Option Addr × Nat × Nat)) (w7 : World) =>
 loop (T := (Int × Unit)) (0, ()) w7 fun (again8 : (Int × Unit) → World → Prop) (s9 : (Int × Unit)) w10 => ∀ _ : Nat → Value,
 br (decide (s9.1 < ((x6.2.1 : Nat) : Int))) (rdp Tryz.prog (Instr.indexAt 32 (.slice x6.1 x6.2.1 x6.2.2) (.int .i64 s9.1)) (.one .addr) fun (x11 : Addr) =>
 wu Tryz.prog (Instr.storeAt 60 (.pointer (some x11)) (.agg #[(.int .i64 0), (.int .i64 1)])) w10 fun (w12 : World) =>
 z (IntKind.wrap .i64 (s9.1 + 1)) fun (z13 : Int) =>
 again8 (z13, ()) w12)
 (rd Tryz.prog (Instr.loadAt 60 (.pointer (some x3))) (.agg [(.int .i64), (.int .i64)]) w10 fun (x14 : (Int × Int × Unit)) =>
 rdp Tryz.prog (Instr.indexAt 32 (.slice x6.1 x6.2.1 x6.2.2) (.int .i64 row_)) (.one .addr) fun (x15 : Addr) =>
 wu Tryz.prog (Instr.storeAt 60 (.pointer (some x15)) (.agg #[(.int .i64 x14.1), (.int .i64 x14.2.1)])) w10 fun (w16 : World) =>
 R (.slice x6.1 x6.2.1 x6.2.2) w16)
def H38 : Hints := ⟨[(2, 0, [(15, (.one (.int .i64)))])], [], [], []⟩
set_option maxRecDepth 100000 in
theorem S38_eq (s_0a : Option Addr) (s_0n : Nat) (s_0c : Nat) (s_1a : Option Addr) (s_1n : Nat) (s_1c : Nat) (s_2a : Option Addr) (s_2n : Nat) (s_2c : Nat) (row_ : Int) (f_0 : Int) (f_1 : Int) (w0 : World) (R : Value → World → Prop) : vcFn Tryz.prog H38 Tryz.f38 [(.agg #[(.slice s_0a s_0n s_0c), (.slice s_1a s_1n s_1c), (.slice s_2a s_2n s_2c)]), (.int .i64 row_), (.agg #[(.int .i64 f_0), (.int .i64 f_1)])] w0 R = S38 s_0a s_0n s_0c s_1a s_1n s_1c s_2a s_2n s_2c row_ f_0 f_1 w0 R := by kernel_rfl
set_option maxRecDepth 100000 in
theorem S38_calls (s_0a : Option Addr) (s_0n : Nat) (s_0c : Nat) (s_1a : Option Addr) (s_1n : Nat) (s_1c : Nat) (s_2a : Option Addr) (s_2n : Nat) (s_2c : Nat) (row_ : Int) (f_0 : Int) (f_1 : Int) (w0 : World) (R : Value → World → Prop) (h : S38 s_0a s_0n s_0c s_1a s_1n s_1c s_2a s_2n s_2c row_ f_0 f_1 w0 R) : Calls Tryz.prog 38 #[(.agg #[(.slice s_0a s_0n s_0c), (.slice s_1a s_1n s_1c), (.slice s_2a s_2n s_2c)]), (.int .i64 row_), (.agg #[(.int .i64 f_0), (.int .i64 f_1)])] w0 (ret R) := by
  rw [← S38_eq] at h; exact vcFn_sound follows_ Tryz.func38 h

/-- querylab/integral.lattice -/
def S19 (s_0a : Option Addr) (s_0n : Nat) (s_0c : Nat) (s_1a : Option Addr) (s_1n : Nat) (s_1c : Nat) (s_2a : Option Addr) (s_2n : Nat) (s_2c : Nat) (w0 : World) (R : Value → World → Prop) : Prop :=
 wr Tryz.prog (Instr.box 29 (.agg #[(.slice s_0a s_0n s_0c), (.slice s_1a s_1n s_1c), (.slice s_2a s_2n s_2c)])) (.one .addr) w0 fun (x1 : Addr) (w2 : World) =>
 wr Tryz.prog (Instr.alloc 35 true (.tuple #[])) (.one .addr) w2 fun (x3 : Addr) (w4 : World) =>
 rd Tryz.prog (Instr.loadAt 27 (.pointer (some (Addr.add x1 1)))) (.one .slice) w4 fun (x5 : (Option Addr × Nat × Nat)) =>
 loop (T := (Int × Unit)) (0, ()) w4 fun (again6 : (Int × Unit) → World → Prop) (s7 : (Int × Unit)) w8 => ∀ _ : Nat → Value,
 br (decide (s7.1 < ((x5.2.1 : Nat) : Int))) (join (T := (Unit)) (fun (_s10 : (Unit)) w11 => ∀ _ : Nat → Value,
 z (IntKind.wrap .i64 (s7.1 + 1)) fun (z12 : Int) =>
 again6 (z12, ()) w11)
  fun (K9 : (Unit) → World → Prop) =>
 rdp Tryz.prog (Instr.indexAt 27 (.slice x5.1 x5.2.1 x5.2.2) (.int .i64 s7.1)) (.one .addr) fun (x13 : Addr) =>
 rd Tryz.prog (Instr.loadAt 26 (.pointer (some x13))) (.one .slice) w8 fun (x14 : (Option Addr × Nat × Nat)) =>
 loop (T := (Int × Int × Unit)) (0, 0, ()) w8 fun (again15 : (Int × Int × Unit) → World → Prop) (s16 : (Int × Int × Unit)) w17 => ∀ _ : Nat → Value,
 br (decide (s16.2.1 < ((x14.2.1 : Nat) : Int))) (rdp Tryz.prog (Instr.indexAt 26 (.slice x14.1 x14.2.1 x14.2.2) (.int .i64 s16.2.1)) (.one .addr) fun (x18 : Addr) =>
 rd Tryz.prog (Instr.loadAt 2 (.pointer (some x18))) (.one (.int .i64)) w17 fun (x19 : Int) =>
 z (IntKind.wrap .i64 (0 - x19)) fun (z20 : Int) =>
 z (if z20 > x19 then z20 else x19) fun (z21 : Int) =>
 loop (T := (Int × Int × Unit)) (s16.1, z21, ()) w17 fun (again22 : (Int × Int × Unit) → World → Prop) (s23 : (Int × Int × Unit)) w24 => ∀ _ : Nat → Value,
 br (s23.2.1 == 0) (z (IntKind.wrap .i64 (s16.2.1 + 1)) fun (z25 : Int) =>
 again15 (s23.1, z25, ()) w24)
 (drw w24 fun w26 =>
 rdp Tryz.prog (cmpS .rem 2 (.tmp 31) (.tmp 32) (.int .i64 s23.1) (.int .i64 s23.2.1)) (.one (.int .i64)) fun (x27 : Int) =>
 again22 (s23.2.1, x27, ()) w26))
 (br (decide (s16.1 > 1)) (rd Tryz.prog (Instr.loadAt 26 (.pointer (some (Addr.add x1 2)))) (.one .slice) w17 fun (x28 : (Option Addr × Nat × Nat)) =>
 rdp Tryz.prog (Instr.indexAt 26 (.slice x28.1 x28.2.1 x28.2.2) (.int .i64 s7.1)) (.one .addr) fun (x29 : Addr) =>
 rd Tryz.prog (Instr.loadAt 2 (.pointer (some x29))) (.one (.int .i64)) w17 fun (x30 : Int) =>
 rdp Tryz.prog (cmpS .rem 2 (.tmp 45) (.tmp 46) (.int .i64 x30) (.int .i64 s16.1)) (.one (.int .i64)) fun (x31 : Int) =>
 br (x31 != 0) (rd Tryz.prog (Instr.loadAt 29 (.pointer (some x1))) (.agg [.slice, .slice, .slice]) w17 fun (x32 : ((Option Addr × Nat × Nat) × (Option Addr × Nat × Nat) × (Option Addr × Nat × Nat) × Unit)) =>
 call Tryz.prog 38 [(.agg #[(.slice x32.1.1 x32.1.2.1 x32.1.2.2), (.slice x32.2.1.1 x32.2.1.2.1 x32.2.1.2.2), (.slice x32.2.2.1.1 x32.2.2.1.2.1 x32.2.2.1.2.2)]), (.int .i64 s7.1), (.agg #[(.int .i64 1), (.int .i64 s16.1)])] (.one (.one .slice)) w17 fun (x33 : (Option Addr × Nat × Nat)) (w34 : World) =>
 wu Tryz.prog (Instr.storeAt 35 (.pointer (some x3)) (.agg #[(.int .i64 2), (.slice x33.1 x33.2.1 x33.2.2), (.int .i64 0), (.int .i64 0), (.slice none 0 0)])) w34 fun (w35 : World) =>
 rd Tryz.prog (loadVar 35 x3) (.agg [(.int .i64), .slice, (.int .i64), (.int .i64), .slice]) w35 fun (x36 : (Int × (Option Addr × Nat × Nat) × Int × Int × (Option Addr × Nat × Nat) × Unit)) =>
 R (.tuple #[(.agg #[(.int .i64 x36.1), (.slice x36.2.1.1 x36.2.1.2.1 x36.2.1.2.2), (.int .i64 x36.2.2.1), (.int .i64 x36.2.2.2.1), (.slice x36.2.2.2.2.1.1 x36.2.2.2.2.1.2.1 x36.2.2.2.2.1.2.2)]), (.bool true)]) w35)
 (K9 (()) w17))
 (K9 (()) w17)))
 (wu Tryz.prog (Instr.storeAt 35 (.pointer (some x3)) (.agg #[(.int .i64 0), (.slice none 0 0), (.int .i64 0), (.int .i64 0), (.slice none 0 0)])) w8 fun (w37 : World) =>
 rd Tryz.prog (loadVar 35 x3) (.agg [(.int .i64), .slice, (.int .i64), (.int .i64), .slice]) w37 fun (x38 : (Int × (Option Addr × Nat × Nat) × Int × Int × (Option Addr × Nat × Nat) × Unit)) =>
 R (.tuple #[(.agg #[(.int .i64 x38.1), (.slice x38.2.1.1 x38.2.1.2.1 x38.2.1.2.2), (.int .i64 x38.2.2.1), (.int .i64 x38.2.2.2.1), (.slice x38.2.2.2.2.1.1 x38.2.2.2.2.1.2.1 x38.2.2.2.2.1.2.2)]), (.bool false)]) w37)
def H19 : Hints := ⟨[(2, 0, [(14, (.one (.int .i64)))]), (2, 2, [(6, (.one (.int .i64))), (21, (.one (.int .i64)))]), (2, 4, [(9, (.one (.int .i64))), (10, (.one (.int .i64)))]), (1, 1, [])], [(9, 0)], [], []⟩
set_option maxRecDepth 100000 in
theorem S19_eq (s_0a : Option Addr) (s_0n : Nat) (s_0c : Nat) (s_1a : Option Addr) (s_1n : Nat) (s_1c : Nat) (s_2a : Option Addr) (s_2n : Nat) (s_2c : Nat) (w0 : World) (R : Value → World → Prop) : vcFn Tryz.prog H19 Tryz.f19 [(.agg #[(.slice s_0a s_0n s_0c), (.slice s_1a s_1n s_1c), (.slice s_2a s_2n s_2c)])] w0 R = S19 s_0a s_0n s_0c s_1a s_1n s_1c s_2a s_2n s_2c w0 R := by kernel_rfl
set_option maxRecDepth 100000 in
theorem S19_calls (s_0a : Option Addr) (s_0n : Nat) (s_0c : Nat) (s_1a : Option Addr) (s_1n : Nat) (s_1c : Nat) (s_2a : Option Addr) (s_2n : Nat) (s_2c : Nat) (w0 : World) (R : Value → World → Prop) (h : S19 s_0a s_0n s_0c s_1a s_1n s_1c s_2a s_2n s_2c w0 R) : Calls Tryz.prog 19 #[(.agg #[(.slice s_0a s_0n s_0c), (.slice s_1a s_1n s_1c), (.slice s_2a s_2n s_2c)])] w0 (ret R) := by
  rw [← S19_eq] at h; exact vcFn_sound follows_ Tryz.func19 h

/-- querylab/integral.points -/
def S20 (s_0a : Option Addr) (s_0n : Nat) (s_0c : Nat) (s_1a : Option Addr) (s_1n : Nat) (s_1c : Nat) (s_2a : Option Addr) (s_2n : Nat) (s_2c : Nat) (w0 : World) (R : Value → World → Prop) : Prop :=
 wr Tryz.prog (Instr.box 29 (.agg #[(.slice s_0a s_0n s_0c), (.slice s_1a s_1n s_1c), (.slice s_2a s_2n s_2c)])) (.one .addr) w0 fun (x1 : Addr) (w2 : World) =>
 rd Tryz.prog (Instr.loadAt 26 (.pointer (some x1))) (.one .slice) w2 fun (x3 : (Option Addr × Nat × Nat)) =>
 loop (T := (Int × Int × Unit)) (1, 0, ()) w2 fun (again4 : (Int × Int × Unit) → World → Prop) (s5 : (Int × Int × Unit)) w6 => ∀ _ : Nat → Value,
 br (decide (s5.2.1 < ((x3.2.1 : Nat) : Int))) (rdp Tryz.prog (Instr.indexAt 26 (.slice x3.1 x3.2.1 x3.2.2) (.int .i64 s5.2.1)) (.one .addr) fun (x7 : Addr) =>
 rd Tryz.prog (Instr.loadAt 2 (.pointer (some x7))) (.one (.int .i64)) w6 fun (x8 : Int) =>
 z (IntKind.wrap .i64 (x8 + 1)) fun (z9 : Int) =>
 br (decide (z9 > 500)) (R (.tuple #[(.int .i64 0), (.bool false)]) w6)
 (z (IntKind.wrap .i64 (x8 + 1)) fun (z10 : Int) =>
 z (IntKind.wrap .i64 (s5.1 * z10)) fun (z11 : Int) =>
 br (decide (z11 > 500)) (R (.tuple #[(.int .i64 0), (.bool false)]) w6)
 (z (IntKind.wrap .i64 (s5.2.1 + 1)) fun (z12 : Int) =>
 again4 (z11, z12, ()) w6)))
 (R (.tuple #[(.int .i64 s5.1), (.bool true)]) w6)
def H20 : Hints := ⟨[(2, 0, [(4, (.one (.int .i64))), (10, (.one (.int .i64)))])], [], [], []⟩
set_option maxRecDepth 100000 in
theorem S20_eq (s_0a : Option Addr) (s_0n : Nat) (s_0c : Nat) (s_1a : Option Addr) (s_1n : Nat) (s_1c : Nat) (s_2a : Option Addr) (s_2n : Nat) (s_2c : Nat) (w0 : World) (R : Value → World → Prop) : vcFn Tryz.prog H20 Tryz.f20 [(.agg #[(.slice s_0a s_0n s_0c), (.slice s_1a s_1n s_1c), (.slice s_2a s_2n s_2c)])] w0 R = S20 s_0a s_0n s_0c s_1a s_1n s_1c s_2a s_2n s_2c w0 R := by kernel_rfl
set_option maxRecDepth 100000 in
theorem S20_calls (s_0a : Option Addr) (s_0n : Nat) (s_0c : Nat) (s_1a : Option Addr) (s_1n : Nat) (s_1c : Nat) (s_2a : Option Addr) (s_2n : Nat) (s_2c : Nat) (w0 : World) (R : Value → World → Prop) (h : S20 s_0a s_0n s_0c s_1a s_1n s_1c s_2a s_2n s_2c w0 R) : Calls Tryz.prog 20 #[(.agg #[(.slice s_0a s_0n s_0c), (.slice s_1a s_1n s_1c), (.slice s_2a s_2n s_2c)])] w0 (ret R) := by
  rw [← S20_eq] at h; exact vcFn_sound follows_ Tryz.func20 h

/-- (*querylab/integral.search).halve -/
def S21 (x_ : (Option Addr)) (lower_a : Option Addr) (lower_n : Nat) (lower_c : Nat) (upper_a : Option Addr) (upper_n : Nat) (upper_c : Nat) (w0 : World) (R : Value → World → Prop) : Prop :=
 wr Tryz.prog (Instr.alloc 35 true (.tuple #[])) (.one .addr) w0 fun (x1 : Addr) (w2 : World) =>
 nn x_ fun (a3 : Addr) =>
 rd Tryz.prog (Instr.loadAt 27 (.pointer (some (Addr.add a3 1)))) (.one .slice) w2 fun (x4 : (Option Addr × Nat × Nat)) =>
 loop (T := (Int × Unit)) (0, ()) w2 fun (again5 : (Int × Unit) → World → Prop) (s6 : (Int × Unit)) w7 => ∀ _ : Nat → Value,
 br (decide (s6.1 < ((x4.2.1 : Nat) : Int))) (rdp Tryz.prog (Instr.indexAt 27 (.slice x4.1 x4.2.1 x4.2.2) (.int .i64 s6.1)) (.one .addr) fun (x8 : Addr) =>
 rd Tryz.prog (Instr.loadAt 26 (.pointer (some x8))) (.one .slice) w7 fun (x9 : (Option Addr × Nat × Nat)) =>
 loop (T := (Int × Int × Int × Unit)) (0, 0, 0, ()) w7 fun (again10 : (Int × Int × Int × Unit) → World → Prop) (s11 : (Int × Int × Int × Unit)) w12 => ∀ _ : Nat → Value,
 br (decide (s11.2.2.1 < ((x9.2.1 : Nat) : Int))) (rdp Tryz.prog (Instr.indexAt 26 (.slice x9.1 x9.2.1 x9.2.2) (.int .i64 s11.2.2.1)) (.one .addr) fun (x13 : Addr) =>
 rd Tryz.prog (Instr.loadAt 2 (.pointer (some x13))) (.one (.int .i64)) w12 fun (x14 : Int) =>
 drw w12 fun w15 =>
 rdp Tryz.prog (Instr.indexAt 26 (.slice lower_a lower_n lower_c) (.int .i64 s11.2.2.1)) (.one .addr) fun (x16 : Addr) =>
 rd Tryz.prog (Instr.loadAt 2 (.pointer (some x16))) (.one (.int .i64)) w15 fun (x17 : Int) =>
 z (IntKind.wrap .i64 (x14 * x17)) fun (z18 : Int) =>
 rdp Tryz.prog (Instr.indexAt 26 (.slice upper_a upper_n upper_c) (.int .i64 s11.2.2.1)) (.one .addr) fun (x19 : Addr) =>
 rd Tryz.prog (Instr.loadAt 2 (.pointer (some x19))) (.one (.int .i64)) w15 fun (x20 : Int) =>
 z (IntKind.wrap .i64 (x14 * x20)) fun (z21 : Int) =>
 z (if z21 < z18 then z21 else z18) fun (z22 : Int) =>
 z (IntKind.wrap .i64 (s11.1 + z22)) fun (z23 : Int) =>
 rdp Tryz.prog (Instr.indexAt 26 (.slice lower_a lower_n lower_c) (.int .i64 s11.2.2.1)) (.one .addr) fun (x24 : Addr) =>
 rd Tryz.prog (Instr.loadAt 2 (.pointer (some x24))) (.one (.int .i64)) w15 fun (x25 : Int) =>
 z (IntKind.wrap .i64 (x14 * x25)) fun (z26 : Int) =>
 rdp Tryz.prog (Instr.indexAt 26 (.slice upper_a upper_n upper_c) (.int .i64 s11.2.2.1)) (.one .addr) fun (x27 : Addr) =>
 rd Tryz.prog (Instr.loadAt 2 (.pointer (some x27))) (.one (.int .i64)) w15 fun (x28 : Int) =>
 z (IntKind.wrap .i64 (x14 * x28)) fun (z29 : Int) =>
 z (if z29 > z26 then z29 else z26) fun (z30 : Int) =>
 z (IntKind.wrap .i64 (s11.2.1 + z30)) fun (z31 : Int) =>
 z (IntKind.wrap .i64 (s11.2.2.1 + 1)) fun (z32 : Int) =>
 again10 (z23, z31, z32, ()) w15)
 (nn x_ fun (a33 : Addr) =>
 rd Tryz.prog (Instr.loadAt 26 (.pointer (some (Addr.add a33 2)))) (.one .slice) w12 fun (x34 : (Option Addr × Nat × Nat)) =>
 rdp Tryz.prog (Instr.indexAt 26 (.slice x34.1 x34.2.1 x34.2.2) (.int .i64 s6.1)) (.one .addr) fun (x35 : Addr) =>
 rd Tryz.prog (Instr.loadAt 2 (.pointer (some x35))) (.one (.int .i64)) w12 fun (x36 : Int) =>
 br (decide (s11.1 > x36)) (nn x_ fun (a37 : Addr) =>
 rd Tryz.prog (Instr.loadAt 29 (.pointer (some a37))) (.agg [.slice, .slice, .slice]) w12 fun (x38 : ((Option Addr × Nat × Nat) × (Option Addr × Nat × Nat) × (Option Addr × Nat × Nat) × Unit)) =>
 call Tryz.prog 38 [(.agg #[(.slice x38.1.1 x38.1.2.1 x38.1.2.2), (.slice x38.2.1.1 x38.2.1.2.1 x38.2.1.2.2), (.slice x38.2.2.1.1 x38.2.2.1.2.1 x38.2.2.1.2.2)]), (.int .i64 s6.1), (.agg #[(.int .i64 1), (.int .i64 1)])] (.one (.one .slice)) w12 fun (x39 : (Option Addr × Nat × Nat)) (w40 : World) =>
 wu Tryz.prog (Instr.storeAt 35 (.pointer (some x1)) (.agg #[(.int .i64 1), (.slice x39.1 x39.2.1 x39.2.2), (.int .i64 0), (.int .i64 0), (.slice none 0 0)])) w40 fun (w41 : World) =>
 rd Tryz.prog (loadVar 35 x1) (.agg [(.int .i64), .slice, (.int .i64), (.int .i64), .slice]) w41 fun (x42 : (Int × (Option Addr × Nat × Nat) × Int × Int × (Option Addr × Nat × Nat) × Unit)) =>
 R (.tuple #[(.slice none 0 0), (.agg #[(.int .i64 x42.1), (.slice x42.2.1.1 x42.2.1.2.1 x42.2.1.2.2), (.int .i64 x42.2.2.1), (.int .i64 x42.2.2.2.1), (.slice x42.2.2.2.2.1.1 x42.2.2.2.2.1.2.1 x42.2.2.2.2.1.2.2)]), (.int .i64 12)]) w41)
 (nn x_ fun (a43 : Addr) =>
 rd Tryz.prog (Instr.loadAt 26 (.pointer (some (Addr.add a43 2)))) (.one .slice) w12 fun (x44 : (Option Addr × Nat × Nat)) =>
 rdp Tryz.prog (Instr.indexAt 26 (.slice x44.1 x44.2.1 x44.2.2) (.int .i64 s6.1)) (.one .addr) fun (x45 : Addr) =>
 rd Tryz.prog (Instr.loadAt 2 (.pointer (some x45))) (.one (.int .i64)) w12 fun (x46 : Int) =>
 br (decide (s11.2.1 < x46)) (nn x_ fun (a47 : Addr) =>
 rd Tryz.prog (Instr.loadAt 29 (.pointer (some a47))) (.agg [.slice, .slice, .slice]) w12 fun (x48 : ((Option Addr × Nat × Nat) × (Option Addr × Nat × Nat) × (Option Addr × Nat × Nat) × Unit)) =>
 call Tryz.prog 38 [(.agg #[(.slice x48.1.1 x48.1.2.1 x48.1.2.2), (.slice x48.2.1.1 x48.2.1.2.1 x48.2.1.2.2), (.slice x48.2.2.1.1 x48.2.2.1.2.1 x48.2.2.1.2.2)]), (.int .i64 s6.1), (.agg #[(.int .i64 1), (.int .i64 1)])] (.one (.one .slice)) w12 fun (x49 : (Option Addr × Nat × Nat)) (w50 : World) =>
 wu Tryz.prog (Instr.storeAt 35 (.pointer (some x1)) (.agg #[(.int .i64 1), (.slice x49.1 x49.2.1 x49.2.2), (.int .i64 0), (.int .i64 0), (.slice none 0 0)])) w50 fun (w51 : World) =>
 rd Tryz.prog (loadVar 35 x1) (.agg [(.int .i64), .slice, (.int .i64), (.int .i64), .slice]) w51 fun (x52 : (Int × (Option Addr × Nat × Nat) × Int × Int × (Option Addr × Nat × Nat) × Unit)) =>
 R (.tuple #[(.slice none 0 0), (.agg #[(.int .i64 x52.1), (.slice x52.2.1.1 x52.2.1.2.1 x52.2.1.2.2), (.int .i64 x52.2.2.1), (.int .i64 x52.2.2.2.1), (.slice x52.2.2.2.2.1.1 x52.2.2.2.2.1.2.1 x52.2.2.2.2.1.2.2)]), (.int .i64 12)]) w51)
 (z (IntKind.wrap .i64 (s6.1 + 1)) fun (z53 : Int) =>
 again5 (z53, ()) w12))))
 (loop (T := (Int × Int × Unit)) ((-1), 0, ()) w7 fun (again54 : (Int × Int × Unit) → World → Prop) (s55 : (Int × Int × Unit)) w56 => ∀ _ : Nat → Value,
 br (decide (s55.2.1 < ((lower_n : Nat) : Int))) (join (T := (Int × Unit)) (fun (s58 : (Int × Unit)) w59 => ∀ _ : Nat → Value,
 z (IntKind.wrap .i64 (s55.2.1 + 1)) fun (z60 : Int) =>
 again54 (s58.1, z60, ()) w59)
  fun (K57 : (Int × Unit) → World → Prop) =>
 drw w56 fun w61 =>
 rdp Tryz.prog (Instr.indexAt 26 (.slice upper_a upper_n upper_c) (.int .i64 s55.2.1)) (.one .addr) fun (x62 : Addr) =>
 rd Tryz.prog (Instr.loadAt 2 (.pointer (some x62))) (.one (.int .i64)) w61 fun (x63 : Int) =>
 rdp Tryz.prog (Instr.indexAt 26 (.slice lower_a lower_n lower_c) (.int .i64 s55.2.1)) (.one .addr) fun (x64 : Addr) =>
 rd Tryz.prog (Instr.loadAt 2 (.pointer (some x64))) (.one (.int .i64)) w61 fun (x65 : Int) =>
 br (decide (x63 > x65)) (br (decide (s55.1 < 0)) (K57 (s55.2.1, ()) w61)
 (rdp Tryz.prog (Instr.indexAt 26 (.slice upper_a upper_n upper_c) (.int .i64 s55.2.1)) (.one .addr) fun (x66 : Addr) =>
 rd Tryz.prog (Instr.loadAt 2 (.pointer (some x66))) (.one (.int .i64)) w61 fun (x67 : Int) =>
 rdp Tryz.prog (Instr.indexAt 26 (.slice lower_a lower_n lower_c) (.int .i64 s55.2.1)) (.one .addr) fun (x68 : Addr) =>
 rd Tryz.prog (Instr.loadAt 2 (.pointer (some x68))) (.one (.int .i64)) w61 fun (x69 : Int) =>
 z (IntKind.wrap .i64 (x67 - x69)) fun (z70 : Int) =>
 rdp Tryz.prog (Instr.indexAt 26 (.slice upper_a upper_n upper_c) (.int .i64 s55.1)) (.one .addr) fun (x71 : Addr) =>
 rd Tryz.prog (Instr.loadAt 2 (.pointer (some x71))) (.one (.int .i64)) w61 fun (x72 : Int) =>
 rdp Tryz.prog (Instr.indexAt 26 (.slice lower_a lower_n lower_c) (.int .i64 s55.1)) (.one .addr) fun (x73 : Addr) =>
 rd Tryz.prog (Instr.loadAt 2 (.pointer (some x73))) (.one (.int .i64)) w61 fun (x74 : Int) =>
 z (IntKind.wrap .i64 (x72 - x74)) fun (z75 : Int) =>
 br (decide (z70 > z75)) (K57 (s55.2.1, ()) w61)
 (K57 (s55.1, ()) w61)))
 (K57 (s55.1, ()) w61))
 (br (decide (s55.1 < 0)) (call Tryz.prog 39 [(.slice lower_a lower_n lower_c)] (.one (.one .slice)) w56 fun (x76 : (Option Addr × Nat × Nat)) (w77 : World) =>
 wu Tryz.prog (Instr.storeAt 35 (.pointer (some x1)) (.agg #[(.int .i64 0), (.slice none 0 0), (.int .i64 0), (.int .i64 0), (.slice none 0 0)])) w77 fun (w78 : World) =>
 rd Tryz.prog (loadVar 35 x1) (.agg [(.int .i64), .slice, (.int .i64), (.int .i64), .slice]) w78 fun (x79 : (Int × (Option Addr × Nat × Nat) × Int × Int × (Option Addr × Nat × Nat) × Unit)) =>
 R (.tuple #[(.slice x76.1 x76.2.1 x76.2.2), (.agg #[(.int .i64 x79.1), (.slice x79.2.1.1 x79.2.1.2.1 x79.2.1.2.2), (.int .i64 x79.2.2.1), (.int .i64 x79.2.2.2.1), (.slice x79.2.2.2.2.1.1 x79.2.2.2.2.1.2.1 x79.2.2.2.2.1.2.2)]), (.int .i64 0)]) w78)
 (drw w56 fun w80 =>
 rdp Tryz.prog (Instr.indexAt 26 (.slice lower_a lower_n lower_c) (.int .i64 s55.1)) (.one .addr) fun (x81 : Addr) =>
 rd Tryz.prog (Instr.loadAt 2 (.pointer (some x81))) (.one (.int .i64)) w80 fun (x82 : Int) =>
 rdp Tryz.prog (Instr.indexAt 26 (.slice upper_a upper_n upper_c) (.int .i64 s55.1)) (.one .addr) fun (x83 : Addr) =>
 rd Tryz.prog (Instr.loadAt 2 (.pointer (some x83))) (.one (.int .i64)) w80 fun (x84 : Int) =>
 rdp Tryz.prog (Instr.indexAt 26 (.slice lower_a lower_n lower_c) (.int .i64 s55.1)) (.one .addr) fun (x85 : Addr) =>
 rd Tryz.prog (Instr.loadAt 2 (.pointer (some x85))) (.one (.int .i64)) w80 fun (x86 : Int) =>
 z (IntKind.wrap .i64 (x84 - x86)) fun (z87 : Int) =>
 rdp Tryz.prog (cmpS .quo 2 (.tmp 159) (.const (.int .i64 2)) (.int .i64 z87) (.int .i64 2)) (.one (.int .i64)) fun (x88 : Int) =>
 z (IntKind.wrap .i64 (x82 + x88)) fun (z89 : Int) =>
 call Tryz.prog 40 [(.pointer x_), (.slice lower_a lower_n lower_c), (.slice upper_a upper_n upper_c), (.int .i64 s55.1), (.int .i64 z89), (.func (.func 21) #[(.pointer x_)] #[])] (.many [(.one .slice), (.agg [(.int .i64), .slice, (.int .i64), (.int .i64), .slice]), (.one (.int .i64))]) w80 fun (x90 : ((Option Addr × Nat × Nat) × (Int × (Option Addr × Nat × Nat) × Int × Int × (Option Addr × Nat × Nat) × Unit) × Int × Unit)) (w91 : World) =>
 wu Tryz.prog (Instr.storeAt 35 (.pointer (some x1)) (.agg #[(.int .i64 x90.2.1.1), (.slice x90.2.1.2.1.1 x90.2.1.2.1.2.1 x90.2.1.2.1.2.2), (.int .i64 x90.2.1.2.2.1), (.int .i64 x90.2.1.2.2.2.1), (.slice x90.2.1.2.2.2.2.1.1 x90.2.1.2.2.2.2.1.2.1 x90.2.1.2.2.2.2.1.2.2)])) w91 fun (w92 : World) =>
 rd Tryz.prog (loadVar 35 x1) (.agg [(.int .i64), .slice, (.int .i64), (.int .i64), .slice]) w92 fun (x93 : (Int × (Option Addr × Nat × Nat) × Int × Int × (Option Addr × Nat × Nat) × Unit)) =>
 R (.tuple #[(.slice x90.1.1 x90.1.2.1 x90.1.2.2), (.agg #[(.int .i64 x93.1), (.slice x93.2.1.1 x93.2.1.2.1 x93.2.1.2.2), (.int .i64 x93.2.2.1), (.int .i64 x93.2.2.2.1), (.slice x93.2.2.2.2.1.1 x93.2.2.2.2.1.2.1 x93.2.2.2.2.1.2.2)]), (.int .i64 x90.2.2.1)]) w92)))
def H21 : Hints := ⟨[(2, 0, [(23, (.one (.int .i64)))]), (2, 2, [(11, (.one (.int .i64))), (12, (.one (.int .i64))), (30, (.one (.int .i64)))]), (2, 4, [(15, (.one (.int .i64))), (99, (.one (.int .i64)))]), (1, 5, [(15, (.one (.int .i64)))])], [(8, 31), (17, 31), (22, 21)], [], []⟩
set_option maxRecDepth 100000 in
theorem S21_eq (x_ : (Option Addr)) (lower_a : Option Addr) (lower_n : Nat) (lower_c : Nat) (upper_a : Option Addr) (upper_n : Nat) (upper_c : Nat) (w0 : World) (R : Value → World → Prop) : vcFn Tryz.prog H21 Tryz.f21 [(.pointer x_), (.slice lower_a lower_n lower_c), (.slice upper_a upper_n upper_c)] w0 R = S21 x_ lower_a lower_n lower_c upper_a upper_n upper_c w0 R := by kernel_rfl
set_option maxRecDepth 100000 in
theorem S21_calls (x_ : (Option Addr)) (lower_a : Option Addr) (lower_n : Nat) (lower_c : Nat) (upper_a : Option Addr) (upper_n : Nat) (upper_c : Nat) (w0 : World) (R : Value → World → Prop) (h : S21 x_ lower_a lower_n lower_c upper_a upper_n upper_c w0 R) : Calls Tryz.prog 21 #[(.pointer x_), (.slice lower_a lower_n lower_c), (.slice upper_a upper_n upper_c)] w0 (ret R) := by
  rw [← S21_eq] at h; exact vcFn_sound follows_ Tryz.func21 h

/-- (*querylab/integral.search).split -/
def S40h (_x_ : (Option Addr)) (lower_a : Option Addr) (lower_n : Nat) (lower_c : Nat) (upper_a : Option Addr) (upper_n : Nat) (upper_c : Nat) (k_ : Int) (bound_ : Int) (fst5_0 : Addr) (w0 : World) (R : Value → World → Prop) : Prop :=
 wr Tryz.prog (Instr.alloc 35 true (.tuple #[])) (.one .addr) w0 fun (x1 : Addr) (w2 : World) =>
 call Tryz.prog 39 [(.slice lower_a lower_n lower_c)] (.one (.one .slice)) w2 fun (x3 : (Option Addr × Nat × Nat)) (w4 : World) =>
 call Tryz.prog 39 [(.slice upper_a upper_n upper_c)] (.one (.one .slice)) w4 fun (x5 : (Option Addr × Nat × Nat)) (w6 : World) =>
 z (IntKind.wrap .i64 (bound_ + 1)) fun (z7 : Int) =>
 rdp Tryz.prog (Instr.indexAt 26 (.slice x5.1 x5.2.1 x5.2.2) (.int .i64 k_)) (.one .addr) fun (x8 : Addr) =>
 wu Tryz.prog (Instr.storeAt 2 (.pointer (some x8)) (.int .i64 bound_)) w6 fun (w9 : World) =>
 rdp Tryz.prog (Instr.indexAt 26 (.slice x3.1 x3.2.1 x3.2.2) (.int .i64 k_)) (.one .addr) fun (x10 : Addr) =>
 wu Tryz.prog (Instr.storeAt 2 (.pointer (some x10)) (.int .i64 z7)) w9 fun (w11 : World) =>
 call Tryz.prog 21 [(.pointer (some fst5_0)), (.slice lower_a lower_n lower_c), (.slice x5.1 x5.2.1 x5.2.2)] (.many [(.one .slice), (.agg [(.int .i64), .slice, (.int .i64), (.int .i64), .slice]), (.one (.int .i64))]) w11 fun (x12 : ((Option Addr × Nat × Nat) × (Int × (Option Addr × Nat × Nat) × Int × Int × (Option Addr × Nat × Nat) × Unit) × Int × Unit)) (w13 : World) =>
 wr Tryz.prog (Instr.alloc 35 true (.tuple #[])) (.one .addr) w13 fun (x14 : Addr) (w15 : World) =>
 wu Tryz.prog (Instr.storeAt 35 (.pointer (some x14)) (.agg #[(.int .i64 x12.2.1.1), (.slice x12.2.1.2.1.1 x12.2.1.2.1.2.1 x12.2.1.2.1.2.2), (.int .i64 x12.2.1.2.2.1), (.int .i64 x12.2.1.2.2.2.1), (.slice x12.2.1.2.2.2.2.1.1 x12.2.1.2.2.2.2.1.2.1 x12.2.1.2.2.2.2.1.2.2)])) w15 fun (w16 : World) =>
 br (x12.2.2.1 != 12) (drw w16 fun w17 =>
 rd Tryz.prog (Instr.loadAt 35 (.pointer (some x14))) (.agg [(.int .i64), .slice, (.int .i64), (.int .i64), .slice]) w17 fun (x18 : (Int × (Option Addr × Nat × Nat) × Int × Int × (Option Addr × Nat × Nat) × Unit)) =>
 wu Tryz.prog (Instr.storeAt 35 (.pointer (some x1)) (.agg #[(.int .i64 x18.1), (.slice x18.2.1.1 x18.2.1.2.1 x18.2.1.2.2), (.int .i64 x18.2.2.1), (.int .i64 x18.2.2.2.1), (.slice x18.2.2.2.2.1.1 x18.2.2.2.2.1.2.1 x18.2.2.2.2.1.2.2)])) w17 fun (w19 : World) =>
 rd Tryz.prog (loadVar 35 x1) (.agg [(.int .i64), .slice, (.int .i64), (.int .i64), .slice]) w19 fun (x20 : (Int × (Option Addr × Nat × Nat) × Int × Int × (Option Addr × Nat × Nat) × Unit)) =>
 R (.tuple #[(.slice x12.1.1 x12.1.2.1 x12.1.2.2), (.agg #[(.int .i64 x20.1), (.slice x20.2.1.1 x20.2.1.2.1 x20.2.1.2.2), (.int .i64 x20.2.2.1), (.int .i64 x20.2.2.2.1), (.slice x20.2.2.2.2.1.1 x20.2.2.2.2.1.2.1 x20.2.2.2.2.1.2.2)]), (.int .i64 x12.2.2.1)]) w19)
 (call Tryz.prog 21 [(.pointer (some fst5_0)), (.slice x3.1 x3.2.1 x3.2.2), (.slice upper_a upper_n upper_c)] (.many [(.one .slice), (.agg [(.int .i64), .slice, (.int .i64), (.int .i64), .slice]), (.one (.int .i64))]) w16 fun (x21 : ((Option Addr × Nat × Nat) × (Int × (Option Addr × Nat × Nat) × Int × Int × (Option Addr × Nat × Nat) × Unit) × Int × Unit)) (w22 : World) =>
 wr Tryz.prog (Instr.alloc 35 true (.tuple #[])) (.one .addr) w22 fun (x23 : Addr) (w24 : World) =>
 wu Tryz.prog (Instr.storeAt 35 (.pointer (some x23)) (.agg #[(.int .i64 x21.2.1.1), (.slice x21.2.1.2.1.1 x21.2.1.2.1.2.1 x21.2.1.2.1.2.2), (.int .i64 x21.2.1.2.2.1), (.int .i64 x21.2.1.2.2.2.1), (.slice x21.2.1.2.2.2.2.1.1 x21.2.1.2.2.2.2.1.2.1 x21.2.1.2.2.2.2.1.2.2)])) w24 fun (w25 : World) =>
 br (x21.2.2.1 != 12) (drw w25 fun w26 =>
 rd Tryz.prog (Instr.loadAt 35 (.pointer (some x23))) (.agg [(.int .i64), .slice, (.int .i64), (.int .i64), .slice]) w26 fun (x27 : (Int × (Option Addr × Nat × Nat) × Int × Int × (Option Addr × Nat × Nat) × Unit)) =>
 wu Tryz.prog (Instr.storeAt 35 (.pointer (some x1)) (.agg #[(.int .i64 x27.1), (.slice x27.2.1.1 x27.2.1.2.1 x27.2.1.2.2), (.int .i64 x27.2.2.1), (.int .i64 x27.2.2.2.1), (.slice x27.2.2.2.2.1.1 x27.2.2.2.2.1.2.1 x27.2.2.2.2.1.2.2)])) w26 fun (w28 : World) =>
 rd Tryz.prog (loadVar 35 x1) (.agg [(.int .i64), .slice, (.int .i64), (.int .i64), .slice]) w28 fun (x29 : (Int × (Option Addr × Nat × Nat) × Int × Int × (Option Addr × Nat × Nat) × Unit)) =>
 R (.tuple #[(.slice x21.1.1 x21.1.2.1 x21.1.2.2), (.agg #[(.int .i64 x29.1), (.slice x29.2.1.1 x29.2.1.2.1 x29.2.1.2.2), (.int .i64 x29.2.2.1), (.int .i64 x29.2.2.2.1), (.slice x29.2.2.2.2.1.1 x29.2.2.2.2.1.2.1 x29.2.2.2.2.1.2.2)]), (.int .i64 x21.2.2.1)]) w28)
 (drw w25 fun w30 => flEx fun F31 =>
 rd Tryz.prog (Instr.loadAt 35 (.pointer (some x14))) (.agg [(.int .i64), .slice, (.int .i64), (.int .i64), .slice]) w30 fun (x32 : (Int × (Option Addr × Nat × Nat) × Int × Int × (Option Addr × Nat × Nat) × Unit)) =>
 rd Tryz.prog (Instr.loadAt 35 (.pointer (some x23))) (.agg [(.int .i64), .slice, (.int .i64), (.int .i64), .slice]) w30 fun (x33 : (Int × (Option Addr × Nat × Nat) × Int × Int × (Option Addr × Nat × Nat) × Unit)) =>
 flc bel w30 (fun _w35 => True) (fun (w34 : World) =>
   wr Tryz.prog (Instr.buildSlice 33 2 #[(0, (.agg #[(.int .i64 x32.1), (.slice x32.2.1.1 x32.2.1.2.1 x32.2.1.2.2), (.int .i64 x32.2.2.1), (.int .i64 x32.2.2.2.1), (.slice x32.2.2.2.2.1.1 x32.2.2.2.2.1.2.1 x32.2.2.2.2.1.2.2)])), (1, (.agg #[(.int .i64 x33.1), (.slice x33.2.1.1 x33.2.1.2.1 x33.2.1.2.2), (.int .i64 x33.2.2.1), (.int .i64 x33.2.2.2.1), (.slice x33.2.2.2.2.1.1 x33.2.2.2.2.1.2.1 x33.2.2.2.2.1.2.2)]))]) (.one .slice) w34 fun (x36 : (Option Addr × Nat × Nat)) (w37 : World) =>
 (bel w34 w37 ∧ F31 4 [] (.slice x36.1 x36.2.1 x36.2.2) w37))
  fun (x38 : (Option Addr × Nat × Nat)) =>
 flend bel w30 (fun w40 => F31 4 [] (.slice x38.1 x38.2.1 x38.2.2) w40 ∧ True) fun w39 =>
 wu Tryz.prog (Instr.storeAt 35 (.pointer (some x1)) (.agg #[(.int .i64 3), (.slice none 0 0), (.int .i64 k_), (.int .i64 bound_), (.slice x38.1 x38.2.1 x38.2.2)])) w39 fun (w41 : World) =>
 rd Tryz.prog (loadVar 35 x1) (.agg [(.int .i64), .slice, (.int .i64), (.int .i64), .slice]) w41 fun (x42 : (Int × (Option Addr × Nat × Nat) × Int × Int × (Option Addr × Nat × Nat) × Unit)) =>
 R (.tuple #[(.slice none 0 0), (.agg #[(.int .i64 x42.1), (.slice x42.2.1.1 x42.2.1.2.1 x42.2.1.2.2), (.int .i64 x42.2.2.1), (.int .i64 x42.2.2.2.1), (.slice x42.2.2.2.2.1.1 x42.2.2.2.2.1.2.1 x42.2.2.2.2.1.2.2)]), (.int .i64 12)]) w41))
def H40h : Hints := ⟨[], [(5, 4), (8, 4), (9, 7)], [], []⟩
set_option maxRecDepth 100000 in
theorem S40h_eq (x_ : (Option Addr)) (lower_a : Option Addr) (lower_n : Nat) (lower_c : Nat) (upper_a : Option Addr) (upper_n : Nat) (upper_c : Nat) (k_ : Int) (bound_ : Int) (fst5_0 : Addr) (w0 : World) (R : Value → World → Prop) : vcFn Tryz.prog H40h Tryz.f40 [(.pointer x_), (.slice lower_a lower_n lower_c), (.slice upper_a upper_n upper_c), (.int .i64 k_), (.int .i64 bound_), (.func (.func 21) #[(.pointer (some fst5_0))] #[])] w0 R = S40h x_ lower_a lower_n lower_c upper_a upper_n upper_c k_ bound_ fst5_0 w0 R := by kernel_rfl
set_option maxRecDepth 100000 in
theorem S40h_calls (x_ : (Option Addr)) (lower_a : Option Addr) (lower_n : Nat) (lower_c : Nat) (upper_a : Option Addr) (upper_n : Nat) (upper_c : Nat) (k_ : Int) (bound_ : Int) (fst5_0 : Addr) (w0 : World) (R : Value → World → Prop) (h : S40h x_ lower_a lower_n lower_c upper_a upper_n upper_c k_ bound_ fst5_0 w0 R) : Calls Tryz.prog 40 #[(.pointer x_), (.slice lower_a lower_n lower_c), (.slice upper_a upper_n upper_c), (.int .i64 k_), (.int .i64 bound_), (.func (.func 21) #[(.pointer (some fst5_0))] #[])] w0 (ret R) := by
  rw [← S40h_eq] at h; exact vcFn_sound follows_ Tryz.func40 h

end Go.Proofs

/- Elements of several cells are stored in rows of one's own. -/

namespace Go.V
open Go Go.RowKit Go.Q

theorem run_storeOwnA {P : Program} {B sz : Nat} {e : TypeId} {ad : Addr} {n c : Nat} : ∀ (vs : List Value) (i : Nat) (w : World) (xs : List Value), Own w B e sz (some ad) n c xs → i + vs.length ≤ xs.length → plainV vs = true →
    ∃ w', (storeCells ad vs i).run P w = .ok () w' ∧ Own w' B e sz (some ad) n c (putAt xs i vs) ∧ w.grownBy w' (some ad.block) ∧ w'.heap.size = w.heap.size
  | [], i, w, xs, hb, _, _ => ⟨w, rfl, hb, grown_refl _ _, rfl⟩
  | v :: vs, i, w, xs, hb, hl, hp => by
    simp only [plainV, List.all_cons, Bool.and_eq_true] at hp
    simp only [List.length_cons] at hl
    obtain ⟨u, hu⟩ : ∃ u, xs[i]? = some u := ⟨_, List.getElem?_eq_getElem (by omega)⟩
    obtain ⟨ad', h1, hc, hfz, _⟩ := hb.cell (j := i) hu
    cases h1
    obtain ⟨w', h1, h2, h3, h4⟩ := run_storeOwnA (P := P) vs (i + 1) (w.setCell (ad.add i) v) (xs.set i v) (hb.set i v) (by simp; omega) hp.2
    refine ⟨w', ?_, h2, ?_, by rw [h4, setCell_size]⟩
    · simp only [storeCells, Sem.run_bind]
      rw [run_store P w (ad.add i) v .plain hp.1, hc]
      simp only [hfz, Bool.false_eq_true, if_false, Result.andThen_ok, h1]
    · refine World.grownBy.trans ?_ h3
      have := setCell_grown w (ad.add i) v
      rwa [add_block] at this
theorem flat_set {α : Type} {enc : α → List Value} {sz : Nat} (he : ∀ a, (enc a).length = sz) (p : α) : ∀ (L : List α) (j : Nat), j < L.length → putAt (L.flatMap enc) (j * sz) (enc p) = (L.set j p).flatMap enc := by
  intro L j hj
  have h1 : L.flatMap enc = (L.take j).flatMap enc ++ (enc L[j] ++ (L.drop (j + 1)).flatMap enc) := by
    conv => lhs; rw [← List.take_append_drop j L, List.drop_eq_getElem_cons hj]
    rw [List.flatMap_append, List.flatMap_cons]
  have h2 : (L.set j p).flatMap enc = (L.take j).flatMap enc ++ (enc p ++ (L.drop (j + 1)).flatMap enc) := by
    rw [List.set_eq_take_append_cons_drop, if_pos hj, List.flatMap_append, List.flatMap_cons]
  have h3 : ((L.take j).flatMap enc).length = j * sz := by rw [flat_len he, List.length_take, Nat.min_eq_left (by omega)]
  rw [h1, h2, ← h3, putAt_at _ _ _ (by rw [List.length_append, he, he]; omega), List.drop_append_of_le_length (by rw [he, he]; omega), List.drop_of_length_le (by rw [he, he]; omega), List.nil_append, List.append_assoc]
theorem cell_set {α : Type} {enc : α → List Value} {sz : Nat} (he : ∀ a, (enc a).length = sz) {p q : α} {o : Nat} {v : Value} (ho : o < sz) (hq : enc q = (enc p).set o v) (L : List α) (j : Nat) (hp : L[j]? = some p) : (L.flatMap enc).set (j * sz + o) v = (L.set j q).flatMap enc := by
  have hj : j < L.length := (List.getElem?_eq_some_iff.1 hp).1
  have hpj : L[j] = p := (List.getElem?_eq_some_iff.1 hp).2
  have h1 : L.flatMap enc = (L.take j).flatMap enc ++ (enc L[j] ++ (L.drop (j + 1)).flatMap enc) := by
    conv => lhs; rw [← List.take_append_drop j L, List.drop_eq_getElem_cons hj]
    rw [List.flatMap_append, List.flatMap_cons]
  have h2 : (L.set j q).flatMap enc = (L.take j).flatMap enc ++ (enc q ++ (L.drop (j + 1)).flatMap enc) := by
    rw [List.set_eq_take_append_cons_drop, if_pos hj, List.flatMap_append, List.flatMap_cons]
  have h3 : ((L.take j).flatMap enc).length = j * sz := by rw [flat_len he, List.length_take, Nat.min_eq_left (by omega)]
  rw [h1, h2, List.set_append_right _ _ (by rw [h3]; omega), h3, Nat.add_sub_cancel_left, List.set_append_left _ _ (by rw [he]; exact ho), hpj, hq]
/-- an element of several cells is written -/
theorem set_agg {P : Program} {t e : TypeId} {z : Value} {sz bytes : Nat} (T : TyS P t e z sz bytes) {α : Type} {enc : α → List Value} (he : ∀ a, (enc a).length = sz) {w : World} {B : Nat} {a : Option Addr} {n c j : Nat} {L : List α} (O : Own w B e sz a n c (L.flatMap enc)) {k : IntKind} {i : Int} {v : Value} {p : α} {K : World → Prop}
    (hj : i = (j : Int)) (hn : j < L.length) (hv : v.cells.toList = enc p) (h0 : 0 < sz) (hp : plainV (enc p) = true)
    (hk : ∀ w', Own w' B e sz a n c ((L.set j p).flatMap enc) → w.grownBy w' (blk a) → w'.heap.size = w.heap.size → K w') :
    rdp P (Instr.indexAt t (.slice a n c) (.int k i)) (.one .addr) fun ad => wu P (Instr.storeAt e (.pointer (some ad)) v) w K := by
  have hlen := O.1
  rw [flat_len he] at hlen
  have hL : L.length = n := Nat.eq_of_mul_eq_mul_right h0 hlen
  have hjs : j * sz + sz ≤ (L.flatMap enc).length := by
    rw [flat_len he]
    have : (j + 1) * sz ≤ L.length * sz := Nat.mul_le_mul_right _ hn
    rw [Nat.add_mul, Nat.one_mul] at this; exact this
  obtain ⟨u, hu⟩ : ∃ u, (L.flatMap enc)[j * sz]? = some u := ⟨_, List.getElem?_eq_getElem (by omega)⟩
  obtain ⟨ad, h1, _⟩ := O.cell (j := j * sz) hu
  subst h1
  refine idx_mk T hj (by omega) rfl ?_
  have hvs : v.cells.size = sz := by rw [← Array.length_toList, hv, he]
  have ht : sizeIs P e v.cells.size = true := by
    obtain ⟨i, h1, _, h2, _⟩ := info_parts T.hi
    unfold sizeIs; rw [h1, hvs]; simp [h2]
  obtain ⟨w', h1, h2, h3, h4⟩ := run_storeOwnA (P := P) v.cells.toList (j * sz) w _ O (by rw [hv, he]; exact hjs) (by rw [hv]; exact hp)
  rw [hv, flat_set he p L j hn] at h2
  refine ⟨w', ?_, hk w' h2 h3 h4⟩
  unfold Instr.storeAt Instr.sureAddr storeVar
  simp only [Sem.run_bind, Sem.run_pure, Result.andThen_ok, run_sizeOf ht]
  simp only [ne_eq, not_true_eq_false, if_false]
  rw [storeCells_add]; exact h1
/-- a field of an element is written -/
theorem set_fld {P : Program} {t e e1 : TypeId} {z : Value} {sz bytes : Nat} (T : TyS P t e z sz bytes) (hs : sizeIs P e1 1 = true) {α : Type} {enc : α → List Value} (he : ∀ a, (enc a).length = sz) {w : World} {B : Nat} {a : Option Addr} {n c j o : Nat} {L : List α} (O : Own w B e sz a n c (L.flatMap enc)) {k : IntKind} {i : Int} {v : Value} {p q : α} {K : World → Prop}
    (hj : i = (j : Int)) (hn : L[j]? = some p) (hq : enc q = (enc p).set o v) (ho : o < sz) (hp : v.oneCell' = true)
    (hk : ∀ w', Own w' B e sz a n c ((L.set j q).flatMap enc) → w.grownBy w' (blk a) → w'.heap.size = w.heap.size → K w') :
    rdp P (Instr.indexAt t (.slice a n c) (.int k i)) (.one .addr) fun ad => wu P (Instr.storeAt e1 (.pointer (some (ad.add o))) v) w K := by
  have hlen := O.1
  rw [flat_len he] at hlen
  have hL : L.length = n := Nat.eq_of_mul_eq_mul_right (by omega) hlen
  have hjl := (List.getElem?_eq_some_iff.1 hn).1
  have hjs : j * sz + sz ≤ (L.flatMap enc).length := by
    rw [flat_len he]
    have : (j + 1) * sz ≤ L.length * sz := Nat.mul_le_mul_right _ hjl
    rw [Nat.add_mul, Nat.one_mul] at this; exact this
  obtain ⟨u, hu⟩ : ∃ u, (L.flatMap enc)[j * sz + o]? = some u := ⟨_, List.getElem?_eq_getElem (by omega)⟩
  obtain ⟨ad, h1, hc, hfz, _⟩ := O.cell (j := j * sz + o) hu
  subst h1
  refine idx_mk T hj (by omega) rfl ?_
  rw [add_add]
  have hvc : v.cells = #[v] := by cases v <;> first | rfl | (simp [Value.oneCell'] at hp)
  have hg := setCell_grown w (ad.add (j * sz + o)) v
  rw [add_block] at hg
  have O' := O.set (j * sz + o) v
  rw [cell_set he ho hq L j hn] at O'
  refine ⟨_, ?_, hk _ O' hg (setCell_size _ _ _)⟩
  unfold Instr.storeAt Instr.sureAddr storeVar
  simp only [Sem.run_bind, Sem.run_pure, Result.andThen_ok, run_sizeOf hs, hvc, List.size_toArray, List.length_cons, List.length_nil, Nat.zero_add, ne_eq, not_true_eq_false, if_false]
  simp only [storeCells, Sem.run_bind]
  rw [add_zero, run_store P w (ad.add (j * sz + o)) v .plain hp, hc]
  simp only [hfz, Bool.false_eq_true, if_false, Result.andThen_ok, Sem.run_pure]
/-- what 'make' lays -/
theorem made_flat {α : Type} {enc : α → List Value} {sz : Nat} (he : ∀ a, (enc a).length = sz) (h0 : 0 < sz) (p : α) (cs : Array Value) (hc : cs.toList = enc p) (n : Nat) : (madeCells cs (n * sz)).toList = (List.replicate n p).flatMap enc := by
  refine List.ext_getElem? fun i => ?_
  have hcs : cs.size = sz := by rw [← Array.length_toList, hc, he]
  by_cases hi : i < n * sz
  · have h1 : (List.replicate n p)[i / sz]? = some p := by rw [List.getElem?_replicate, if_pos (Nat.div_lt_of_lt_mul (by rw [Nat.mul_comm]; exact hi))]
    have := flat_get he h1 (Nat.mod_lt i h0)
    rw [Nat.div_add_mod'] at this
    rw [this, ← hc]
    have hm : i % sz < cs.size := by rw [hcs]; exact Nat.mod_lt i h0
    simp [madeCells, hi, hcs]
    rw [getElem!_pos cs _ hm, Array.getElem?_eq_getElem hm]
  · rw [List.getElem?_eq_none (by rw [Array.length_toList, size_madeCells]; omega), List.getElem?_eq_none (by rw [flat_len he, List.length_replicate]; omega)]
end Go.V

/- unit, lattice, points. -/



namespace Go.Proofs.YtajpdnphamomjaaGreat
open Go.RowKit Go.Q Go.Q.Num Go.V

theorem unit_fill (m i : Nat) : i ≤ m → ∀ p : Int × Int, (List.replicate i ((0, 1) : Int × Int) ++ List.replicate (m - i) (0, 0)).set i p = if i < m then List.replicate i ((0, 1) : Int × Int) ++ (p :: List.replicate (m - (i + 1)) (0, 0)) else List.replicate i ((0, 1) : Int × Int) ++ List.replicate (m - i) (0, 0) := by
  intro hi p
  rw [List.set_append_right _ _ (by simp)]
  simp only [List.length_replicate, Nat.sub_self]
  split
  · rename_i h
    obtain ⟨k, hk⟩ : ∃ k, m - i = k + 1 := ⟨m - i - 1, by omega⟩
    rw [hk, List.replicate_succ, List.set_cons_zero, show m - (i + 1) = k by omega]
  · rw [show m - i = 0 by omega]; rfl
theorem unit_next (m i : Nat) (h : i < m) : (List.replicate i ((0, 1) : Int × Int) ++ List.replicate (m - i) (0, 0)).set i (0, 1) = List.replicate (i + 1) ((0, 1) : Int × Int) ++ List.replicate (m - (i + 1)) (0, 0) := by
  rw [unit_fill m i (by omega), if_pos h, List.replicate_succ' (n := i)]; simp

theorem unitF (u r b : Hdr) (up : List Int) (T : List (List Int)) (rt : List Int) (j : Nat) (n d : Int) (w : World) (H : Sys w u r b up T rt) (hj : j < T.length) (hT : T.length ≤ 1000) :
    call Tryz.prog 38 [sysv u r b, .int .i64 (j : Int), .agg #[.int .i64 n, .int .i64 d]] (.one (.one .slice)) w (fun (x : Hdr) w' => Sl w' x.1 x.2.1 x.2.2 2 ((unitM T.length j (n, d)).flatMap encF) ∧ Fr w x.1 ∧ bel w w') := by
  refine call_of (S38_calls u.1 u.2.1 u.2.2 r.1 r.2.1 r.2.2 b.1 b.2.1 b.2.2 j n d w _ ?_)
  unfold S38
  have hrl := H.r.len
  refine wr_box fun x1 w2 X1 h2 _ _ => ?_
  refine wr_box fun x3 w4 X3 h4 _ _ => ?_
  replace X1 : Box w4 x1 (sysc u r b) := Box.up (show Box w2 x1 (sysc u r b) from X1) h4
  replace X3 : Box w4 x3 [.int .i64 n, .int .i64 d] := X3
  have h := h2.trans h4
  clear h2 h4
  refine rd_box (by kernel_rfl) X1 rfl rfl ?_
  refine wr_make tyFr r.2.1 rfl rfl (by omega) (by unfold maxLen; omega) fun ad w7 O h7 hb7 _ => ?_
  have O7 := O w4.heap.size (Nat.le_refl _)
  have em := made_flat (enc := encF) encF_len (by omega) ((0, 0) : Int × Int) (Value.agg #[Value.int .i64 0, Value.int .i64 0]).cells rfl r.2.1
  rw [em] at O7
  have hx3 := X3.lt
  have hne : some x3.block ≠ some ad.block := by intro e; injection e; omega
  have had : w.heap.size ≤ ad.block := by rw [hb7]; exact h.size
  replace X3 := X3.up h7
  replace h := h.trans h7
  refine loop_up r.2.1 (fun i w' => Own w' w4.heap.size 60 2 (some ad) r.2.1 r.2.1 ((List.replicate i ((0, 1) : Int × Int) ++ List.replicate (T.length - i) (0, 0)).flatMap encF) ∧ Box w' x3 [.int .i64 n, .int .i64 d] ∧ bel w w') ⟨by rw [hrl]; simpa using O7, X3, h⟩ ?_
  rintro i w8 hi ⟨O8, X3, h⟩ again hag _
  refine br_dec (fun e => ?_) (fun e => ?_)
  · dsimp only at e
    have hi' : i < T.length := by omega
    refine set_agg tyFr encF_len O8 rfl (by simp; omega) (p := ((0, 1) : Int × Int)) rfl (by omega) rfl fun w9 O9 hg _ => ?_
    rw [unit_next _ _ hi'] at O9
    refine z_i64 (by omega) ?_
    exact hag _ (by omega) ⟨O9, X3.grown hg hne, h.grownAt hg had⟩
  · dsimp only at e
    have hi' : i = T.length := by omega
    rw [hi', Nat.sub_self, List.replicate_zero, List.append_nil] at O8
    refine rd_boxN X3 (by kernel_rfl) rfl ?_
    refine set_agg tyFr encF_len O8 rfl (by simpa using hj) (p := (n, d)) rfl (by omega) rfl fun w9 O9 hg _ => ?_
    exact ⟨((some ad, r.2.1, r.2.1) : Hdr), rfl, O9.sl, fun a q => by cases q; exact had, h.grownAt hg had⟩

theorem i64_1 : I64 1 := ⟨by decide, by decide⟩
theorem i64_0 : I64 0 := ⟨by decide, by decide⟩
abbrev zprv : CPr := (0, (none, 0, 0), 0, 0, (none, 0, 0), ())
abbrev lfv (k : Int) (h : Hdr) : CPr := (k, h, 0, 0, (none, 0, 0), ())
/-- a slice that lies in blocks of its own -/
abbrev Hi (B : Nat) (h : Hdr) : Prop := ∀ ad, h.1 = some ad → B ≤ ad.block
/-- a tree of proofs in memory, no part of it below B -/
def PrB (w : World) (B : Nat) : (n : Nat) → PT n → CPr → Prop
  | 0, _, _ => False
  | n + 1, p, x =>
    let q : PN (PT n) := p
    (x.1 = q.kind ∧ I64 q.kind) ∧ (Sl w x.2.1.1 x.2.1.2.1 x.2.1.2.2 2 (q.mul.flatMap encF) ∧ (∀ y ∈ q.mul, I64 y.1 ∧ I64 y.2) ∧ Hi B x.2.1) ∧ (x.2.2.1 = q.var ∧ I64 q.var) ∧ (x.2.2.2.1 = q.bound ∧ I64 q.bound) ∧ q.kids.length ≤ 3 ∧ Hi B x.2.2.2.2.1 ∧
      ∃ xs : List CPr, Sl w x.2.2.2.2.1.1 x.2.2.2.2.1.2.1 x.2.2.2.2.1.2.2 5 (xs.flatMap prc) ∧ xs.length = q.kids.length ∧ ∀ (i : Nat) (y : CPr) (k : PT n), xs[i]? = some y → q.kids[i]? = some k → PrB w B n k y
theorem PrB.at {w : World} {B : Nat} : ∀ {n : Nat} {p : PT n} {x : CPr}, PrB w B n p x → PrAt w n p x
  | 0, _, _, h => h
  | n + 1, p, x, h => by
    obtain ⟨h1, ⟨h2, h3, _⟩, h4, h5, h6, _, xs, h7, h8, h9⟩ := h
    exact ⟨h1, ⟨h2, h3⟩, h4, h5, h6, xs, h7, h8, fun i y k q1 q2 => (h9 i y k q1 q2).at⟩
theorem PrB.grown {w w' : World} {B : Nat} {o : Option Nat} (hg : w.grownBy w' o) (ho : ∀ k, o = some k → k < B) : ∀ {n : Nat} {p : PT n} {x : CPr}, PrB w B n p x → PrB w' B n p x
  | 0, _, _, h => h
  | n + 1, p, x, h => by
    obtain ⟨h1, ⟨h2, h3, hb⟩, h4, h5, h6, hk, xs, h7, h8, h9⟩ := h
    exact ⟨h1, ⟨h2.grown hg fun ad ha _ e => by have := hb ad ha; have := ho _ e.symm; omega, h3, hb⟩, h4, h5, h6, hk, xs, h7.grown hg fun ad ha _ e => by have := hk ad ha; have := ho _ e.symm; omega, h8, fun i y k q1 q2 => PrB.grown hg ho (h9 i y k q1 q2)⟩
theorem PrB.up {w w' : World} {B : Nat} (hb : bel w w') {n : Nat} {p : PT n} {x : CPr} (h : PrB w B n p x) : PrB w' B n p x := h.grown (grown_of_bel hb none) (fun k q => by cases q)
theorem PrB.mono {w : World} {B B' : Nat} (hB : B' ≤ B) : ∀ {n : Nat} {p : PT n} {x : CPr}, PrB w B n p x → PrB w B' n p x
  | 0, _, _, h => h
  | n + 1, p, x, h => by
    obtain ⟨h1, ⟨h2, h3, hb⟩, h4, h5, h6, hk, xs, h7, h8, h9⟩ := h
    exact ⟨h1, ⟨h2, h3, fun ad ha => Nat.le_trans hB (hb ad ha)⟩, h4, h5, h6, fun ad ha => Nat.le_trans hB (hk ad ha), xs, h7, h8, fun i y k q1 q2 => PrB.mono hB (h9 i y k q1 q2)⟩
theorem leafB {w : World} {B : Nat} (n : Nat) (kind : Int) (hk : I64 kind) {h : Hdr} {M : List (Int × Int)} (S : Sl w h.1 h.2.1 h.2.2 2 (M.flatMap encF)) (hI : ∀ y ∈ M, I64 y.1 ∧ I64 y.2) (hB : Hi B h) :
    PrB w B (n + 1) (⟨kind, M, 0, 0, []⟩ : PN (PT n)) (kind, h, 0, 0, (none, 0, 0), ()) :=
  ⟨⟨rfl, hk⟩, ⟨S, hI, hB⟩, ⟨rfl, i64_0⟩, ⟨rfl, i64_0⟩, Nat.zero_le _, fun ad ha => (by cases ha), [], Sl.nil _ _, rfl, fun i y k q _ => by simp at q⟩
theorem unit_i64 {m j : Nat} {p : Int × Int} (hp : I64 p.1 ∧ I64 p.2) : ∀ y ∈ unitM m j p, I64 y.1 ∧ I64 y.2 := by
  intro y hy
  obtain ⟨k, hk⟩ := List.getElem?_of_mem hy
  have hkm : k < m := by have := (List.getElem?_eq_some_iff.1 hk).1; simpa [unitM] using this
  by_cases h : k = j
  · subst h; rw [unitM_self hkm] at hk; cases hk; exact hp
  · rw [unitM_ne hkm h] at hk; cases hk; exact ⟨⟨by decide, by decide⟩, ⟨by decide, by decide⟩⟩

abbrev rPB : RS := .many [.agg [.int .i64, .slice, .int .i64, .int .i64, .slice], .one .bool]
set_option maxHeartbeats 1000000 in
theorem latticeF (u r b : Hdr) (up : List Int) (T : List (List Int)) (rt : List Int) (w : World) (H : Sys w u r b up T rt) (hok : sysE up T rt = 0) :
    call Tryz.prog 19 [sysv u r b] rPB w (fun (x : CPr × Bool × Unit) w' => (x.2.1 = true → ∃ M, LatP up T rt M ∧ ∀ n, PrB w' w.heap.size (n + 1) (⟨2, M, 0, 0, []⟩ : PN (PT n)) x.1) ∧ bel w w') := by
  refine call_of (S19_calls u.1 u.2.1 u.2.2 r.1 r.2.1 r.2.2 b.1 b.2.1 b.2.2 w _ ?_)
  unfold S19
  obtain ⟨hul, hTl, hR, hA⟩ := sysE_ok hok
  have hrl := H.r.len
  have hbl := H.b.int
  refine wr_box fun x1 w2 X1 h2 _ _ => ?_
  refine wr_alloc (z := .agg #[.int .i64 0, .slice none 0 0, .int .i64 0, .int .i64 0, .slice none 0 0]) (by kernel_rfl) fun x3 w4 X3 h4 hb3 _ => ?_
  replace X1 : Box w4 x1 (sysc u r b) := Box.up (show Box w2 x1 (sysc u r b) from X1) h4
  have hx3 : w.heap.size ≤ x3.block := by rw [hb3]; exact h2.size
  have h := h2.trans h4
  clear h2 h4
  refine rd_box (by kernel_rfl) X1 rfl rfl ?_
  replace H := H.up h
  refine loop_up r.2.1 (fun i w' => Sys w' u r b up T rt ∧ Box w' x1 (sysc u r b) ∧ Box w' x3 [.int .i64 0, .slice none 0 0, .int .i64 0, .int .i64 0, .slice none 0 0] ∧ bel w w') ⟨H, X1, X3, h⟩ ?_
  clear H X1 X3 h
  rintro i w8 hi ⟨H, X1, X3, h⟩ again hag _
  refine br_dec (fun e => ?_) (fun e => ?_)
  · dsimp only at e
    have hi' : i < r.2.1 := by omega
    refine join_mk (fun _ w' => Sys w' u r b up T rt ∧ Box w' x1 (sysc u r b) ∧ Box w' x3 [.int .i64 0, .slice none 0 0, .int .i64 0, .int .i64 0, .slice none 0 0] ∧ bel w w') (fun K hK => ?_) ?_
    · refine H.r.at tyTab (by kernel_rfl) (j := i) rfl (by omega) fun hr row hrow S => ?_
      have hrw := S.int
      have hrl2 := hA.2 row (mem_at hrow)
      have hcR := hR.2.2 row (mem_at hrow)
      refine loop_gh (G := Nat × Nat) (fun g s w' => s.1 = (g.2 : Int) ∧ s.2.1 = (g.1 : Int) ∧ g.1 ≤ row.length ∧ g.2 ≤ 1000000 ∧ (∀ j, j < g.1 → ∀ c, row[j]? = some c → (g.2 : Int) ∣ c) ∧ Sys w' u r b up T rt ∧ Sl w' hr.1 hr.2.1 hr.2.2 1 (ints .i64 row) ∧ Box w' x1 (sysc u r b) ∧ Box w' x3 [.int .i64 0, .slice none 0 0, .int .i64 0, .int .i64 0, .slice none 0 0] ∧ bel w w') (fun g => row.length - g.1) (0, 0) ⟨rfl, rfl, Nat.zero_le _, by omega, fun j hj => absurd hj (Nat.not_lt_zero _), H, S, X1, X3, h⟩ ?_
      clear H S X1 X3 h
      rintro ⟨k, g⟩ ⟨s1, s2, _⟩ w17 ⟨rfl, rfl, hk, hg, hd, H, S, X1, X3, h⟩ again2 hag2 _
      dsimp only at hk hg hd ⊢
      refine br_dec (fun e2 => ?_) (fun e2 => ?_)
      · have hk' : k < row.length := by omega
        refine at_int tyI64 (by kernel_rfl) S (j := k) rfl (by omega) fun c hc => ?_
        have hcb := hcR c (mem_at hc)
        refine z_i64 (by omega) ?_
        have hab : (if 0 - c > c then 0 - c else c) = ((c.natAbs : Nat) : Int) := by split <;> omega
        refine z_eq hab ?_
        refine loop_gh (G := Nat × Nat) (fun q s w' => s.1 = (q.1 : Int) ∧ s.2.1 = (q.2 : Int) ∧ q.1 ≤ 1000000 ∧ q.2 ≤ 1000000 ∧ Nat.gcd q.1 q.2 = Nat.gcd g c.natAbs ∧ Sys w' u r b up T rt ∧ Sl w' hr.1 hr.2.1 hr.2.2 1 (ints .i64 row) ∧ Box w' x1 (sysc u r b) ∧ Box w' x3 [.int .i64 0, .slice none 0 0, .int .i64 0, .int .i64 0, .slice none 0 0] ∧ bel w w') (fun q => q.2) (g, c.natAbs) ⟨rfl, rfl, hg, by omega, rfl, H, S, X1, X3, h⟩ ?_
        clear H S X1 X3 h
        rintro ⟨p, q⟩ ⟨s1, s2, _⟩ w24 ⟨rfl, rfl, hp, hq, hgc, H, S, X1, X3, h⟩ again3 hag3 _
        dsimp only at hp hq hgc ⊢
        refine br_eq (fun e3 => ?_) (fun e3 => ?_)
        · have hq0 : q = 0 := by omega
          subst hq0
          rw [Nat.gcd_zero_right] at hgc
          refine z_i64 (by omega) ?_
          refine hag2 (k + 1, p) _ _ ⟨rfl, rfl, hk', hp, ?_, H, S, X1, X3, h⟩ (by dsimp only; omega)
          intro j hj y hy
          rcases Nat.lt_or_ge j k with hjk | hjk
          · refine Int.dvd_trans ?_ (hd j hjk y hy)
            rw [hgc]; exact Int.natCast_dvd_natCast.2 (Nat.gcd_dvd_left _ _)
          · have : j = k := by omega
            subst this
            rw [hc] at hy; cases hy
            refine Int.dvd_trans (b := ((c.natAbs : Nat) : Int)) ?_ (Int.natAbs_dvd.2 (Int.dvd_refl c))
            rw [hgc]; exact Int.natCast_dvd_natCast.2 (Nat.gcd_dvd_right _ _)
        · refine drw_mk fun w26 hb _ => ?_
          refine rdp_rem (by omega) ?_
          have hq0 : 0 < q := by omega
          have hm := Nat.mod_lt p hq0
          refine hag3 (q, p % q) _ _ ⟨rfl, ?_, hq, by dsimp only; omega, ?_, H.up hb, S.up hb, X1.up hb, X3.up hb, h.trans hb⟩ (by dsimp only; omega)
          · exact (Int.ofNat_tmod p q).symm
          · dsimp only; rw [Nat.gcd_comm q, ← Nat.gcd_rec, Nat.gcd_comm, hgc]
      · have hk' : k = row.length := by omega
        refine br_dec (fun e3 => ?_) (fun e3 => hK _ _ ⟨H, X1, X3, h⟩)
        refine rd_box (by kernel_rfl) X1 rfl rfl ?_
        have hAl := hA.1
        refine at_int tyI64 (by kernel_rfl) H.b (j := i) rfl (by omega) fun y hy => ?_
        refine rdp_rem (by omega) ?_
        refine br_ne (fun e4 => ?_) (fun e4 => hK _ _ ⟨H, X1, X3, h⟩)
        refine rd_boxN X1 (by kernel_rfl) rfl ?_
        refine call_mono (unitF u r b up T rt i 1 g w17 H (by omega) (by omega)) ?_
        rintro x33 w34 ⟨S33, F33, hb⟩
        have hx3l := X3.lt
        have hsz := h.size
        replace X3 := X3.up hb
        replace h := h.trans hb
        refine wu_box X3 (by kernel_rfl) (Nat.le_refl 5) rfl fun w35 X3 hg2 _ => ?_
        refine rd_boxV X3 (by kernel_rfl) rfl ⟨((lfv 2 x33, true, ()) : CPr × Bool × Unit), rfl, fun _ => ⟨unitM T.length i (1, g), unit_lat hok hrow hy (by omega) (by omega) (fun c hc => ?_) (fun hdv => e4 (Int.tmod_eq_zero_of_dvd hdv)), fun n => leafB n 2 ⟨by decide, by decide⟩ ?_ (unit_i64 ⟨i64_1, ⟨by dsimp only; omega, by dsimp only; omega⟩⟩) fun ad ha => by have := F33 ad ha; have := hsz; omega⟩, h.grownAt hg2 hx3⟩
        · obtain ⟨j, hj, rfl⟩ := List.mem_iff_getElem.1 hc
          exact hd j (by omega) _ (List.getElem?_eq_getElem hj)
        · exact S33.grown hg2 fun ad ha _ e => by have := F33 ad ha; injection e; omega
    · rintro _ w11 ⟨H, X1, X3, h⟩ _
      refine z_i64 (by omega) ?_
      exact hag _ hi' ⟨H, X1, X3, h⟩
  · refine wu_box X3 (by kernel_rfl) (Nat.le_refl 5) rfl fun w35 X3 hg2 _ => ?_
    exact rd_boxV X3 (by kernel_rfl) rfl ⟨((zprv, false, ()) : CPr × Bool × Unit), rfl, (fun q => by cases q), h.grownAt hg2 hx3⟩

/-! ### the number of points -/
def ptsN (lo hi : List Int) : Nat → Int
  | 0 => 1
  | k + 1 => ptsN lo hi k * (hi.getD k 0 - lo.getD k 0 + 1)
def OkBox (lo hi : List Int) : Prop := ∀ k, lo.getD k 0 ≤ hi.getD k 0
theorem pts_pos {lo hi : List Int} (h : OkBox lo hi) : ∀ n, 1 ≤ ptsN lo hi n
  | 0 => Int.le_refl _
  | n + 1 => by
    have h1 := pts_pos h n
    have h2 := h n
    show 1 ≤ ptsN lo hi n * (hi.getD n 0 - lo.getD n 0 + 1)
    have := Int.mul_le_mul h1 (show (1 : Int) ≤ hi.getD n 0 - lo.getD n 0 + 1 by omega) (by omega) (by omega)
    omega
theorem pts_mono {lo hi : List Int} (h : OkBox lo hi) {k n : Nat} (hkn : k ≤ n) : ptsN lo hi k ≤ ptsN lo hi n := by
  induction n with
  | zero => have : k = 0 := by omega
            subst this; exact Int.le_refl _
  | succ n ih =>
    by_cases e : k = n + 1
    · subst e; exact Int.le_refl _
    · have h1 := ih (by omega)
      have h2 := h n
      have h3 := pts_pos h n
      show _ ≤ ptsN lo hi n * (hi.getD n 0 - lo.getD n 0 + 1)
      have := Int.mul_le_mul_of_nonneg_left (show (1 : Int) ≤ hi.getD n 0 - lo.getD n 0 + 1 by omega) (by omega : 0 ≤ ptsN lo hi n)
      omega
abbrev zs (n : Nat) : List Int := List.replicate n 0
theorem zs_getD (n k : Nat) : (zs n).getD k 0 = 0 := by
  rw [List.getD_eq_getElem?_getD, List.getElem?_replicate]; split <;> rfl
theorem ok_zero {up : List Int} (h : ∀ x ∈ up, 0 ≤ x ∧ x ≤ 1000000000) : OkBox (zs up.length) up := by
  intro k
  rw [zs_getD, List.getD_eq_getElem?_getD]
  cases hk : up[k]? with
  | none => exact Int.le_refl _
  | some x => exact (h x (mem_at hk)).1

set_option maxHeartbeats 400000 in
theorem pointsF (u r b : Hdr) (up : List Int) (T : List (List Int)) (rt : List Int) (w : World) (H : Sys w u r b up T rt) (hok : sysE up T rt = 0) :
    call Tryz.prog 20 [sysv u r b] (.many [.one (.int .i64), .one .bool]) w (fun (x : Int × Bool × Unit) w' => x.2.1 = decide (ptsN (zs up.length) up up.length ≤ 500) ∧ bel w w') := by
  refine call_of (S20_calls u.1 u.2.1 u.2.2 r.1 r.2.1 r.2.2 b.1 b.2.1 b.2.2 w _ ?_)
  unfold S20
  obtain ⟨hul, hTl, hR, hA⟩ := sysE_ok hok
  have hu := H.u.int
  have hb := ok_zero hR.1
  refine wr_box fun x1 w2 X1 h2 _ _ => ?_
  replace X1 : Box w2 x1 (sysc u r b) := X1
  refine rd_box0 (by kernel_rfl) X1 rfl rfl ?_
  replace H := H.up h2
  refine loop_upA u.2.1 (fun i n w' => w' = w2 ∧ n = ptsN (zs up.length) up i ∧ n ≤ 500) ⟨rfl, rfl, by omega⟩ ?_
  rintro i n w' hi ⟨rfl, rfl, hn⟩ again hag _
  have hp := pts_pos hb i
  have no : ¬ ptsN (zs up.length) up up.length ≤ 500 → ∃ y : Int × Bool × Unit, Value.tuple #[.int .i64 0, .bool false] = (RS.many [.one (.int .i64), .one .bool]).val y ∧ y.2.1 = decide (ptsN (zs up.length) up up.length ≤ 500) ∧ bel w w' := fun q => ⟨((0, false, ()) : Int × Bool × Unit), rfl, (decide_eq_false q).symm, h2⟩
  refine br_dec (fun e => ?_) (fun e => ?_)
  · dsimp only at e
    refine at_int tyI64 (by kernel_rfl) H.u (j := i) rfl (by omega) fun y hy => ?_
    have hyb := hR.1 y (mem_at hy)
    have hstep : ptsN (zs up.length) up (i + 1) = ptsN (zs up.length) up i * (y + 1) := by
      show ptsN (zs up.length) up i * (up.getD i 0 - (zs up.length).getD i 0 + 1) = _
      rw [zs_getD, List.getD_eq_getElem?_getD, hy]; simp
    have hmono := pts_mono hb (show i + 1 ≤ up.length by omega)
    refine z_i64 (by omega) ?_
    have hge : y + 1 ≤ ptsN (zs up.length) up i * (y + 1) := by
      have := Int.mul_le_mul_of_nonneg_right hp (show 0 ≤ y + 1 by omega)
      omega
    refine br_dec (fun e2 => no (by omega)) (fun e2 => ?_)
    refine z_i64 (by omega) ?_
    have hle : ptsN (zs up.length) up i * (y + 1) ≤ 500 * 500 := Int.mul_le_mul hn (by omega) (by omega) (by omega)
    refine z_i64 (by dsimp only; omega) ?_
    refine br_dec (fun e3 => no (by dsimp only at e3; omega)) (fun e3 => ?_)
    dsimp only at e3
    refine z_i64 (by dsimp only; omega) ?_
    exact hag _ _ (by omega) ⟨rfl, hstep.symm, by dsimp only; omega⟩
  · dsimp only at e
    have hi' : i = up.length := by omega
    subst hi'
    exact ⟨((ptsN (zs up.length) up up.length, true, ()) : Int × Bool × Unit), rfl, (decide_eq_true hn).symm, h2⟩
end Go.Proofs.YtajpdnphamomjaaGreat

/- Halving boxes: plain law. -/

namespace Go.Proofs.YtajpdnphamomjaaGreat
open Go.RowKit Go.Q Go.Q.Num Go.V

/-! ### binary digits of a width -/
def nb (d : Nat) : Nat := if h : d = 0 then 0 else nb (d / 2) + 1
termination_by d
decreasing_by omega
theorem nb_zero : nb 0 = 0 := by rw [nb]; simp
theorem nb_pos {d : Nat} (h : 0 < d) : nb d = nb (d / 2) + 1 := by rw [nb]; simp [show d ≠ 0 by omega]
theorem nb_mono : ∀ (b a : Nat), a ≤ b → nb a ≤ nb b := by
  intro b
  induction b using Nat.strongRecOn with
  | _ b ih =>
    intro a h
    by_cases ha : a = 0
    · subst ha; rw [nb_zero]; exact Nat.zero_le _
    · rw [nb_pos (d := a) (by omega), nb_pos (d := b) (by omega)]
      have := ih (b / 2) (by omega) (a / 2) (Nat.div_le_div_right h)
      omega
theorem nb_pow : ∀ (d : Nat), 0 < d → 2 ^ nb d ≤ 2 * d := by
  intro d
  induction d using Nat.strongRecOn with
  | _ d ih =>
    intro h
    rw [nb_pos h, Nat.pow_succ]
    by_cases h1 : d = 1
    · subst h1; rw [show 1 / 2 = 0 from rfl, nb_zero]; decide
    · have := ih (d / 2) (by omega) (by omega)
      omega
theorem nb_sq (d : Nat) : ((2 ^ nb d : Nat) : Int) ≤ ((d : Int) + 1) * ((d : Int) + 1) := by
  by_cases h : d = 0
  · subst h; rw [nb_zero]; decide
  · have h1 := nb_pow d (by omega)
    have h2 : (0 : Int) ≤ (d : Int) * d := Int.mul_nonneg (by omega) (by omega)
    have h3 : ((d : Int) + 1) * ((d : Int) + 1) = (d : Int) * d + 2 * d + 1 := by grind
    omega

/-! ### sums and products over the variables -/
def wd (lo hi : List Int) (k : Nat) : Nat := (hi.getD k 0 - lo.getD k 0).toNat
def bitN (lo hi : List Int) : Nat → Nat
  | 0 => 0
  | k + 1 => bitN lo hi k + nb (wd lo hi k)
theorem bit_pts {lo hi : List Int} (h : OkBox lo hi) : ∀ n, ((2 ^ bitN lo hi n : Nat) : Int) ≤ ptsN lo hi n * ptsN lo hi n
  | 0 => by show ((2 ^ 0 : Nat) : Int) ≤ 1 * 1; decide
  | n + 1 => by
    have h1 := bit_pts h n
    have h2 := nb_sq (wd lo hi n)
    have h3 := pts_pos h n
    have h4 := h n
    have e : ((wd lo hi n : Nat) : Int) = hi.getD n 0 - lo.getD n 0 := by unfold wd; omega
    rw [e] at h2
    show ((2 ^ (bitN lo hi n + nb (wd lo hi n)) : Nat) : Int) ≤ ptsN lo hi n * (hi.getD n 0 - lo.getD n 0 + 1) * (ptsN lo hi n * (hi.getD n 0 - lo.getD n 0 + 1))
    rw [Nat.pow_add, Int.natCast_mul]
    have := Int.mul_le_mul h1 h2 (Int.natCast_nonneg _) (Int.mul_nonneg (by omega) (by omega))
    have e2 : ptsN lo hi n * (hi.getD n 0 - lo.getD n 0 + 1) * (ptsN lo hi n * (hi.getD n 0 - lo.getD n 0 + 1)) = ptsN lo hi n * ptsN lo hi n * ((hi.getD n 0 - lo.getD n 0 + 1) * (hi.getD n 0 - lo.getD n 0 + 1)) := by grind
    rw [e2]; exact this
theorem bit_17 {lo hi : List Int} (h : OkBox lo hi) {n : Nat} (hp : ptsN lo hi n ≤ 500) : bitN lo hi n ≤ 17 := by
  have h1 := bit_pts h n
  have h2 := pts_pos h n
  have h3 : ptsN lo hi n * ptsN lo hi n ≤ 500 * 500 := Int.mul_le_mul hp hp (by omega) (by omega)
  rcases Nat.lt_or_ge (bitN lo hi n) 18 with h4 | h4
  · omega
  · have h5 : 2 ^ 18 ≤ 2 ^ bitN lo hi n := Nat.pow_le_pow_right (by omega) h4
    have h6 : (2 : Nat) ^ 18 = 262144 := by decide
    omega
/-- two boxes that part at one place -/
def Off (k : Nat) (a b : List Int) : Prop := ∀ j, j ≠ k → a.getD j 0 = b.getD j 0
theorem Off.refl (k : Nat) (a : List Int) : Off k a a := fun _ _ => rfl
theorem Off.set (k : Nat) (a : List Int) (x : Int) : Off k (a.set k x) a := by
  intro j hj
  rw [List.getD_eq_getElem?_getD, List.getD_eq_getElem?_getD, List.getElem?_set_ne (fun e => hj e.symm)]
theorem pts_low {lo hi lo' hi' : List Int} {k : Nat} (h1 : Off k lo' lo) (h2 : Off k hi' hi) : ∀ n, n ≤ k → ptsN lo' hi' n = ptsN lo hi n
  | 0, _ => rfl
  | n + 1, h => by
    show ptsN lo' hi' n * _ = ptsN lo hi n * _
    rw [pts_low h1 h2 n (by omega), h1 n (by omega), h2 n (by omega)]
theorem pts_lin {lo hi lo' hi' : List Int} {k : Nat} (h1 : Off k lo' lo) (h2 : Off k hi' hi) : ∀ n, k < n → ptsN lo' hi' n * (hi.getD k 0 - lo.getD k 0 + 1) = ptsN lo hi n * (hi'.getD k 0 - lo'.getD k 0 + 1)
  | 0, h => by omega
  | n + 1, h => by
    show ptsN lo' hi' n * (hi'.getD n 0 - lo'.getD n 0 + 1) * _ = ptsN lo hi n * (hi.getD n 0 - lo.getD n 0 + 1) * _
    by_cases e : n = k
    · subst e
      rw [pts_low h1 h2 n (Nat.le_refl _)]; grind
    · have := pts_lin h1 h2 n (by omega)
      rw [h1 n e, h2 n e]; grind
theorem bit_low {lo hi lo' hi' : List Int} {k : Nat} (h1 : Off k lo' lo) (h2 : Off k hi' hi) : ∀ n, n ≤ k → bitN lo' hi' n = bitN lo hi n
  | 0, _ => rfl
  | n + 1, h => by
    show bitN lo' hi' n + nb (wd lo' hi' n) = bitN lo hi n + nb (wd lo hi n)
    unfold wd
    rw [bit_low h1 h2 n (by omega), h1 n (by omega), h2 n (by omega)]
theorem bit_lin {lo hi lo' hi' : List Int} {k : Nat} (h1 : Off k lo' lo) (h2 : Off k hi' hi) : ∀ n, k < n → bitN lo' hi' n + nb (wd lo hi k) = bitN lo hi n + nb (wd lo' hi' k)
  | 0, h => by omega
  | n + 1, h => by
    show bitN lo' hi' n + nb (wd lo' hi' n) + _ = bitN lo hi n + nb (wd lo hi n) + _
    by_cases e : n = k
    · subst e
      rw [bit_low h1 h2 n (Nat.le_refl _)]; omega
    · have := bit_lin h1 h2 n (by omega)
      have e2 : wd lo' hi' n = wd lo hi n := by unfold wd; rw [h1 n e, h2 n e]
      rw [e2]; omega
/-- the halves -/
theorem halves {lo hi : List Int} {k n : Nat} (hb : OkBox lo hi) (hk : k < n) (hlo : k < lo.length) (hhi : k < hi.length) (hw : lo.getD k 0 < hi.getD k 0) {m : Int} (hm : m = lo.getD k 0 + (hi.getD k 0 - lo.getD k 0).tdiv 2) :
    (lo.getD k 0 ≤ m ∧ m < hi.getD k 0) ∧ OkBox lo (hi.set k m) ∧ OkBox (lo.set k (m + 1)) hi ∧ ptsN lo (hi.set k m) n + ptsN (lo.set k (m + 1)) hi n = ptsN lo hi n ∧ bitN lo (hi.set k m) n < bitN lo hi n ∧ bitN (lo.set k (m + 1)) hi n < bitN lo hi n := by
  have h2 : (hi.getD k 0 - lo.getD k 0).tdiv 2 = (hi.getD k 0 - lo.getD k 0) / 2 := Int.tdiv_eq_ediv_of_nonneg (by omega)
  rw [h2] at hm
  have g1 : (hi.set k m).getD k 0 = m := by rw [List.getD_eq_getElem?_getD, List.getElem?_set_self hhi]; rfl
  have g2 : (lo.set k (m + 1)).getD k 0 = m + 1 := by rw [List.getD_eq_getElem?_getD, List.getElem?_set_self hlo]; rfl
  have o1 : OkBox lo (hi.set k m) := fun j => by
    by_cases e : j = k
    · subst e; rw [g1]; omega
    · rw [Off.set k hi m j e]; exact hb j
  have o2 : OkBox (lo.set k (m + 1)) hi := fun j => by
    by_cases e : j = k
    · subst e; rw [g2]; omega
    · rw [Off.set k lo (m + 1) j e]; exact hb j
  have l1 := pts_lin (Off.refl k lo) (Off.set k hi m) n hk
  have l2 := pts_lin (Off.set k lo (m + 1)) (Off.refl k hi) n hk
  rw [g1] at l1; rw [g2] at l2
  have b1 := bit_lin (Off.refl k lo) (Off.set k hi m) n hk
  have b2 := bit_lin (Off.set k lo (m + 1)) (Off.refl k hi) n hk
  have w0 : wd lo hi k = (hi.getD k 0 - lo.getD k 0).toNat := rfl
  have w1 : wd lo (hi.set k m) k = wd lo hi k / 2 := by unfold wd; rw [g1]; omega
  have w2 : wd (lo.set k (m + 1)) hi k ≤ wd lo hi k / 2 := by unfold wd; rw [g2]; omega
  have n1 := nb_pos (d := wd lo hi k) (by omega)
  have n2 := nb_mono _ _ w2
  rw [w1] at b1
  refine ⟨⟨by omega, by omega⟩, o1, o2, ?_, by omega, by omega⟩
  have hpos : 0 < hi.getD k 0 - lo.getD k 0 + 1 := by omega
  refine Int.eq_of_mul_eq_mul_right (show hi.getD k 0 - lo.getD k 0 + 1 ≠ 0 by omega) ?_
  rw [Int.add_mul, l1, l2, ← Int.mul_add]
  congr 1
  omega

/-! ### a proof by two proofs -/
section
variable {up : List Int} {T : List (List Int)} {rt lo hi : List Int} {n : Nat}
theorem getD_at {l : List Int} {k : Nat} {x : Int} (h : l[k]? = some x) : l.getD k 0 = x := by rw [List.getD_eq_getElem?_getD, h]; rfl
theorem split_right {k : Nat} {m : Int} {p q : PT n} (hk : k < up.length) (hm : 0 ≤ m ∧ m ≤ 1000000000) (hl : lo.length = up.length) (hh : hi.length = up.length) (h1 : lo.getD k 0 ≤ m) (h2 : m < hi.getD k 0)
    (hp : rightP up T rt n p lo (hi.set k m)) (hq : rightP up T rt n q (lo.set k (m + 1)) hi) : rightP up T rt (n + 1) (⟨3, [], (k : Int), m, [p, q]⟩ : PN (PT n)) lo hi := by
  refine (right_3 (p := (⟨3, [], (k : Int), m, [p, q]⟩ : PN (PT n))) rfl).2 ⟨rfl, rfl, ⟨by dsimp only; omega, by dsimp only; omega⟩, hm, fun a ha => ?_, fun a ha => ?_⟩
  · have : a = p := by simpa using ha.symm
    subst this
    have e : min (hi.getD (k : Int).toNat 0) m = m := by rw [Int.toNat_natCast]; omega
    dsimp only
    rw [e, Int.toNat_natCast]; exact hp
  · have : a = q := by simpa using ha.symm
    subst this
    have e : max (lo.getD (k : Int).toNat 0) (m + 1) = m + 1 := by rw [Int.toNat_natCast]; omega
    dsimp only
    rw [e, Int.toNat_natCast]; exact hq
theorem split_size {k m : Int} {p q : PT n} : szP (n + 1) (⟨3, [], k, m, [p, q]⟩ : PN (PT n)) = 1 + (szP n p + szP n q) := by
  show 1 + ([p, q].map (szP n)).sum = _
  simp
theorem leaf_size {kind : Int} {M : List (Int × Int)} : szP (n + 1) (⟨kind, M, 0, 0, []⟩ : PN (PT n)) = 1 := rfl
theorem split_pt {k : Nat} {m : Int} {xs : List Int} (h : Pt T rt lo (hi.set k m) xs) (hm : ∀ b, hi[k]? = some b → m ≤ b) : Pt T rt lo hi xs :=
  ⟨h.llo, by rw [← h.lhi]; simp, fun j a b x ha hb hx => by
    by_cases e : j = k
    · subst e
      have hj : j < hi.length := (List.getElem?_eq_some_iff.1 hb).1
      have := h.each j a m x ha (by rw [List.getElem?_set_self hj]) hx
      have := hm b hb
      omega
    · exact h.each j a b x ha (by rw [List.getElem?_set_ne (fun q => e q.symm)]; exact hb) hx, h.rows⟩
theorem split_pt' {k : Nat} {m : Int} {xs : List Int} (h : Pt T rt (lo.set k m) hi xs) (hm : ∀ a, lo[k]? = some a → a ≤ m) : Pt T rt lo hi xs :=
  ⟨by rw [← h.llo]; simp, h.lhi, fun j a b x ha hb hx => by
    by_cases e : j = k
    · subst e
      have hj : j < lo.length := (List.getElem?_eq_some_iff.1 ha).1
      have := h.each j m b x (by rw [List.getElem?_set_self hj]) hb hx
      have := hm a ha
      omega
    · exact h.each j a b x (by rw [List.getElem?_set_ne (fun q => e q.symm)]; exact ha) hb hx, h.rows⟩
/-- a box of one point -/
theorem min_dot {r : List Int} {lo hi : List Int} (h : ∀ k, hi.getD k 0 = lo.getD k 0) (hl : r.length = lo.length) : ∀ n, n ≤ r.length → minI r lo hi n = dotI r lo n ∧ maxI r lo hi n = dotI r lo n
  | 0, _ => ⟨rfl, rfl⟩
  | n + 1, hn => by
    obtain ⟨h1, h2⟩ := min_dot h hl n (by omega)
    obtain ⟨c, hc⟩ : ∃ c, r[n]? = some c := ⟨_, List.getElem?_eq_getElem (by omega)⟩
    obtain ⟨a, ha⟩ : ∃ a, lo[n]? = some a := ⟨_, List.getElem?_eq_getElem (by omega)⟩
    have e : dotI r lo (n + 1) = dotI r lo n + c * a := dotI_step hc ha
    refine ⟨?_, ?_⟩
    · show minI r lo hi n + min (r.getD n 0 * lo.getD n 0) (r.getD n 0 * hi.getD n 0) = _
      rw [h1, h n, getD_at hc, getD_at ha, e]; omega
    · show maxI r lo hi n + max (r.getD n 0 * lo.getD n 0) (r.getD n 0 * hi.getD n 0) = _
      rw [h2, h n, getD_at hc, getD_at ha, e]; omega
theorem point_pt (hok : sysE up T rt = 0) (hl : lo.length = up.length) (hh : hi.length = up.length) (he : ∀ k, hi.getD k 0 = lo.getD k 0)
    (h : ∀ (i : Nat) row b, T[i]? = some row → rt[i]? = some b → minI row lo hi up.length ≤ b ∧ b ≤ maxI row lo hi up.length) : Pt T rt lo hi lo := by
  obtain ⟨_, _, _, hA⟩ := sysE_ok hok
  refine ⟨rfl, by omega, fun k a b x ha hb hx => ?_, fun i row b hrow hb => ?_⟩
  · rw [ha] at hx; cases hx
    have := he k
    rw [getD_at ha, getD_at hb] at this
    omega
  · have hr := hA.2 row (mem_at hrow)
    obtain ⟨e1, e2⟩ := min_dot he (by omega : row.length = lo.length) up.length (by omega)
    have := h i row b hrow hb
    rw [hl]; omega
end
end Go.Proofs.YtajpdnphamomjaaGreat

/- Splitting a box: the walk of split, for a search that answers rightly on both sides. -/

namespace Go.Proofs.YtajpdnphamomjaaGreat
open Go.RowKit Go.Q Go.Q.Num Go.V

abbrev HX := Hdr × CPr × Int × Unit
abbrev rHX : RS := .many [.one .slice, .agg [.int .i64, .slice, .int .i64, .int .i64, .slice], .one (.int .i64)]
/-- the search's variable -/
abbrev srcC (u r b : Hdr) (left : Int) : List Value := [.slice u.1 u.2.1 u.2.2, .slice r.1 r.2.1 r.2.2, .slice b.1 b.2.1 b.2.2, .int .i64 left]
def HRes (up : List Int) (T : List (List Int)) (rt lo hi : List Int) (B n N : Nat) (x : HX) (w' : World) : Prop :=
  (x.2.2.1 = 0 ∧ ∃ xs, Sl w' x.1.1 x.1.2.1 x.1.2.2 1 (ints .i64 xs) ∧ Hi B x.1 ∧ Pt T rt lo hi xs) ∨
  (x.2.2.1 = 12 ∧ x.1 = (none, 0, 0) ∧ ∃ p : PT n, PrB w' B n p x.2.1 ∧ rightP up T rt n p lo hi ∧ szP n p ≤ N)
theorem HRes.up {up : List Int} {T : List (List Int)} {rt lo hi : List Int} {B n N : Nat} {x : HX} {w w' : World} (h : HRes up T rt lo hi B n N x w) (hb : bel w w') : HRes up T rt lo hi B n N x w' := by
  rcases h with ⟨h1, xs, h2, h3⟩ | ⟨h1, h2, p, h3, h4⟩
  · exact .inl ⟨h1, xs, h2.up hb, h3⟩
  · exact .inr ⟨h1, h2, p, h3.up hb, h4⟩
abbrev zpc : List Value := [.int .i64 0, .slice none 0 0, .int .i64 0, .int .i64 0, .slice none 0 0]
theorem fill_pr2 (a b : CPr) : Instr.fill (fun i => some (i * 5, 5)) ((Array.range (2 * 5)).map ((Value.agg zpc.toArray).cells[· % (Value.agg zpc.toArray).cells.size]!)) (#[(0, prv a), (1, prv b)] : Array (Nat × Value)).toList = some (prc a ++ prc b).toArray := by kernel_rfl
/-- what a search by halves is to do -/
def HalveC (u r b : Hdr) (up : List Int) (T : List (List Int)) (rt : List Int) (left : Int) (xa : Addr) (n : Nat) : Prop :=
  ∀ (lo hi : Hdr) (ls hs : List Int) (w : World), Sys w u r b up T rt → Box w xa (srcC u r b left) → Sl w lo.1 lo.2.1 lo.2.2 1 (ints .i64 ls) → Sl w hi.1 hi.2.1 hi.2.2 1 (ints .i64 hs) → ls.length = up.length → hs.length = up.length →
    OkBox ls hs → (∀ k, 0 ≤ ls.getD k 0 ∧ hs.getD k 0 ≤ 1000000000) → bitN ls hs up.length < n →
    call Tryz.prog 21 [.pointer (some xa), .slice lo.1 lo.2.1 lo.2.2, .slice hi.1 hi.2.1 hi.2.2] rHX w (fun (x : HX) w' => HRes up T rt ls hs w.heap.size n (2 * ptsN ls hs up.length - 1).toNat x w' ∧ bel w w')

set_option maxHeartbeats 1600000 in
theorem splitF (u r b : Hdr) (up : List Int) (T : List (List Int)) (rt : List Int) (hok : sysE up T rt = 0) (left : Int) (xa : Addr) (n : Nat) (IH : HalveC u r b up T rt left xa n)
    (lo hi : Hdr) (ls hs : List Int) (w : World) (H : Sys w u r b up T rt) (XA : Box w xa (srcC u r b left)) (L : Sl w lo.1 lo.2.1 lo.2.2 1 (ints .i64 ls)) (U : Sl w hi.1 hi.2.1 hi.2.2 1 (ints .i64 hs)) (hl : ls.length = up.length) (hh : hs.length = up.length)
    (ob : OkBox ls hs) (win : ∀ k, 0 ≤ ls.getD k 0 ∧ hs.getD k 0 ≤ 1000000000) (hbit : bitN ls hs up.length < n + 1) (k : Nat) (m : Int) (hk : k < up.length) (hw : ls.getD k 0 < hs.getD k 0) (hm : m = ls.getD k 0 + (hs.getD k 0 - ls.getD k 0).tdiv 2) :
    call Tryz.prog 40 [.pointer (some xa), .slice lo.1 lo.2.1 lo.2.2, .slice hi.1 hi.2.1 hi.2.2, .int .i64 (k : Int), .int .i64 m, .func (.func 21) #[.pointer (some xa)] #[]] rHX w
      (fun (x : HX) w' => HRes up T rt ls hs w.heap.size (n + 1) (2 * ptsN ls hs up.length - 1).toNat x w' ∧ bel w w') := by
  obtain ⟨hul, _, hR, hA⟩ := sysE_ok hok
  obtain ⟨⟨m1, m2⟩, ob1, ob2, hpts, hb1, hb2⟩ := halves ob hk (by omega) (by omega) hw hm
  have wk := win k
  have p1 := pts_pos ob1 up.length
  have p2 := pts_pos ob2 up.length
  refine call_of (S40h_calls (some xa) lo.1 lo.2.1 lo.2.2 hi.1 hi.2.1 hi.2.2 k m xa w _ ?_)
  unfold S40h
  have hll := L.int
  have hul' := U.int
  refine wr_alloc (z := .agg zpc.toArray) (by kernel_rfl) fun x1 w2 X1 h2 hx1 _ => ?_
  have hx1w : w.heap.size ≤ x1.block := by omega
  refine call_mono (clone64 lo ls w2 (L.up h2) (by omega)) ?_
  rintro (x3 : Hdr) w4 ⟨O3, h4⟩
  refine call_mono (clone64 hi hs w4 ((U.up h2).up h4) (by omega)) ?_
  rintro (x5 : Hdr) w6 ⟨O5, h6⟩
  have n3 := O3.len
  have n5 := O5.len
  obtain ⟨a5, ha5⟩ := own_some O5 (j := k) (by omega)
  obtain ⟨a3, ha3⟩ := own_some O3 (j := k) (by omega)
  have l3 := O3.lt a3.block (by rw [ha3]; rfl)
  have l5 := O5.lt a5.block (by rw [ha5]; rfl)
  have bk5 : blk x5.1 = some a5.block := by rw [ha5]; rfl
  have bk3 : blk x3.1 = some a3.block := by rw [ha3]; rfl
  replace O3 : OwnI w6 w2.heap.size x3 ls := Own.kept O3 h6
  have X1l := X1.lt
  have s2 := h2.size
  have s4 := h4.size
  have s6 := h6.size
  replace X1 : Box w6 x1 zpc := (X1.up h4).up h6
  have h := (h2.trans h4).trans h6
  refine z_i64 (by omega) ?_
  refine set_mk tyI64 O5 (j := k) rfl (by omega) rfl fun w9 O5 g5 z9 => ?_
  rw [ints_set] at O5
  rw [bk5] at g5
  replace O3 : OwnI w9 w2.heap.size x3 ls := Own.putNew O3 g5 (fun j hj => by rw [bk3] at hj; cases hj; omega)
  replace X1 := X1.grown g5 (by intro e; injection e; omega)
  replace h := h.grownAt g5 (by omega)
  refine set_mk tyI64 O3 (j := k) rfl (by omega) rfl fun w11 O3 g3 z11 => ?_
  rw [ints_set] at O3
  rw [bk3] at g3
  replace O5 : OwnI w11 w4.heap.size x5 (hs.set k m) := Own.putNew O5 g3 (fun j hj => by rw [bk5] at hj; cases hj; omega)
  replace X1 := X1.grown g3 (by intro e; injection e; omega)
  replace h := h.grownAt g3 (by omega)
  clear g3 g5 h2 h4 h6
  have s11 := h.size
  have win1 : ∀ j, 0 ≤ ls.getD j 0 ∧ (hs.set k m).getD j 0 ≤ 1000000000 := fun j => by
    by_cases e : j = k
    · subst e; rw [List.getD_eq_getElem?_getD (l := hs.set j m), List.getElem?_set_self (by omega)]; exact ⟨(win j).1, by show m ≤ _; omega⟩
    · rw [Off.set k hs m j e]; exact win j
  have win2 : ∀ j, 0 ≤ (ls.set k (m + 1)).getD j 0 ∧ hs.getD j 0 ≤ 1000000000 := fun j => by
    by_cases e : j = k
    · subst e; rw [List.getD_eq_getElem?_getD (l := ls.set j (m + 1)), List.getElem?_set_self (by omega)]; exact ⟨by show 0 ≤ m + 1; omega, (win j).2⟩
    · rw [Off.set k ls (m + 1) j e]; exact win j
  refine call_mono (IH lo x5 ls (hs.set k m) w11 (H.up h) (XA.up h) (L.up h) O5.sl hl (by simp [hh]) ob1 win1 (by omega)) ?_
  rintro (x12 : HX) w13 ⟨R1, h13⟩
  have X1' : Box w13 x1 zpc := X1.up h13
  replace O3 : OwnI w13 w2.heap.size x3 (ls.set k (m + 1)) := Own.kept O3 h13
  replace h := h.trans h13
  have s13 := h13.size
  refine var_mk (z := .agg zpc.toArray) (by kernel_rfl) (by kernel_rfl) rfl rfl fun x14 w16 X14 h16 hx14 => ?_
  replace X14 : Box w16 x14 (prc x12.2.1) := X14
  replace X1' : Box w16 x1 zpc := X1'.up h16
  replace O3 : OwnI w16 w2.heap.size x3 (ls.set k (m + 1)) := Own.kept O3 h16
  replace R1 := R1.up h16
  replace h := h.trans h16
  have t16 := h16.size
  clear h13 h16 X1
  have b1 : x1.block < w11.heap.size := by omega
  -- what is handed back from a side
  have back : ∀ (x : HX) (w' : World), Box w' x1 zpc → bel w w' → HRes up T rt ls hs w11.heap.size (n + 1) (2 * ptsN ls hs up.length - 1).toNat x w' →
      wu Tryz.prog (Instr.storeAt 35 (.pointer (some x1)) (prv x.2.1)) w' fun w2 => rd Tryz.prog (loadVar 35 x1) (.agg [.int .i64, .slice, .int .i64, .int .i64, .slice]) w2 fun y =>
        ∃ v : HX, Value.tuple #[.slice x.1.1 x.1.2.1 x.1.2.2, prv y, .int .i64 x.2.2.1] = rHX.val v ∧ HRes up T rt ls hs w.heap.size (n + 1) (2 * ptsN ls hs up.length - 1).toNat v w2 ∧ bel w w2 := by
    intro x w' X hb hr
    refine wu_box X (by kernel_rfl) (Nat.le_refl 5) rfl fun w3 X hg _ => ?_
    refine rd_boxV (show Box w3 x1 (prc x.2.1) from X) (by kernel_rfl) rfl ⟨x, rfl, ?_, hb.grownAt hg hx1w⟩
    rcases hr with ⟨e1, xs, q1, q2, q3⟩ | ⟨e1, e2, p, q1, q2, q3⟩
    · exact .inl ⟨e1, xs, q1.grown hg fun ad ha _ e => by (have := q2 ad ha); injection e; omega, fun ad ha => by have := q2 ad ha; omega, q3⟩
    · exact .inr ⟨e1, e2, p, (q1.grown hg fun j hj => by injection hj; omega).mono (by omega), q2, q3⟩
  refine br_ne (fun e1 => ?_) (fun e1 => ?_)
  · refine drw_mk fun w17 h17 _ => ?_
    refine rd_boxN (X14.up h17) (by kernel_rfl) rfl ?_
    refine back x12 w17 (X1'.up h17) (h.trans h17) ?_
    rcases R1 with ⟨q0, xs, q1, q2, q3⟩ | ⟨q0, _⟩
    · exact .inl ⟨q0, xs, q1.up h17, q2, split_pt q3 fun y hy => by rw [← getD_at hy]; omega⟩
    · exact absurd q0 e1
  rcases R1 with ⟨q0, _⟩ | ⟨_, _, p, P1, P2, P3⟩
  · exact absurd (q0.symm.trans e1) (by decide)
  refine call_mono (IH x3 hi (ls.set k (m + 1)) hs w16 (H.up h) (XA.up h) O3.sl (U.up h) (by simp [hl]) hh ob2 win2 (by omega)) ?_
  rintro (x21 : HX) w22 ⟨R2, h22⟩
  replace X1' : Box w22 x1 zpc := X1'.up h22
  replace X14 : Box w22 x14 (prc x12.2.1) := X14.up h22
  replace P1 := P1.up h22
  replace h := h.trans h22
  have s22 := h22.size
  refine var_mk (z := .agg zpc.toArray) (by kernel_rfl) (by kernel_rfl) rfl rfl fun x23 w25 X23 h25 hx23 => ?_
  replace X23 : Box w25 x23 (prc x21.2.1) := X23
  replace X1' : Box w25 x1 zpc := X1'.up h25
  replace X14 : Box w25 x14 (prc x12.2.1) := X14.up h25
  replace P1 := P1.up h25
  replace R2 := R2.up h25
  replace h := h.trans h25
  have s25 := h25.size
  have t22 := s22
  clear h22 h25
  refine br_ne (fun e2 => ?_) (fun e2 => ?_)
  · refine drw_mk fun w26 h26 _ => ?_
    refine rd_boxN (X23.up h26) (by kernel_rfl) rfl ?_
    refine back x21 w26 (X1'.up h26) (h.trans h26) ?_
    rcases R2 with ⟨q0, xs, q1, q2, q3⟩ | ⟨q0, _⟩
    · exact .inl ⟨q0, xs, q1.up h26, fun ad ha => by have := q2 ad ha; omega, split_pt' q3 fun y hy => by rw [← getD_at hy]; omega⟩
    · exact absurd q0 e2
  rcases R2 with ⟨q0, _⟩ | ⟨_, _, q, Q1, Q2, Q3⟩
  · exact absurd (q0.symm.trans e2) (by decide)
  refine drw_mk fun w30 h30 _ => ?_
  replace X1' := X1'.up h30; replace X14 := X14.up h30; replace X23 := X23.up h30; replace P1 := P1.up h30; replace Q1 := Q1.up h30
  replace h := h.trans h30
  have s30 := h30.size
  refine flEx_mk (fun _ _ v w' => ∃ y : Hdr, v = hv y ∧ Sl w' y.1 y.2.1 y.2.2 5 (prc x12.2.1 ++ prc x21.2.1) ∧ Hi w30.heap.size y) (fun _ _ _ _ _ ⟨y, q1, q2, q3⟩ hb => ⟨y, q1, q2.up hb, q3⟩) ?_
  refine rd_boxN X14 (by kernel_rfl) rfl ?_
  refine rd_boxN X23 (by kernel_rfl) rfl ?_
  refine flc_mk (fun w34 hb _ => wr_lit tyPrs (prc x12.2.1 ++ prc x21.2.1).toArray (fill_pr2 _ _) (by omega) (by omega) rfl (by unfold maxLen; omega) fun ad w37 O hb2 hbk _ => ⟨hb2, (some ad, 2, 2), rfl, (O w34.heap.size (Nat.le_refl _)).sl, fun a ha => by cases ha; have := hb.size; omega⟩) (fun (x38 : Hdr) => ?_)
  refine flend_mk fun w39 hb hf => ?_
  obtain ⟨⟨y, ey, S, hS⟩, _⟩ := hf
  obtain rfl := sl_inj ey
  have s39 := hb.size
  replace X1' := X1'.up hb; replace P1 := P1.up hb; replace Q1 := Q1.up hb
  replace h := h.trans hb
  refine back ((none, 0, 0), (3, (none, 0, 0), k, m, x38, ()), 12, ()) w39 X1' h (.inr ⟨rfl, rfl, (⟨3, [], (k : Int), m, [p, q]⟩ : PN (PT n)), ?_, split_right hk (by omega) hl hh m1 m2 P2 Q2, ?_⟩)
  · refine ⟨⟨rfl, ⟨by show -9223372036854775808 ≤ (3 : Int); omega, by show (3 : Int) ≤ 9223372036854775807; omega⟩⟩, ⟨Sl.nil _ _, fun y hy => (by cases hy), fun ad ha => (by cases ha)⟩, ⟨rfl, ⟨by show _ ≤ (k : Int); omega, by show (k : Int) ≤ _; omega⟩⟩, ⟨rfl, ⟨by show _ ≤ m; omega, by show m ≤ _; omega⟩⟩, by show 2 ≤ 3; omega, fun ad ha => by have := hS ad ha; omega, [x12.2.1, x21.2.1], by simpa using S, rfl, fun i y kk hy hkk => ?_⟩
    match i, hy, hkk with
    | 0, hy, hkk =>
      have e1 : x12.2.1 = y := by simpa using hy
      have e2 : p = kk := by simpa using hkk
      rw [← e1, ← e2]; exact P1
    | 1, hy, hkk =>
      have e1 : x21.2.1 = y := by simpa using hy
      have e2 : q = kk := by simpa using hkk
      rw [← e1, ← e2]; exact Q1.mono (by omega)
    | i + 2, hy, _ => simp at hy
  · rw [split_size]; omega
end Go.Proofs.YtajpdnphamomjaaGreat

/- Halving a box until a row is contradicted: the walk of halve. -/

namespace Go.Proofs.YtajpdnphamomjaaGreat
open Go.RowKit Go.Q Go.Q.Num Go.V

theorem mul_bd {c a : Int} (hc : -1000000 ≤ c ∧ c ≤ 1000000) (ha : 0 ≤ a ∧ a ≤ 1000000000) : -1000000000000000 ≤ c * a ∧ c * a ≤ 1000000000000000 := by
  have h1 : c * a ≤ 1000000 * a := Int.mul_le_mul_of_nonneg_right hc.2 ha.1
  have h2 : -1000000 * a ≤ c * a := Int.mul_le_mul_of_nonneg_right hc.1 ha.1
  omega
theorem minI_bd {r ls hs : List Int} (hr : ∀ x ∈ r, -1000000 ≤ x ∧ x ≤ 1000000) (hw : ∀ k, 0 ≤ ls.getD k 0 ∧ hs.getD k 0 ≤ 1000000000) (hb : OkBox ls hs) : ∀ n : Nat, n ≤ r.length → (-(n : Int) * 1000000000000000 ≤ minI r ls hs n ∧ minI r ls hs n ≤ (n : Int) * 1000000000000000) ∧ (-(n : Int) * 1000000000000000 ≤ maxI r ls hs n ∧ maxI r ls hs n ≤ (n : Int) * 1000000000000000)
  | 0, _ => by simp [minI, maxI]
  | n + 1, h => by
    obtain ⟨⟨h1, h2⟩, h3, h4⟩ := minI_bd hr hw hb n (by omega)
    obtain ⟨c, hc⟩ : ∃ c, r[n]? = some c := ⟨_, List.getElem?_eq_getElem (by omega)⟩
    have hcb := hr c (mem_at hc)
    have hwn := hw n
    have hbn := hb n
    have b1 := mul_bd hcb (a := ls.getD n 0) (by omega)
    have b2 := mul_bd hcb (a := hs.getD n 0) (by omega)
    have e1 : minI r ls hs (n + 1) = minI r ls hs n + min (c * ls.getD n 0) (c * hs.getD n 0) := by show _ + _ = _; rw [getD_at hc]
    have e2 : maxI r ls hs (n + 1) = maxI r ls hs n + max (c * ls.getD n 0) (c * hs.getD n 0) := by show _ + _ = _; rw [getD_at hc]
    rw [e1, e2]
    refine ⟨⟨?_, ?_⟩, ⟨?_, ?_⟩⟩ <;> omega

set_option maxHeartbeats 3200000 in
theorem halveF (u r b : Hdr) (up : List Int) (T : List (List Int)) (rt : List Int) (hok : sysE up T rt = 0) (left : Int) (xa : Addr) : ∀ n, HalveC u r b up T rt left xa n
  | 0 => fun _ _ _ _ _ _ _ _ _ _ _ _ _ h => absurd h (Nat.not_lt_zero _)
  | n + 1 => by
    intro lo hi ls hs w H XA L U hl hh ob win hbit
    have IH := halveF u r b up T rt hok left xa n
    obtain ⟨hul, hTl, hR, hA⟩ := sysE_ok hok
    have pp := pts_pos ob up.length
    refine call_of (S21_calls (some xa) lo.1 lo.2.1 lo.2.2 hi.1 hi.2.1 hi.2.2 w _ ?_)
    unfold S21
    have hrl := H.r.len
    have hbl := H.b.int
    have hll := L.int
    have hhl := U.int
    have hAl := hA.1
    refine wr_alloc (z := .agg zpc.toArray) (by kernel_rfl) fun x1 w2 X1 h2 hx1 _ => ?_
    have hx1w : w.heap.size ≤ x1.block := by omega
    refine nn_mk rfl ?_
    replace XA := XA.up h2
    refine rd_box (by kernel_rfl) XA (i := 1) rfl rfl ?_
    -- what is kept
    let J : World → Prop := fun w' => Sys w' u r b up T rt ∧ Box w' xa (srcC u r b left) ∧ Sl w' lo.1 lo.2.1 lo.2.2 1 (ints .i64 ls) ∧ Sl w' hi.1 hi.2.1 hi.2.2 1 (ints .i64 hs) ∧ Box w' x1 zpc ∧ bel w w'
    have Jup : ∀ {a b : World}, J a → bel a b → J b := fun ⟨q1, q2, q3, q4, q5, q6⟩ hb => ⟨q1.up hb, q2.up hb, q3.up hb, q4.up hb, q5.up hb, q6.trans hb⟩
    have J0 : J w2 := ⟨H.up h2, XA, L.up h2, U.up h2, X1, h2⟩
    clear H XA L U X1 h2
    have wlo : ∀ x ∈ ls, Win x := fun x hx => by
      obtain ⟨j, hj⟩ := List.getElem?_of_mem hx
      have h1 := win j; have h2 := ob j; rw [getD_at hj] at h1 h2; exact ⟨by omega, by omega⟩
    have whi : ∀ x ∈ hs, Win x := fun x hx => by
      obtain ⟨j, hj⟩ := List.getElem?_of_mem hx
      have h1 := win j; have h2 := ob j; rw [getD_at hj] at h1 h2; exact ⟨by omega, by omega⟩
    have ole : ∀ (k : Nat) a b, ls[k]? = some a → hs[k]? = some b → a ≤ b := fun k a b ha hb => by have := ob k; rwa [getD_at ha, getD_at hb] at this
    -- what is handed back
    have back : ∀ (x : HX) (w' : World) (B : Nat), J w' → x1.block < B → w.heap.size ≤ B → HRes up T rt ls hs B (n + 1) (2 * ptsN ls hs up.length - 1).toNat x w' →
        wu Tryz.prog (Instr.storeAt 35 (.pointer (some x1)) (prv x.2.1)) w' fun w2 => rd Tryz.prog (loadVar 35 x1) (.agg [.int .i64, .slice, .int .i64, .int .i64, .slice]) w2 fun y =>
          ∃ v : HX, Value.tuple #[.slice x.1.1 x.1.2.1 x.1.2.2, prv y, .int .i64 x.2.2.1] = rHX.val v ∧ HRes up T rt ls hs w.heap.size (n + 1) (2 * ptsN ls hs up.length - 1).toNat v w2 ∧ bel w w2 := by
      intro x w' B ⟨_, _, _, _, X, hb⟩ hB hwB hr
      refine wu_box X (by kernel_rfl) (Nat.le_refl 5) rfl fun w3 X hg _ => ?_
      refine rd_boxV (show Box w3 x1 (prc x.2.1) from X) (by kernel_rfl) rfl ⟨x, rfl, ?_, hb.grownAt hg hx1w⟩
      rcases hr with ⟨e1, xs, q1, q2, q3⟩ | ⟨e1, e2, p, q1, q2, q3⟩
      · exact .inl ⟨e1, xs, q1.grown hg fun ad ha _ e => by (have := q2 ad ha); injection e; omega, fun ad ha => by have := q2 ad ha; omega, q3⟩
      · exact .inr ⟨e1, e2, p, (q1.grown hg fun j hj => by injection hj; omega).mono hwB, q2, q3⟩
    refine loop_up r.2.1 (fun i w' => J w' ∧ ∀ j, j < i → ∀ row y, T[j]? = some row → rt[j]? = some y → minI row ls hs up.length ≤ y ∧ y ≤ maxI row ls hs up.length) ⟨J0, fun j hj => absurd hj (Nat.not_lt_zero _)⟩ ?_
    clear J0
    rintro i w7 hile ⟨Jw, hrows⟩ again hag _
    refine br_dec (fun e => ?_) (fun e => ?_)
    · dsimp only at e
      have hi' : i < r.2.1 := by omega
      obtain ⟨H, XA, L, U, X1, h⟩ := Jw
      refine H.r.at tyTab (by kernel_rfl) (j := i) rfl (by omega) fun hr row hrow S => ?_
      have hrw := S.int
      have hrl2 := hA.2 row (mem_at hrow)
      have hcR := hR.2.2 row (mem_at hrow)
      refine loop_gh (G := Nat) (fun k s w' => s.1 = minI row ls hs k ∧ s.2.1 = maxI row ls hs k ∧ s.2.2.1 = (k : Int) ∧ k ≤ row.length ∧ J w' ∧ Sl w' hr.1 hr.2.1 hr.2.2 1 (ints .i64 row)) (fun k => row.length - k) 0 ⟨rfl, rfl, rfl, Nat.zero_le _, ⟨H, XA, L, U, X1, h⟩, S⟩ ?_
      clear H XA L U X1 h S
      rintro k ⟨s1, s2, s3, _⟩ w12 ⟨rfl, rfl, rfl, hk, Jw, S⟩ again2 hag2 _
      dsimp only at hk ⊢
      obtain ⟨⟨b1, b2⟩, b3, b4⟩ := minI_bd hcR win ob k hk
      refine br_dec (fun e2 => ?_) (fun e2 => ?_)
      · have hk' : k < row.length := by omega
        refine at_int tyI64 (by kernel_rfl) S (j := k) rfl (by omega) fun c hc => ?_
        have hcb := hcR c (mem_at hc)
        have hwk := win k
        have hbk := ob k
        refine drw_mk fun w15 hb _ => ?_
        have Jw15 := Jup Jw hb
        have S15 := S.up hb
        have L := Jw15.2.2.1
        have U := Jw15.2.2.2.1
        have m1 := mul_bd hcb (a := ls.getD k 0) (by omega)
        have m2 := mul_bd hcb (a := hs.getD k 0) (by omega)
        refine at_int tyI64 (by kernel_rfl) L (j := k) rfl (by omega) fun a ha => ?_
        have ga := getD_at ha
        refine z_i64 (by rw [← ga]; omega) ?_
        refine at_int tyI64 (by kernel_rfl) U (j := k) rfl (by omega) fun d hd => ?_
        have gd := getD_at hd
        refine z_i64 (by rw [← gd]; omega) ?_
        have emin : (if c * d < c * a then c * d else c * a) = min (row.getD k 0 * ls.getD k 0) (row.getD k 0 * hs.getD k 0) := by rw [getD_at hc, ga, gd]; split <;> omega
        have emax : (if c * d > c * a then c * d else c * a) = max (row.getD k 0 * ls.getD k 0) (row.getD k 0 * hs.getD k 0) := by rw [getD_at hc, ga, gd]; split <;> omega
        have gc := getD_at hc
        refine z_eq emin ?_
        refine z_i64 (by rw [gc]; omega) ?_
        refine at_int tyI64 (by kernel_rfl) L (j := k) rfl (by omega) fun a' ha' => ?_
        obtain rfl : a = a' := by rw [ha] at ha'; injection ha'
        refine z_i64 (by rw [← ga]; omega) ?_
        refine at_int tyI64 (by kernel_rfl) U (j := k) rfl (by omega) fun d' hd' => ?_
        obtain rfl : d = d' := by rw [hd] at hd'; injection hd'
        refine z_i64 (by rw [← gd]; omega) ?_
        refine z_eq emax ?_
        refine z_i64 (by rw [gc]; omega) ?_
        refine z_i64 (by omega) ?_
        exact hag2 (k + 1) _ _ ⟨rfl, rfl, rfl, hk', Jw15, S15⟩ (by omega)
      · have hk' : k = up.length := by omega
        subst hk'
        obtain ⟨H, XA, L, U, X1, h⟩ := Jw
        refine nn_mk rfl ?_
        refine rd_box (by kernel_rfl) XA (i := 2) rfl rfl ?_
        refine at_int tyI64 (by kernel_rfl) H.b (j := i) rfl (by omega) fun y hy => ?_
        have x1l := X1.lt
        have sz := h.size
        -- the proof at a contradicted row
        have bad : (y < minI row ls hs up.length ∨ maxI row ls hs up.length < y) → rd Tryz.prog (Instr.loadAt 29 (.pointer (some xa))) (.agg [.slice, .slice, .slice]) w12 fun x38 =>
            call Tryz.prog 38 [.agg #[.slice x38.1.1 x38.1.2.1 x38.1.2.2, .slice x38.2.1.1 x38.2.1.2.1 x38.2.1.2.2, .slice x38.2.2.1.1 x38.2.2.1.2.1 x38.2.2.1.2.2], .int .i64 (i : Int), .agg #[.int .i64 1, .int .i64 1]] (.one (.one .slice)) w12 fun x39 w40 =>
            wu Tryz.prog (Instr.storeAt 35 (.pointer (some x1)) (prv (lfv 1 x39))) w40 fun w2 => rd Tryz.prog (loadVar 35 x1) (.agg [.int .i64, .slice, .int .i64, .int .i64, .slice]) w2 fun y =>
            ∃ v : HX, Value.tuple #[.slice none 0 0, prv y, .int .i64 12] = rHX.val v ∧ HRes up T rt ls hs w.heap.size (n + 1) (2 * ptsN ls hs up.length - 1).toNat v w2 ∧ bel w w2 := by
          intro hout
          refine rd_cells (vs := sysc u r b) (by kernel_rfl) (fun j v hj => XA.cell ?_) rfl ?_
          · match j, hj with
            | 0, hj => exact hj
            | 1, hj => exact hj
            | 2, hj => exact hj
            | j + 3, hj => simp at hj
          refine call_mono (unitF u r b up T rt i 1 1 w12 H (by omega) (by omega)) ?_
          rintro x39 w40 ⟨S39, F39, hb⟩
          refine back ((none, 0, 0), lfv 1 x39, 12, ()) w40 w12.heap.size (Jup ⟨H, XA, L, U, X1, h⟩ hb) x1l sz (.inr ⟨rfl, rfl, (⟨1, unitM T.length i (1, 1), 0, 0, []⟩ : PN (PT n)), leafB n 1 i64_1 S39 (unit_i64 ⟨i64_1, i64_1⟩) F39, (right_1 (p := (⟨1, unitM T.length i (1, 1), 0, 0, []⟩ : PN (PT n))) rfl ⟨rfl, rfl, rfl⟩).2 (unit_bnd hok hrow hy hl hh ole wlo whi hout), ?_⟩)
          rw [leaf_size]; omega
        refine br_dec (fun e3 => ?_) (fun e3 => ?_)
        · refine nn_mk rfl ?_
          exact bad (.inl (by omega))
        refine nn_mk rfl ?_
        refine rd_box (by kernel_rfl) XA (i := 2) rfl rfl ?_
        refine at_int tyI64 (by kernel_rfl) H.b (j := i) rfl (by omega) fun y' hy' => ?_
        obtain rfl : y = y' := by rw [hy] at hy'; injection hy'
        refine br_dec (fun e4 => ?_) (fun e4 => ?_)
        · refine nn_mk rfl ?_
          exact bad (.inr (by omega))
        refine z_i64 (by omega) ?_
        refine hag _ hi' ⟨⟨H, XA, L, U, X1, h⟩, fun j hj row2 y2 hrow2 hy2 => ?_⟩
        rcases Nat.lt_or_ge j i with hji | hji
        · exact hrows j hji row2 y2 hrow2 hy2
        · have : j = i := by omega
          subst this
          rw [hrow] at hrow2; rw [hy] at hy2
          cases hrow2; cases hy2
          omega
    · dsimp only at e
      have hi' : i = r.2.1 := by omega
      replace hrows : ∀ (j : Nat) row y, T[j]? = some row → rt[j]? = some y → minI row ls hs up.length ≤ y ∧ y ≤ maxI row ls hs up.length := fun j row y h1 h2 => hrows j (by have := (List.getElem?_eq_some_iff.1 h1).1; omega) row y h1 h2
      refine loop_gh (G := Nat) (fun k s w' => s.2.1 = (k : Int) ∧ k ≤ up.length ∧ ((s.1 = -1 ∧ ∀ j, j < k → hs.getD j 0 ≤ ls.getD j 0) ∨ ∃ j : Nat, s.1 = (j : Int) ∧ j < up.length ∧ ls.getD j 0 < hs.getD j 0) ∧ J w') (fun k => up.length - k) 0 ⟨rfl, Nat.zero_le _, .inl ⟨rfl, fun j hj => absurd hj (Nat.not_lt_zero _)⟩, Jw⟩ ?_
      clear Jw
      rintro k ⟨s1, s2, _⟩ w56 ⟨rfl, hk, hs1, Jw⟩ again2 hag2 _
      dsimp only at hs1 ⊢
      refine br_dec (fun e2 => ?_) (fun e2 => ?_)
      · have hk' : k < up.length := by omega
        refine join_mk (fun s w' => ((s.1 = -1 ∧ ∀ j, j < k + 1 → hs.getD j 0 ≤ ls.getD j 0) ∨ ∃ j : Nat, s.1 = (j : Int) ∧ j < up.length ∧ ls.getD j 0 < hs.getD j 0) ∧ J w') (fun K hK => ?_) ?_
        · refine drw_mk fun w61 hb _ => ?_
          replace Jw := Jup Jw hb
          obtain ⟨H, XA, L, U, X1, h⟩ := Jw
          have rdU : ∀ {j : Nat} {K : Int → Prop}, j < up.length → K (hs.getD j 0) → rdp Tryz.prog (Instr.indexAt 26 (.slice hi.1 hi.2.1 hi.2.2) (.int .i64 (j : Int))) (.one .addr) fun ad => rd Tryz.prog (Instr.loadAt 2 (.pointer (some ad))) (.one (.int .i64)) w61 K := fun hj hK => at_int tyI64 (by kernel_rfl) U rfl (by omega) fun y hy => by rw [← getD_at hy]; exact hK
          have rdL : ∀ {j : Nat} {K : Int → Prop}, j < up.length → K (ls.getD j 0) → rdp Tryz.prog (Instr.indexAt 26 (.slice lo.1 lo.2.1 lo.2.2) (.int .i64 (j : Int))) (.one .addr) fun ad => rd Tryz.prog (Instr.loadAt 2 (.pointer (some ad))) (.one (.int .i64)) w61 K := fun hj hK => at_int tyI64 (by kernel_rfl) L rfl (by omega) fun y hy => by rw [← getD_at hy]; exact hK
          refine rdU hk' ?_
          refine rdL hk' ?_
          refine br_dec (fun e3 => ?_) (fun e3 => ?_)
          · refine br_dec (fun e4 => hK _ _ ⟨.inr ⟨k, rfl, hk', by omega⟩, H, XA, L, U, X1, h⟩) (fun e4 => ?_)
            rcases hs1 with ⟨q, _⟩ | ⟨j, rfl, hj, hjw⟩
            · omega
            refine rdU hk' ?_
            refine rdL hk' ?_
            have := win k; have := win j; have := ob k; have := ob j
            refine z_i64 (by omega) ?_
            refine rdU hj ?_
            refine rdL hj ?_
            refine z_i64 (by omega) ?_
            exact br_dec (fun e5 => hK _ _ ⟨.inr ⟨k, rfl, hk', by omega⟩, H, XA, L, U, X1, h⟩) (fun e5 => hK _ _ ⟨.inr ⟨j, rfl, hj, hjw⟩, H, XA, L, U, X1, h⟩)
          · refine hK _ _ ⟨?_, H, XA, L, U, X1, h⟩
            rcases hs1 with ⟨q, hq⟩ | hq
            · refine .inl ⟨q, fun j hj => ?_⟩
              rcases Nat.lt_or_ge j k with hjk | hjk
              · exact hq j hjk
              · have : j = k := by omega
                subst this; omega
            · exact .inr hq
        · rintro s w59 ⟨hs1, Jw⟩ _
          refine z_i64 (by omega) ?_
          exact hag2 (k + 1) _ _ ⟨rfl, hk', hs1, Jw⟩ (by omega)
      · have hk' : k = up.length := by omega
        subst hk'
        have x1l := Jw.2.2.2.2.1.lt
        have sz := Jw.2.2.2.2.2.size
        refine br_dec (fun e3 => ?_) (fun e3 => ?_)
        · rcases hs1 with ⟨_, hq⟩ | ⟨j, q, _⟩
          · refine call_mono (clone64 lo ls w56 Jw.2.2.1 (by omega)) ?_
            rintro (x76 : Hdr) w77 ⟨O, hb⟩
            refine back (x76, zprv, 0, ()) w77 w56.heap.size (Jup Jw hb) x1l sz (.inl ⟨rfl, ls, O.sl, fun ad ha => (O.lt ad.block (by rw [ha]; rfl)).1, point_pt hok hl hh (fun j => ?_) hrows⟩)
            have := ob j
            rcases Nat.lt_or_ge j up.length with hj | hj
            · have := hq j hj; omega
            · rw [List.getD_eq_getElem?_getD, List.getD_eq_getElem?_getD, List.getElem?_eq_none (by omega), List.getElem?_eq_none (by omega)]
          · omega
        · rcases hs1 with ⟨q, _⟩ | ⟨j, rfl, hj, hjw⟩
          · omega
          refine drw_mk fun w80 hb hsz => ?_
          replace Jw := Jup Jw hb
          obtain ⟨H, XA, L, U, X1, h⟩ := Jw
          have w1 := win j
          refine at_int tyI64 (by kernel_rfl) L (j := j) rfl (by omega) fun a ha => ?_
          refine at_int tyI64 (by kernel_rfl) U (j := j) rfl (by omega) fun d hd => ?_
          refine at_int tyI64 (by kernel_rfl) L (j := j) rfl (by omega) fun a' ha' => ?_
          obtain rfl : a = a' := by rw [ha] at ha'; injection ha'
          rw [getD_at ha, getD_at hd] at w1 hjw
          refine z_i64 (by omega) ?_
          refine rdp_quo (by decide) ?_
          have hq : (d - a).tdiv 2 = (d - a) / 2 := Int.tdiv_eq_ediv_of_nonneg (by omega)
          have hwq := IntWalk.i64_in ((d - a).tdiv 2) (by omega)
          rw [hwq]
          refine z_i64 (by omega) ?_
          refine call_mono (splitF u r b up T rt hok left xa n IH lo hi ls hs w80 H XA L U hl hh ob win hbit j (a + (d - a).tdiv 2) hj (by rw [getD_at ha, getD_at hd]; exact hjw) (by rw [getD_at ha, getD_at hd])) ?_
          rintro (x90 : HX) w91 ⟨R, hb2⟩
          exact back x90 w91 w80.heap.size (Jup ⟨H, XA, L, U, X1, h⟩ hb2) (by have := X1.lt; omega) (by have := h.size; omega) R
end Go.Proofs.YtajpdnphamomjaaGreat

/- The conditions of functions, printed by our tool; each is checked against the code by the kernel. -/



namespace Go.Proofs
open Go Go.V Go.RowKit
/-- querylab/integral.Solve -/
def S9 (s_0a : Option Addr) (s_0n : Nat) (s_0c : Nat) (s_1a : Option Addr) (s_1n : Nat) (s_1c : Nat) (s_2a : Option Addr) (s_2n : Nat) (s_2c : Nat) (w0 : World) (R : Value → World → Prop) : Prop :=
 wr Tryz.prog (Instr.box 29 (.agg #[(.slice s_0a s_0n s_0c), (.slice s_1a s_1n s_1c), (.slice s_2a s_2n s_2c)])) (.one .addr) w0 fun (x1 : Addr) (w2 : World) =>
 wr Tryz.prog (Instr.alloc 35 true (.tuple #[])) (.one .addr) w2 fun (x3 : Addr) (w4 : World) =>
 rd Tryz.prog (Instr.loadAt 29 (.pointer (some x1))) (.agg [.slice, .slice, .slice]) w4 fun (x5 : ((Option Addr × Nat × Nat) × (Option Addr × Nat × Nat) × (Option Addr × Nat × Nat) × Unit)) =>
 call Tryz.prog 18 [(.agg #[(.slice x5.1.1 x5.1.2.1 x5.1.2.2), (.slice x5.2.1.1 x5.2.1.2.1 x5.2.1.2.2), (.slice x5.2.2.1.1 x5.2.2.1.2.1 x5.2.2.1.2.2)])] (.one (.one (.int .i64))) w4 fun (x6 : Int) (w7 : World) =>
 br (x6 != 0) (wu Tryz.prog (Instr.storeAt 35 (.pointer (some x3)) (.agg #[(.int .i64 0), (.slice none 0 0), (.int .i64 0), (.int .i64 0), (.slice none 0 0)])) w7 fun (w8 : World) =>
 rd Tryz.prog (loadVar 35 x3) (.agg [(.int .i64), .slice, (.int .i64), (.int .i64), .slice]) w8 fun (x9 : (Int × (Option Addr × Nat × Nat) × Int × Int × (Option Addr × Nat × Nat) × Unit)) =>
 R (.tuple #[(.slice none 0 0), (.agg #[(.int .i64 x9.1), (.slice x9.2.1.1 x9.2.1.2.1 x9.2.1.2.2), (.int .i64 x9.2.2.1), (.int .i64 x9.2.2.2.1), (.slice x9.2.2.2.2.1.1 x9.2.2.2.2.1.2.1 x9.2.2.2.2.1.2.2)]), (.int .i64 x6)]) w8)
 (rd Tryz.prog (Instr.loadAt 29 (.pointer (some x1))) (.agg [.slice, .slice, .slice]) w7 fun (x10 : ((Option Addr × Nat × Nat) × (Option Addr × Nat × Nat) × (Option Addr × Nat × Nat) × Unit)) =>
 call Tryz.prog 19 [(.agg #[(.slice x10.1.1 x10.1.2.1 x10.1.2.2), (.slice x10.2.1.1 x10.2.1.2.1 x10.2.1.2.2), (.slice x10.2.2.1.1 x10.2.2.1.2.1 x10.2.2.1.2.2)])] (.many [(.agg [(.int .i64), .slice, (.int .i64), (.int .i64), .slice]), (.one .bool)]) w7 fun (x11 : ((Int × (Option Addr × Nat × Nat) × Int × Int × (Option Addr × Nat × Nat) × Unit) × Bool × Unit)) (w12 : World) =>
 wr Tryz.prog (Instr.alloc 35 true (.tuple #[])) (.one .addr) w12 fun (x13 : Addr) (w14 : World) =>
 wu Tryz.prog (Instr.storeAt 35 (.pointer (some x13)) (.agg #[(.int .i64 x11.1.1), (.slice x11.1.2.1.1 x11.1.2.1.2.1 x11.1.2.1.2.2), (.int .i64 x11.1.2.2.1), (.int .i64 x11.1.2.2.2.1), (.slice x11.1.2.2.2.2.1.1 x11.1.2.2.2.2.1.2.1 x11.1.2.2.2.2.1.2.2)])) w14 fun (w15 : World) =>
 br x11.2.1 (drw w15 fun w16 =>
 rd Tryz.prog (Instr.loadAt 35 (.pointer (some x13))) (.agg [(.int .i64), .slice, (.int .i64), (.int .i64), .slice]) w16 fun (x17 : (Int × (Option Addr × Nat × Nat) × Int × Int × (Option Addr × Nat × Nat) × Unit)) =>
 wu Tryz.prog (Instr.storeAt 35 (.pointer (some x3)) (.agg #[(.int .i64 x17.1), (.slice x17.2.1.1 x17.2.1.2.1 x17.2.1.2.2), (.int .i64 x17.2.2.1), (.int .i64 x17.2.2.2.1), (.slice x17.2.2.2.2.1.1 x17.2.2.2.2.1.2.1 x17.2.2.2.2.1.2.2)])) w16 fun (w18 : World) =>
 rd Tryz.prog (loadVar 35 x3) (.agg [(.int .i64), .slice, (.int .i64), (.int .i64), .slice]) w18 fun (x19 : (Int × (Option Addr × Nat × Nat) × Int × Int × (Option Addr × Nat × Nat) × Unit)) =>
 R (.tuple #[(.slice none 0 0), (.agg #[(.int .i64 x19.1), (.slice x19.2.1.1 x19.2.1.2.1 x19.2.1.2.2), (.int .i64 x19.2.2.1), (.int .i64 x19.2.2.2.1), (.slice x19.2.2.2.2.1.1 x19.2.2.2.2.1.2.1 x19.2.2.2.2.1.2.2)]), (.int .i64 12)]) w18)
 (rd Tryz.prog (Instr.loadAt 26 (.pointer (some x1))) (.one .slice) w15 fun (x20 : (Option Addr × Nat × Nat)) =>
 wr Tryz.prog (Instr.makeSlice 26 (.int .i64 ((x20.2.1 : Nat) : Int)) (.int .i64 ((x20.2.1 : Nat) : Int))) (.one .slice) w15 fun (x21 : (Option Addr × Nat × Nat)) (w22 : World) =>
 rd Tryz.prog (Instr.loadAt 29 (.pointer (some x1))) (.agg [.slice, .slice, .slice]) w22 fun (x23 : ((Option Addr × Nat × Nat) × (Option Addr × Nat × Nat) × (Option Addr × Nat × Nat) × Unit)) =>
 call Tryz.prog 20 [(.agg #[(.slice x23.1.1 x23.1.2.1 x23.1.2.2), (.slice x23.2.1.1 x23.2.1.2.1 x23.2.1.2.2), (.slice x23.2.2.1.1 x23.2.2.1.2.1 x23.2.2.1.2.2)])] (.many [(.one (.int .i64)), (.one .bool)]) w22 fun (x24 : (Int × Bool × Unit)) (w25 : World) =>
 br x24.2.1 (rd Tryz.prog (Instr.loadAt 29 (.pointer (some x1))) (.agg [.slice, .slice, .slice]) w25 fun (x26 : ((Option Addr × Nat × Nat) × (Option Addr × Nat × Nat) × (Option Addr × Nat × Nat) × Unit)) =>
 wr Tryz.prog (Instr.box 56 (.agg #[(.slice x26.1.1 x26.1.2.1 x26.1.2.2), (.slice x26.2.1.1 x26.2.1.2.1 x26.2.1.2.2), (.slice x26.2.2.1.1 x26.2.2.1.2.1 x26.2.2.1.2.2), (.int .i64 0)])) (.one .addr) w25 fun (x27 : Addr) (w28 : World) =>
 rd Tryz.prog (Instr.loadAt 26 (.pointer (some x1))) (.one .slice) w28 fun (x29 : (Option Addr × Nat × Nat)) =>
 call Tryz.prog 21 [(.pointer (some x27)), (.slice x21.1 x21.2.1 x21.2.2), (.slice x29.1 x29.2.1 x29.2.2)] (.many [(.one .slice), (.agg [(.int .i64), .slice, (.int .i64), (.int .i64), .slice]), (.one (.int .i64))]) w28 fun (x30 : ((Option Addr × Nat × Nat) × (Int × (Option Addr × Nat × Nat) × Int × Int × (Option Addr × Nat × Nat) × Unit) × Int × Unit)) (w31 : World) =>
 wu Tryz.prog (Instr.storeAt 35 (.pointer (some x3)) (.agg #[(.int .i64 x30.2.1.1), (.slice x30.2.1.2.1.1 x30.2.1.2.1.2.1 x30.2.1.2.1.2.2), (.int .i64 x30.2.1.2.2.1), (.int .i64 x30.2.1.2.2.2.1), (.slice x30.2.1.2.2.2.2.1.1 x30.2.1.2.2.2.2.1.2.1 x30.2.1.2.2.2.2.1.2.2)])) w31 fun (w32 : World) =>
 rd Tryz.prog (loadVar 35 x3) (.agg [(.int .i64), .slice, (.int .i64), (.int .i64), .slice]) w32 fun (x33 : (Int × (Option Addr × Nat × Nat) × Int × Int × (Option Addr × Nat × Nat) × Unit)) =>
 R (.tuple #[(.slice x30.1.1 x30.1.2.1 x30.1.2.2), (.agg #[(.int .i64 x33.1), (.slice x33.2.1.1 x33.2.1.2.1 x33.2.1.2.2), (.int .i64 x33.2.2.1), (.int .i64 x33.2.2.2.1), (.slice x33.2.2.2.2.1.1 x33.2.2.2.2.1.2.1 x33.2.2.2.2.1.2.2)]), (.int .i64 x30.2.2.1)]) w32)
 (rd Tryz.prog (Instr.loadAt 29 (.pointer (some x1))) (.agg [.slice, .slice, .slice]) w25 fun (x34 : ((Option Addr × Nat × Nat) × (Option Addr × Nat × Nat) × (Option Addr × Nat × Nat) × Unit)) =>
 wr Tryz.prog (Instr.box 56 (.agg #[(.slice x34.1.1 x34.1.2.1 x34.1.2.2), (.slice x34.2.1.1 x34.2.1.2.1 x34.2.1.2.2), (.slice x34.2.2.1.1 x34.2.2.1.2.1 x34.2.2.1.2.2), (.int .i64 300)])) (.one .addr) w25 fun (x35 : Addr) (w36 : World) =>
 rd Tryz.prog (Instr.loadAt 26 (.pointer (some x1))) (.one .slice) w36 fun (x37 : (Option Addr × Nat × Nat)) =>
 call Tryz.prog 22 [(.pointer (some x35)), (.slice x21.1 x21.2.1 x21.2.2), (.slice x37.1 x37.2.1 x37.2.2), (.int .i64 1)] (.many [(.one .slice), (.agg [(.int .i64), .slice, (.int .i64), (.int .i64), .slice]), (.one (.int .i64))]) w36 fun (x38 : ((Option Addr × Nat × Nat) × (Int × (Option Addr × Nat × Nat) × Int × Int × (Option Addr × Nat × Nat) × Unit) × Int × Unit)) (w39 : World) =>
 wu Tryz.prog (Instr.storeAt 35 (.pointer (some x3)) (.agg #[(.int .i64 x38.2.1.1), (.slice x38.2.1.2.1.1 x38.2.1.2.1.2.1 x38.2.1.2.1.2.2), (.int .i64 x38.2.1.2.2.1), (.int .i64 x38.2.1.2.2.2.1), (.slice x38.2.1.2.2.2.2.1.1 x38.2.1.2.2.2.2.1.2.1 x38.2.1.2.2.2.2.1.2.2)])) w39 fun (w40 : World) =>
 rd Tryz.prog (loadVar 35 x3) (.agg [(.int .i64), .slice, (.int .i64), (.int .i64), .slice]) w40 fun (x41 : (Int × (Option Addr × Nat × Nat) × Int × Int × (Option Addr × Nat × Nat) × Unit)) =>
 R (.tuple #[(.slice x38.1.1 x38.1.2.1 x38.1.2.2), (.agg #[(.int .i64 x41.1), (.slice x41.2.1.1 x41.2.1.2.1 x41.2.1.2.2), (.int .i64 x41.2.2.1), (.int .i64 x41.2.2.2.1), (.slice x41.2.2.2.2.1.1 x41.2.2.2.2.1.2.1 x41.2.2.2.2.1.2.2)]), (.int .i64 x38.2.2.1)]) w40)))
def H9 : Hints := ⟨[], [(6, 2)], [], []⟩
set_option maxRecDepth 100000 in
theorem S9_eq (s_0a : Option Addr) (s_0n : Nat) (s_0c : Nat) (s_1a : Option Addr) (s_1n : Nat) (s_1c : Nat) (s_2a : Option Addr) (s_2n : Nat) (s_2c : Nat) (w0 : World) (R : Value → World → Prop) : vcFn Tryz.prog H9 Tryz.f9 [(.agg #[(.slice s_0a s_0n s_0c), (.slice s_1a s_1n s_1c), (.slice s_2a s_2n s_2c)])] w0 R = S9 s_0a s_0n s_0c s_1a s_1n s_1c s_2a s_2n s_2c w0 R := by kernel_rfl
set_option maxRecDepth 100000 in
theorem S9_calls (s_0a : Option Addr) (s_0n : Nat) (s_0c : Nat) (s_1a : Option Addr) (s_1n : Nat) (s_1c : Nat) (s_2a : Option Addr) (s_2n : Nat) (s_2c : Nat) (w0 : World) (R : Value → World → Prop) (h : S9 s_0a s_0n s_0c s_1a s_1n s_1c s_2a s_2n s_2c w0 R) : Calls Tryz.prog 9 #[(.agg #[(.slice s_0a s_0n s_0c), (.slice s_1a s_1n s_1c), (.slice s_2a s_2n s_2c)])] w0 (ret R) := by
  rw [← S9_eq] at h; exact vcFn_sound follows_ Tryz.func9 h

/-- querylab/querylabmade.Solvable -/
def S12 (s_0a : Option Addr) (s_0n : Nat) (s_0c : Nat) (s_1a : Option Addr) (s_1n : Nat) (s_1c : Nat) (s_2a : Option Addr) (s_2n : Nat) (s_2c : Nat) (w0 : World) (R : Value → World → Prop) : Prop :=
 wr Tryz.prog (Instr.box 29 (.agg #[(.slice s_0a s_0n s_0c), (.slice s_1a s_1n s_1c), (.slice s_2a s_2n s_2c)])) (.one .addr) w0 fun (x1 : Addr) (w2 : World) =>
 rd Tryz.prog (Instr.loadAt 26 (.pointer (some x1))) (.one .slice) w2 fun (x3 : (Option Addr × Nat × Nat)) =>
 wr Tryz.prog (Instr.makeSlice 26 (.int .i64 ((x3.2.1 : Nat) : Int)) (.int .i64 ((x3.2.1 : Nat) : Int))) (.one .slice) w2 fun (x4 : (Option Addr × Nat × Nat)) (w5 : World) =>
 loop (T := (Unit)) (()) w5 fun (again6 : (Unit) → World → Prop) (_s7 : (Unit)) w8 => ∀ _ : Nat → Value,
 loop (T := (Bool × Int × Unit)) (true, 0, ()) w8 fun (again9 : (Bool × Int × Unit) → World → Prop) (s10 : (Bool × Int × Unit)) w11 => ∀ _ : Nat → Value,
 rd Tryz.prog (Instr.loadAt 27 (.pointer (some (Addr.add x1 1)))) (.one .slice) w11 fun (x12 : (Option Addr × Nat × Nat)) =>
 br (decide (s10.2.1 < ((x12.2.1 : Nat) : Int))) (loop (T := (Int × Int × Unit)) (0, 0, ()) w11 fun (again13 : (Int × Int × Unit) → World → Prop) (s14 : (Int × Int × Unit)) w15 => ∀ _ : Nat → Value,
 br (decide (s14.2.1 < ((x4.2.1 : Nat) : Int))) (drw w15 fun w16 =>
 rd Tryz.prog (Instr.loadAt 27 (.pointer (some (Addr.add x1 1)))) (.one .slice) w16 fun (x17 : (Option Addr × Nat × Nat)) =>
 rdp Tryz.prog (Instr.indexAt 27 (.slice x17.1 x17.2.1 x17.2.2) (.int .i64 s10.2.1)) (.one .addr) fun (x18 : Addr) =>
 rd Tryz.prog (Instr.loadAt 26 (.pointer (some x18))) (.one .slice) w16 fun (x19 : (Option Addr × Nat × Nat)) =>
 rdp Tryz.prog (Instr.indexAt 26 (.slice x19.1 x19.2.1 x19.2.2) (.int .i64 s14.2.1)) (.one .addr) fun (x20 : Addr) =>
 rd Tryz.prog (Instr.loadAt 2 (.pointer (some x20))) (.one (.int .i64)) w16 fun (x21 : Int) =>
 rdp Tryz.prog (Instr.indexAt 26 (.slice x4.1 x4.2.1 x4.2.2) (.int .i64 s14.2.1)) (.one .addr) fun (x22 : Addr) =>
 rd Tryz.prog (Instr.loadAt 2 (.pointer (some x22))) (.one (.int .i64)) w16 fun (x23 : Int) =>
 z (IntKind.wrap .i64 (x21 * x23)) fun (z24 : Int) =>
 z (IntKind.wrap .i64 (s14.1 + z24)) fun (z25 : Int) =>
 z (IntKind.wrap .i64 (s14.2.1 + 1)) fun (z26 : Int) =>
 again13 (z25, z26, ()) w16)
 (br s10.1 (rd Tryz.prog (Instr.loadAt 26 (.pointer (some (Addr.add x1 2)))) (.one .slice) w15 fun (x27 : (Option Addr × Nat × Nat)) =>
 rdp Tryz.prog (Instr.indexAt 26 (.slice x27.1 x27.2.1 x27.2.2) (.int .i64 s10.2.1)) (.one .addr) fun (x28 : Addr) =>
 rd Tryz.prog (Instr.loadAt 2 (.pointer (some x28))) (.one (.int .i64)) w15 fun (x29 : Int) =>
 z (IntKind.wrap .i64 (s10.2.1 + 1)) fun (z30 : Int) =>
 again9 ((s14.1 == x29), z30, ()) w15)
 (z (IntKind.wrap .i64 (s10.2.1 + 1)) fun (z31 : Int) =>
 again9 (false, z31, ()) w15)))
 (br s10.1 (R (.bool true) w11)
 (join (T := (Int × Unit)) (fun (s33 : (Int × Unit)) w34 => ∀ _ : Nat → Value,
 br (s33.1 == ((x4.2.1 : Nat) : Int)) (R (.bool false) w34)
 (rdp Tryz.prog (Instr.indexAt 26 (.slice x4.1 x4.2.1 x4.2.2) (.int .i64 s33.1)) (.one .addr) fun (x35 : Addr) =>
 rd Tryz.prog (Instr.loadAt 2 (.pointer (some x35))) (.one (.int .i64)) w34 fun (x36 : Int) =>
 z (IntKind.wrap .i64 (x36 + 1)) fun (z37 : Int) =>
 rdp Tryz.prog (Instr.indexAt 26 (.slice x4.1 x4.2.1 x4.2.2) (.int .i64 s33.1)) (.one .addr) fun (x38 : Addr) =>
 wu Tryz.prog (Instr.storeAt 2 (.pointer (some x38)) (.int .i64 z37)) w34 fun (w39 : World) =>
 again6 (()) w39))
  fun (K32 : (Int × Unit) → World → Prop) =>
 loop (T := (Int × Unit)) (0, ()) w11 fun (again40 : (Int × Unit) → World → Prop) (s41 : (Int × Unit)) w42 => ∀ _ : Nat → Value,
 drw w42 fun w43 =>
 br (decide (s41.1 < ((x4.2.1 : Nat) : Int))) (rdp Tryz.prog (Instr.indexAt 26 (.slice x4.1 x4.2.1 x4.2.2) (.int .i64 s41.1)) (.one .addr) fun (x44 : Addr) =>
 rd Tryz.prog (Instr.loadAt 2 (.pointer (some x44))) (.one (.int .i64)) w43 fun (x45 : Int) =>
 rd Tryz.prog (Instr.loadAt 26 (.pointer (some x1))) (.one .slice) w43 fun (x46 : (Option Addr × Nat × Nat)) =>
 rdp Tryz.prog (Instr.indexAt 26 (.slice x46.1 x46.2.1 x46.2.2) (.int .i64 s41.1)) (.one .addr) fun (x47 : Addr) =>
 rd Tryz.prog (Instr.loadAt 2 (.pointer (some x47))) (.one (.int .i64)) w43 fun (x48 : Int) =>
 br (x45 == x48) (rdp Tryz.prog (Instr.indexAt 26 (.slice x4.1 x4.2.1 x4.2.2) (.int .i64 s41.1)) (.one .addr) fun (x49 : Addr) =>
 wu Tryz.prog (Instr.storeAt 2 (.pointer (some x49)) (.int .i64 0)) w43 fun (w50 : World) =>
 z (IntKind.wrap .i64 (s41.1 + 1)) fun (z51 : Int) =>
 again40 (z51, ()) w50)
 (K32 (s41.1, ()) w43))
 (K32 (s41.1, ()) w43)))
def H12 : Hints := ⟨[(2, 0, []), (2, 2, [(4, (.one .bool)), (5, (.one (.int .i64)))]), (2, 4, [(6, (.one (.int .i64))), (7, (.one (.int .i64)))]), (2, 6, [(8, (.one (.int .i64)))]), (1, 6, [(8, (.one (.int .i64)))])], [(10, 13), (15, 14)], [], []⟩
set_option maxRecDepth 100000 in
theorem S12_eq (s_0a : Option Addr) (s_0n : Nat) (s_0c : Nat) (s_1a : Option Addr) (s_1n : Nat) (s_1c : Nat) (s_2a : Option Addr) (s_2n : Nat) (s_2c : Nat) (w0 : World) (R : Value → World → Prop) : vcFn Tryz.prog H12 Tryz.f12 [(.agg #[(.slice s_0a s_0n s_0c), (.slice s_1a s_1n s_1c), (.slice s_2a s_2n s_2c)])] w0 R = S12 s_0a s_0n s_0c s_1a s_1n s_1c s_2a s_2n s_2c w0 R := by kernel_rfl
set_option maxRecDepth 100000 in
theorem S12_calls (s_0a : Option Addr) (s_0n : Nat) (s_0c : Nat) (s_1a : Option Addr) (s_1n : Nat) (s_1c : Nat) (s_2a : Option Addr) (s_2n : Nat) (s_2c : Nat) (w0 : World) (R : Value → World → Prop) (h : S12 s_0a s_0n s_0c s_1a s_1n s_1c s_2a s_2n s_2c w0 R) : Calls Tryz.prog 12 #[(.agg #[(.slice s_0a s_0n s_0c), (.slice s_1a s_1n s_1c), (.slice s_2a s_2n s_2c)])] w0 (ret R) := by
  rw [← S12_eq] at h; exact vcFn_sound follows_ Tryz.func12 h

/-- querylab/querylablaw12.IntegralNarrow -/
def S4 (upper_ : Int) (right_ : Int) (c_ : Int) (more_ : Int) (w0 : World) (R : Value → World → Prop) : Prop :=
 rdp Tryz.prog (cmpS .rem 43 (.tmp 14) (.const (.int .u16 500)) (.int .u16 upper_) (.int .u16 500)) (.one (.int .u16)) fun (x1 : Int) =>
 z (IntKind.wrap .i64 x1) fun (z2 : Int) =>
 wr Tryz.prog (Instr.buildSlice 26 1 #[(0, (.int .i64 z2))]) (.one .slice) w0 fun (x3 : (Option Addr × Nat × Nat)) (w4 : World) =>
 z (IntKind.wrap .i64 c_) fun (z5 : Int) =>
 wr Tryz.prog (Instr.buildSlice 26 1 #[(0, (.int .i64 z5))]) (.one .slice) w4 fun (x6 : (Option Addr × Nat × Nat)) (w7 : World) =>
 z (IntKind.wrap .i64 more_) fun (z8 : Int) =>
 wr Tryz.prog (Instr.buildSlice 26 1 #[(0, (.int .i64 z8))]) (.one .slice) w7 fun (x9 : (Option Addr × Nat × Nat)) (w10 : World) =>
 wr Tryz.prog (Instr.buildSlice 27 2 #[(0, (.slice x6.1 x6.2.1 x6.2.2)), (1, (.slice x9.1 x9.2.1 x9.2.2))]) (.one .slice) w10 fun (x11 : (Option Addr × Nat × Nat)) (w12 : World) =>
 rdp Tryz.prog (cmpS .rem 43 (.tmp 26) (.const (.int .u16 1000)) (.int .u16 right_) (.int .u16 1000)) (.one (.int .u16)) fun (x13 : Int) =>
 z (IntKind.wrap .i64 x13) fun (z14 : Int) =>
 rdp Tryz.prog (cmpS .rem 43 (.tmp 29) (.const (.int .u16 7)) (.int .u16 right_) (.int .u16 7)) (.one (.int .u16)) fun (x15 : Int) =>
 z (IntKind.wrap .i64 x15) fun (z16 : Int) =>
 z (IntKind.wrap .i64 more_) fun (z17 : Int) =>
 z (IntKind.wrap .i64 (z16 * z17)) fun (z18 : Int) =>
 wr Tryz.prog (Instr.buildSlice 26 2 #[(0, (.int .i64 z14)), (1, (.int .i64 z18))]) (.one .slice) w12 fun (x19 : (Option Addr × Nat × Nat)) (w20 : World) =>
 wr Tryz.prog (Instr.alloc 29 true (.tuple #[])) (.one .addr) w20 fun (x21 : Addr) (w22 : World) =>
 wu Tryz.prog (Instr.storeAt 29 (.pointer (some x21)) (.agg #[(.slice x3.1 x3.2.1 x3.2.2), (.slice x11.1 x11.2.1 x11.2.2), (.slice x19.1 x19.2.1 x19.2.2)])) w22 fun (w23 : World) =>
 rd Tryz.prog (Instr.loadAt 29 (.pointer (some x21))) (.agg [.slice, .slice, .slice]) w23 fun (x24 : ((Option Addr × Nat × Nat) × (Option Addr × Nat × Nat) × (Option Addr × Nat × Nat) × Unit)) =>
 call Tryz.prog 9 [(.agg #[(.slice x24.1.1 x24.1.2.1 x24.1.2.2), (.slice x24.2.1.1 x24.2.1.2.1 x24.2.1.2.2), (.slice x24.2.2.1.1 x24.2.2.1.2.1 x24.2.2.1.2.2)])] (.many [(.one .slice), (.agg [(.int .i64), .slice, (.int .i64), (.int .i64), .slice]), (.one (.int .i64))]) w23 fun (x25 : ((Option Addr × Nat × Nat) × (Int × (Option Addr × Nat × Nat) × Int × Int × (Option Addr × Nat × Nat) × Unit) × Int × Unit)) (w26 : World) =>
 wr Tryz.prog (Instr.alloc 35 true (.tuple #[])) (.one .addr) w26 fun (x27 : Addr) (w28 : World) =>
 wu Tryz.prog (Instr.storeAt 35 (.pointer (some x27)) (.agg #[(.int .i64 x25.2.1.1), (.slice x25.2.1.2.1.1 x25.2.1.2.1.2.1 x25.2.1.2.1.2.2), (.int .i64 x25.2.1.2.2.1), (.int .i64 x25.2.1.2.2.2.1), (.slice x25.2.1.2.2.2.2.1.1 x25.2.1.2.2.2.2.1.2.1 x25.2.1.2.2.2.2.1.2.2)])) w28 fun (w29 : World) =>
 rd Tryz.prog (Instr.loadAt 29 (.pointer (some x21))) (.agg [.slice, .slice, .slice]) w29 fun (x30 : ((Option Addr × Nat × Nat) × (Option Addr × Nat × Nat) × (Option Addr × Nat × Nat) × Unit)) =>
 call Tryz.prog 12 [(.agg #[(.slice x30.1.1 x30.1.2.1 x30.1.2.2), (.slice x30.2.1.1 x30.2.1.2.1 x30.2.1.2.2), (.slice x30.2.2.1.1 x30.2.2.1.2.1 x30.2.2.1.2.2)])] (.one (.one .bool)) w29 fun (x31 : Bool) (w32 : World) =>
 br x31 (br (x25.2.2.1 == 0) (rd Tryz.prog (Instr.loadAt 29 (.pointer (some x21))) (.agg [.slice, .slice, .slice]) w32 fun (x33 : ((Option Addr × Nat × Nat) × (Option Addr × Nat × Nat) × (Option Addr × Nat × Nat) × Unit)) =>
 call Tryz.prog 10 [(.agg #[(.slice x33.1.1 x33.1.2.1 x33.1.2.2), (.slice x33.2.1.1 x33.2.1.2.1 x33.2.1.2.2), (.slice x33.2.2.1.1 x33.2.2.1.2.1 x33.2.2.1.2.2)]), (.slice x25.1.1 x25.1.2.1 x25.1.2.2)] (.one (.one .bool)) w32 fun (x34 : Bool) (w35 : World) =>
 R (.bool x34) w35)
 (R (.bool false) w32))
 (br (x25.2.2.1 == 12) (rd Tryz.prog (Instr.loadAt 29 (.pointer (some x21))) (.agg [.slice, .slice, .slice]) w32 fun (x36 : ((Option Addr × Nat × Nat) × (Option Addr × Nat × Nat) × (Option Addr × Nat × Nat) × Unit)) =>
 rd Tryz.prog (Instr.loadAt 35 (.pointer (some x27))) (.agg [(.int .i64), .slice, (.int .i64), (.int .i64), .slice]) w32 fun (x37 : (Int × (Option Addr × Nat × Nat) × Int × Int × (Option Addr × Nat × Nat) × Unit)) =>
 call Tryz.prog 11 [(.agg #[(.slice x36.1.1 x36.1.2.1 x36.1.2.2), (.slice x36.2.1.1 x36.2.1.2.1 x36.2.1.2.2), (.slice x36.2.2.1.1 x36.2.2.1.2.1 x36.2.2.1.2.2)]), (.agg #[(.int .i64 x37.1), (.slice x37.2.1.1 x37.2.1.2.1 x37.2.1.2.2), (.int .i64 x37.2.2.1), (.int .i64 x37.2.2.2.1), (.slice x37.2.2.2.2.1.1 x37.2.2.2.2.1.2.1 x37.2.2.2.2.1.2.2)])] (.one (.one .bool)) w32 fun (x38 : Bool) (w39 : World) =>
 R (.bool x38) w39)
 (R (.bool false) w32))
def H4 : Hints := ⟨[], [], [], []⟩
set_option maxRecDepth 100000 in
theorem S4_eq (upper_ : Int) (right_ : Int) (c_ : Int) (more_ : Int) (w0 : World) (R : Value → World → Prop) : vcFn Tryz.prog H4 Tryz.f4 [(.int .u16 upper_), (.int .u16 right_), (.int .i8 c_), (.int .i8 more_)] w0 R = S4 upper_ right_ c_ more_ w0 R := by kernel_rfl
set_option maxRecDepth 100000 in
theorem S4_calls (upper_ : Int) (right_ : Int) (c_ : Int) (more_ : Int) (w0 : World) (R : Value → World → Prop) (h : S4 upper_ right_ c_ more_ w0 R) : Calls Tryz.prog 4 #[(.int .u16 upper_), (.int .u16 right_), (.int .i8 c_), (.int .i8 more_)] w0 (ret R) := by
  rw [← S4_eq] at h; exact vcFn_sound follows_ Tryz.func4 h

end Go.Proofs
