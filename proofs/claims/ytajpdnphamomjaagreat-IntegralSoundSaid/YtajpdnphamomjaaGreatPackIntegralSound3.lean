import Derived.KernelRfl
import Derived.Test.YtajpdnphamomjaaGreatOpen
import Derived.DataReads
import Derived.Test.YtajpdnphamomjaaGreatPackIntegralSound2

/- The conditions of functions, printed by our tool; each is checked against the code by the kernel. -/



namespace Go.Proofs
open Go Go.V Go.RowKit
/-- querylab/querylablaw11.Few -/
def S13 (s_0a : Option Addr) (s_0n : Nat) (s_0c : Nat) (s_1a : Option Addr) (s_1n : Nat) (s_1c : Nat) (s_2a : Option Addr) (s_2n : Nat) (s_2c : Nat) (w0 : World) (R : Value → World → Prop) : Prop :=
 wr Tryz.prog (Instr.box 29 (.agg #[(.slice s_0a s_0n s_0c), (.slice s_1a s_1n s_1c), (.slice s_2a s_2n s_2c)])) (.one .addr) w0 fun (x1 : Addr) (w2 : World) =>
 rd Tryz.prog (Instr.loadAt 26 (.pointer (some x1))) (.one .slice) w2 fun (x3 : (Option Addr × Nat × Nat)) =>
 br (decide (((x3.2.1 : Nat) : Int) > 12)) (R (.bool false) w2)
 (rd Tryz.prog (Instr.loadAt 27 (.pointer (some (Addr.add x1 1)))) (.one .slice) w2 fun (x4 : (Option Addr × Nat × Nat)) =>
 br (decide (((x4.2.1 : Nat) : Int) > 8)) (R (.bool false) w2)
 (rd Tryz.prog (Instr.loadAt 26 (.pointer (some (Addr.add x1 2)))) (.one .slice) w2 fun (x5 : (Option Addr × Nat × Nat)) =>
 br (decide (((x5.2.1 : Nat) : Int) > 12)) (R (.bool false) w2)
 (loop (T := (Int × Unit)) (0, ()) w2 fun (again6 : (Int × Unit) → World → Prop) (s7 : (Int × Unit)) w8 => ∀ _ : Nat → Value,
 rd Tryz.prog (Instr.loadAt 27 (.pointer (some (Addr.add x1 1)))) (.one .slice) w8 fun (x9 : (Option Addr × Nat × Nat)) =>
 br (decide (s7.1 < ((x9.2.1 : Nat) : Int))) (rd Tryz.prog (Instr.loadAt 27 (.pointer (some (Addr.add x1 1)))) (.one .slice) w8 fun (x10 : (Option Addr × Nat × Nat)) =>
 rdp Tryz.prog (Instr.indexAt 27 (.slice x10.1 x10.2.1 x10.2.2) (.int .i64 s7.1)) (.one .addr) fun (x11 : Addr) =>
 rd Tryz.prog (Instr.loadAt 26 (.pointer (some x11))) (.one .slice) w8 fun (x12 : (Option Addr × Nat × Nat)) =>
 br (decide (((x12.2.1 : Nat) : Int) > 12)) (R (.bool false) w8)
 (z (IntKind.wrap .i64 (s7.1 + 1)) fun (z13 : Int) =>
 again6 (z13, ()) w8))
 (R (.bool true) w8))))
def H13 : Hints := ⟨[(2, 0, [(3, (.one (.int .i64)))])], [], [], []⟩
set_option maxRecDepth 100000 in
theorem S13_eq (s_0a : Option Addr) (s_0n : Nat) (s_0c : Nat) (s_1a : Option Addr) (s_1n : Nat) (s_1c : Nat) (s_2a : Option Addr) (s_2n : Nat) (s_2c : Nat) (w0 : World) (R : Value → World → Prop) : vcFn Tryz.prog H13 Tryz.f13 [(.agg #[(.slice s_0a s_0n s_0c), (.slice s_1a s_1n s_1c), (.slice s_2a s_2n s_2c)])] w0 R = S13 s_0a s_0n s_0c s_1a s_1n s_1c s_2a s_2n s_2c w0 R := by kernel_rfl
set_option maxRecDepth 100000 in
theorem S13_calls (s_0a : Option Addr) (s_0n : Nat) (s_0c : Nat) (s_1a : Option Addr) (s_1n : Nat) (s_1c : Nat) (s_2a : Option Addr) (s_2n : Nat) (s_2c : Nat) (w0 : World) (R : Value → World → Prop) (h : S13 s_0a s_0n s_0c s_1a s_1n s_1c s_2a s_2n s_2c w0 R) : Calls Tryz.prog 13 #[(.agg #[(.slice s_0a s_0n s_0c), (.slice s_1a s_1n s_1c), (.slice s_2a s_2n s_2c)])] w0 (ret R) := by
  rw [← S13_eq] at h; exact vcFn_sound follows_ Tryz.func13 h

/-- querylab/querylabref11.within -/
def S27 (n_ : Int) (most_ : Int) (w0 : World) (R : Value → World → Prop) : Prop :=
 z (IntKind.wrap .i64 (0 - most_)) fun (z1 : Int) =>
 br (decide (n_ ≥ z1)) (R (.bool (decide (n_ ≤ most_))) w0)
 (R (.bool false) w0)
def H27 : Hints := ⟨[], [], [], []⟩
set_option maxRecDepth 100000 in
theorem S27_eq (n_ : Int) (most_ : Int) (w0 : World) (R : Value → World → Prop) : vcFn Tryz.prog H27 Tryz.f27 [(.int .i64 n_), (.int .i64 most_)] w0 R = S27 n_ most_ w0 R := by kernel_rfl
set_option maxRecDepth 100000 in
theorem S27_calls (n_ : Int) (most_ : Int) (w0 : World) (R : Value → World → Prop) (h : S27 n_ most_ w0 R) : Calls Tryz.prog 27 #[(.int .i64 n_), (.int .i64 most_)] w0 (ret R) := by
  rw [← S27_eq] at h; exact vcFn_sound follows_ Tryz.func27 h

/-- querylab/querylabref11.Valid -/
def S14 (s_0a : Option Addr) (s_0n : Nat) (s_0c : Nat) (s_1a : Option Addr) (s_1n : Nat) (s_1c : Nat) (s_2a : Option Addr) (s_2n : Nat) (s_2c : Nat) (w0 : World) (R : Value → World → Prop) : Prop :=
 wr Tryz.prog (Instr.box 29 (.agg #[(.slice s_0a s_0n s_0c), (.slice s_1a s_1n s_1c), (.slice s_2a s_2n s_2c)])) (.one .addr) w0 fun (x1 : Addr) (w2 : World) =>
 rd Tryz.prog (Instr.loadAt 26 (.pointer (some x1))) (.one .slice) w2 fun (x3 : (Option Addr × Nat × Nat)) =>
 br (decide (((x3.2.1 : Nat) : Int) > 200)) (R (.int .i64 8) w2)
 (rd Tryz.prog (Instr.loadAt 27 (.pointer (some (Addr.add x1 1)))) (.one .slice) w2 fun (x4 : (Option Addr × Nat × Nat)) =>
 br (decide (((x4.2.1 : Nat) : Int) > 100)) (R (.int .i64 8) w2)
 (loop (T := (Int × Unit)) (0, ()) w2 fun (again5 : (Int × Unit) → World → Prop) (s6 : (Int × Unit)) w7 => ∀ _ : Nat → Value,
 rd Tryz.prog (Instr.loadAt 26 (.pointer (some x1))) (.one .slice) w7 fun (x8 : (Option Addr × Nat × Nat)) =>
 br (decide (s6.1 < ((x8.2.1 : Nat) : Int))) (rd Tryz.prog (Instr.loadAt 26 (.pointer (some x1))) (.one .slice) w7 fun (x9 : (Option Addr × Nat × Nat)) =>
 rdp Tryz.prog (Instr.indexAt 26 (.slice x9.1 x9.2.1 x9.2.2) (.int .i64 s6.1)) (.one .addr) fun (x10 : Addr) =>
 rd Tryz.prog (Instr.loadAt 2 (.pointer (some x10))) (.one (.int .i64)) w7 fun (x11 : Int) =>
 br (decide (x11 < 0)) (R (.int .i64 8) w7)
 (rd Tryz.prog (Instr.loadAt 26 (.pointer (some x1))) (.one .slice) w7 fun (x12 : (Option Addr × Nat × Nat)) =>
 rdp Tryz.prog (Instr.indexAt 26 (.slice x12.1 x12.2.1 x12.2.2) (.int .i64 s6.1)) (.one .addr) fun (x13 : Addr) =>
 rd Tryz.prog (Instr.loadAt 2 (.pointer (some x13))) (.one (.int .i64)) w7 fun (x14 : Int) =>
 br (decide (x14 > 1000000000)) (R (.int .i64 8) w7)
 (z (IntKind.wrap .i64 (s6.1 + 1)) fun (z15 : Int) =>
 again5 (z15, ()) w7)))
 (loop (T := (Int × Unit)) (0, ()) w7 fun (again16 : (Int × Unit) → World → Prop) (s17 : (Int × Unit)) w18 => ∀ _ : Nat → Value,
 rd Tryz.prog (Instr.loadAt 26 (.pointer (some (Addr.add x1 2)))) (.one .slice) w18 fun (x19 : (Option Addr × Nat × Nat)) =>
 br (decide (s17.1 < ((x19.2.1 : Nat) : Int))) (rd Tryz.prog (Instr.loadAt 26 (.pointer (some (Addr.add x1 2)))) (.one .slice) w18 fun (x20 : (Option Addr × Nat × Nat)) =>
 rdp Tryz.prog (Instr.indexAt 26 (.slice x20.1 x20.2.1 x20.2.2) (.int .i64 s17.1)) (.one .addr) fun (x21 : Addr) =>
 rd Tryz.prog (Instr.loadAt 2 (.pointer (some x21))) (.one (.int .i64)) w18 fun (x22 : Int) =>
 call Tryz.prog 27 [(.int .i64 x22), (.int .i64 1000000000)] (.one (.one .bool)) w18 fun (x23 : Bool) (w24 : World) =>
 br (!x23) (R (.int .i64 8) w24)
 (z (IntKind.wrap .i64 (s17.1 + 1)) fun (z25 : Int) =>
 again16 (z25, ()) w24))
 (loop (T := (Int × Unit)) (0, ()) w18 fun (again26 : (Int × Unit) → World → Prop) (s27 : (Int × Unit)) w28 => ∀ _ : Nat → Value,
 rd Tryz.prog (Instr.loadAt 27 (.pointer (some (Addr.add x1 1)))) (.one .slice) w28 fun (x29 : (Option Addr × Nat × Nat)) =>
 br (decide (s27.1 < ((x29.2.1 : Nat) : Int))) (loop (T := (Int × Unit)) (0, ()) w28 fun (again30 : (Int × Unit) → World → Prop) (s31 : (Int × Unit)) w32 => ∀ _ : Nat → Value,
 rd Tryz.prog (Instr.loadAt 27 (.pointer (some (Addr.add x1 1)))) (.one .slice) w32 fun (x33 : (Option Addr × Nat × Nat)) =>
 rdp Tryz.prog (Instr.indexAt 27 (.slice x33.1 x33.2.1 x33.2.2) (.int .i64 s27.1)) (.one .addr) fun (x34 : Addr) =>
 rd Tryz.prog (Instr.loadAt 26 (.pointer (some x34))) (.one .slice) w32 fun (x35 : (Option Addr × Nat × Nat)) =>
 br (decide (s31.1 < ((x35.2.1 : Nat) : Int))) (rd Tryz.prog (Instr.loadAt 27 (.pointer (some (Addr.add x1 1)))) (.one .slice) w32 fun (x36 : (Option Addr × Nat × Nat)) =>
 rdp Tryz.prog (Instr.indexAt 27 (.slice x36.1 x36.2.1 x36.2.2) (.int .i64 s27.1)) (.one .addr) fun (x37 : Addr) =>
 rd Tryz.prog (Instr.loadAt 26 (.pointer (some x37))) (.one .slice) w32 fun (x38 : (Option Addr × Nat × Nat)) =>
 rdp Tryz.prog (Instr.indexAt 26 (.slice x38.1 x38.2.1 x38.2.2) (.int .i64 s31.1)) (.one .addr) fun (x39 : Addr) =>
 rd Tryz.prog (Instr.loadAt 2 (.pointer (some x39))) (.one (.int .i64)) w32 fun (x40 : Int) =>
 call Tryz.prog 27 [(.int .i64 x40), (.int .i64 1000000)] (.one (.one .bool)) w32 fun (x41 : Bool) (w42 : World) =>
 br (!x41) (R (.int .i64 8) w42)
 (z (IntKind.wrap .i64 (s31.1 + 1)) fun (z43 : Int) =>
 again30 (z43, ()) w42))
 (z (IntKind.wrap .i64 (s27.1 + 1)) fun (z44 : Int) =>
 again26 (z44, ()) w32))
 (rd Tryz.prog (Instr.loadAt 26 (.pointer (some (Addr.add x1 2)))) (.one .slice) w28 fun (x45 : (Option Addr × Nat × Nat)) =>
 rd Tryz.prog (Instr.loadAt 27 (.pointer (some (Addr.add x1 1)))) (.one .slice) w28 fun (x46 : (Option Addr × Nat × Nat)) =>
 br (((x45.2.1 : Nat) : Int) != ((x46.2.1 : Nat) : Int)) (R (.int .i64 9) w28)
 (loop (T := (Int × Unit)) (0, ()) w28 fun (again47 : (Int × Unit) → World → Prop) (s48 : (Int × Unit)) w49 => ∀ _ : Nat → Value,
 rd Tryz.prog (Instr.loadAt 27 (.pointer (some (Addr.add x1 1)))) (.one .slice) w49 fun (x50 : (Option Addr × Nat × Nat)) =>
 br (decide (s48.1 < ((x50.2.1 : Nat) : Int))) (drw w49 fun w51 =>
 rd Tryz.prog (Instr.loadAt 27 (.pointer (some (Addr.add x1 1)))) (.one .slice) w51 fun (x52 : (Option Addr × Nat × Nat)) =>
 rdp Tryz.prog (Instr.indexAt 27 (.slice x52.1 x52.2.1 x52.2.2) (.int .i64 s48.1)) (.one .addr) fun (x53 : Addr) =>
 rd Tryz.prog (Instr.loadAt 26 (.pointer (some x53))) (.one .slice) w51 fun (x54 : (Option Addr × Nat × Nat)) =>
 rd Tryz.prog (Instr.loadAt 26 (.pointer (some x1))) (.one .slice) w51 fun (x55 : (Option Addr × Nat × Nat)) =>
 br (((x54.2.1 : Nat) : Int) != ((x55.2.1 : Nat) : Int)) (R (.int .i64 9) w51)
 (z (IntKind.wrap .i64 (s48.1 + 1)) fun (z56 : Int) =>
 again47 (z56, ()) w51))
 (R (.int .i64 0) w49)))))))
def H14 : Hints := ⟨[(2, 0, [(3, (.one (.int .i64)))]), (2, 2, [(4, (.one (.int .i64)))]), (2, 4, [(5, (.one (.int .i64)))]), (2, 6, [(6, (.one (.int .i64)))]), (2, 8, [(7, (.one (.int .i64)))])], [(26, 9)], [], []⟩
set_option maxRecDepth 100000 in
theorem S14_eq (s_0a : Option Addr) (s_0n : Nat) (s_0c : Nat) (s_1a : Option Addr) (s_1n : Nat) (s_1c : Nat) (s_2a : Option Addr) (s_2n : Nat) (s_2c : Nat) (w0 : World) (R : Value → World → Prop) : vcFn Tryz.prog H14 Tryz.f14 [(.agg #[(.slice s_0a s_0n s_0c), (.slice s_1a s_1n s_1c), (.slice s_2a s_2n s_2c)])] w0 R = S14 s_0a s_0n s_0c s_1a s_1n s_1c s_2a s_2n s_2c w0 R := by kernel_rfl
set_option maxRecDepth 100000 in
theorem S14_calls (s_0a : Option Addr) (s_0n : Nat) (s_0c : Nat) (s_1a : Option Addr) (s_1n : Nat) (s_1c : Nat) (s_2a : Option Addr) (s_2n : Nat) (s_2c : Nat) (w0 : World) (R : Value → World → Prop) (h : S14 s_0a s_0n s_0c s_1a s_1n s_1c s_2a s_2n s_2c w0 R) : Calls Tryz.prog 14 #[(.agg #[(.slice s_0a s_0n s_0c), (.slice s_1a s_1n s_1c), (.slice s_2a s_2n s_2c)])] w0 (ret R) := by
  rw [← S14_eq] at h; exact vcFn_sound follows_ Tryz.func14 h

/-- querylab/linear.outside -/
def S34 (n_ : Int) (low_ : Int) (high_ : Int) (w0 : World) (R : Value → World → Prop) : Prop :=
 br (decide (n_ < low_)) (R (.bool true) w0)
 (R (.bool (decide (n_ > high_))) w0)
def H34 : Hints := ⟨[], [], [], []⟩
set_option maxRecDepth 100000 in
theorem S34_eq (n_ : Int) (low_ : Int) (high_ : Int) (w0 : World) (R : Value → World → Prop) : vcFn Tryz.prog H34 Tryz.f34 [(.int .i64 n_), (.int .i64 low_), (.int .i64 high_)] w0 R = S34 n_ low_ high_ w0 R := by kernel_rfl
set_option maxRecDepth 100000 in
theorem S34_calls (n_ : Int) (low_ : Int) (high_ : Int) (w0 : World) (R : Value → World → Prop) (h : S34 n_ low_ high_ w0 R) : Calls Tryz.prog 34 #[(.int .i64 n_), (.int .i64 low_), (.int .i64 high_)] w0 (ret R) := by
  rw [← S34_eq] at h; exact vcFn_sound follows_ Tryz.func34 h

/-- querylab/linear.Valid$1$1 -/
def S33 (n_ : Int) (cap0 : Addr) (cap1 : Addr) (w0 : World) (R : Value → World → Prop) : Prop :=
 rd Tryz.prog (Instr.loadAt 2 (.pointer (some cap0))) (.one (.int .i64)) w0 fun (x1 : Int) =>
 rd Tryz.prog (Instr.loadAt 2 (.pointer (some cap1))) (.one (.int .i64)) w0 fun (x2 : Int) =>
 call Tryz.prog 34 [(.int .i64 n_), (.int .i64 x1), (.int .i64 x2)] (.one (.one .bool)) w0 fun (x3 : Bool) (w4 : World) =>
 R (.bool x3) w4
def H33 : Hints := ⟨[], [], [], []⟩
set_option maxRecDepth 100000 in
theorem S33_eq (n_ : Int) (cap0 : Addr) (cap1 : Addr) (w0 : World) (R : Value → World → Prop) : vcFn Tryz.prog H33 Tryz.f33 [(.int .i64 n_), (.pointer (some cap0)), (.pointer (some cap1))] w0 R = S33 n_ cap0 cap1 w0 R := by kernel_rfl
set_option maxRecDepth 100000 in
theorem S33_calls (n_ : Int) (cap0 : Addr) (cap1 : Addr) (w0 : World) (R : Value → World → Prop) (h : S33 n_ cap0 cap1 w0 R) : Calls Tryz.prog 33 #[(.int .i64 n_), (.pointer (some cap0)), (.pointer (some cap1))] w0 (ret R) := by
  rw [← S33_eq] at h; exact vcFn_sound follows_ Tryz.func33 h

/-- slices.IndexFunc[[]int64,int64] -/
def S58a (s_a : Option Addr) (s_n : Nat) (s_c : Nat) (cap1_0 : Addr) (cap1_1 : Addr) (w0 : World) (R : Value → World → Prop) : Prop :=
 loop (T := (Int × Unit)) (0, ()) w0 fun (again1 : (Int × Unit) → World → Prop) (s2 : (Int × Unit)) w3 => ∀ _ : Nat → Value,
 br (decide (s2.1 < ((s_n : Nat) : Int))) (rdp Tryz.prog (Instr.indexAt 26 (.slice s_a s_n s_c) (.int .i64 s2.1)) (.one .addr) fun (x4 : Addr) =>
 rd Tryz.prog (Instr.loadAt 2 (.pointer (some x4))) (.one (.int .i64)) w3 fun (x5 : Int) =>
 call Tryz.prog 33 [(.int .i64 x5), (.pointer (some cap1_0)), (.pointer (some cap1_1))] (.one (.one .bool)) w3 fun (x6 : Bool) (w7 : World) =>
 br x6 (R (.int .i64 s2.1) w7)
 (z (IntKind.wrap .i64 (s2.1 + 1)) fun (z8 : Int) =>
 again1 (z8, ()) w7))
 (R (.int .i64 (-1)) w3)
def H58a : Hints := ⟨[(2, 0, [(8, (.one (.int .i64)))])], [], [], []⟩
set_option maxRecDepth 100000 in
theorem S58a_eq (s_a : Option Addr) (s_n : Nat) (s_c : Nat) (cap1_0 : Addr) (cap1_1 : Addr) (w0 : World) (R : Value → World → Prop) : vcFn Tryz.prog H58a Tryz.f58 [(.slice s_a s_n s_c), (.func (.func 33) #[] #[(.pointer (some cap1_0)), (.pointer (some cap1_1))])] w0 R = S58a s_a s_n s_c cap1_0 cap1_1 w0 R := by kernel_rfl
set_option maxRecDepth 100000 in
theorem S58a_calls (s_a : Option Addr) (s_n : Nat) (s_c : Nat) (cap1_0 : Addr) (cap1_1 : Addr) (w0 : World) (R : Value → World → Prop) (h : S58a s_a s_n s_c cap1_0 cap1_1 w0 R) : Calls Tryz.prog 58 #[(.slice s_a s_n s_c), (.func (.func 33) #[] #[(.pointer (some cap1_0)), (.pointer (some cap1_1))])] w0 (ret R) := by
  rw [← S58a_eq] at h; exact vcFn_sound follows_ Tryz.func58 h

/-- slices.ContainsFunc[[]int64,int64] -/
def S32a (s_a : Option Addr) (s_n : Nat) (s_c : Nat) (cap1_0 : Addr) (cap1_1 : Addr) (w0 : World) (R : Value → World → Prop) : Prop :=
 call Tryz.prog 58 [(.slice s_a s_n s_c), (.func (.func 33) #[] #[(.pointer (some cap1_0)), (.pointer (some cap1_1))])] (.one (.one (.int .i64))) w0 fun (x1 : Int) (w2 : World) =>
 R (.bool (decide (x1 ≥ 0))) w2
def H32a : Hints := ⟨[], [], [], []⟩
set_option maxRecDepth 100000 in
theorem S32a_eq (s_a : Option Addr) (s_n : Nat) (s_c : Nat) (cap1_0 : Addr) (cap1_1 : Addr) (w0 : World) (R : Value → World → Prop) : vcFn Tryz.prog H32a Tryz.f32 [(.slice s_a s_n s_c), (.func (.func 33) #[] #[(.pointer (some cap1_0)), (.pointer (some cap1_1))])] w0 R = S32a s_a s_n s_c cap1_0 cap1_1 w0 R := by kernel_rfl
set_option maxRecDepth 100000 in
theorem S32a_calls (s_a : Option Addr) (s_n : Nat) (s_c : Nat) (cap1_0 : Addr) (cap1_1 : Addr) (w0 : World) (R : Value → World → Prop) (h : S32a s_a s_n s_c cap1_0 cap1_1 w0 R) : Calls Tryz.prog 32 #[(.slice s_a s_n s_c), (.func (.func 33) #[] #[(.pointer (some cap1_0)), (.pointer (some cap1_1))])] w0 (ret R) := by
  rw [← S32a_eq] at h; exact vcFn_sound follows_ Tryz.func32 h

/-- querylab/linear.Valid$1 -/
def S31 (l_a : Option Addr) (l_n : Nat) (l_c : Nat) (low_ : Int) (high_ : Int) (w0 : World) (R : Value → World → Prop) : Prop :=
 wr Tryz.prog (Instr.box 2 (.int .i64 low_)) (.one .addr) w0 fun (x1 : Addr) (w2 : World) =>
 wr Tryz.prog (Instr.box 2 (.int .i64 high_)) (.one .addr) w2 fun (x3 : Addr) (w4 : World) =>
 call Tryz.prog 32 [(.slice l_a l_n l_c), (.func (.func 33) #[] #[(.pointer (some x1)), (.pointer (some x3))])] (.one (.one .bool)) w4 fun (x5 : Bool) (w6 : World) =>
 R (.bool x5) w6
def H31 : Hints := ⟨[], [], [], []⟩
set_option maxRecDepth 100000 in
theorem S31_eq (l_a : Option Addr) (l_n : Nat) (l_c : Nat) (low_ : Int) (high_ : Int) (w0 : World) (R : Value → World → Prop) : vcFn Tryz.prog H31 Tryz.f31 [(.slice l_a l_n l_c), (.int .i64 low_), (.int .i64 high_)] w0 R = S31 l_a l_n l_c low_ high_ w0 R := by kernel_rfl
set_option maxRecDepth 100000 in
theorem S31_calls (l_a : Option Addr) (l_n : Nat) (l_c : Nat) (low_ : Int) (high_ : Int) (w0 : World) (R : Value → World → Prop) (h : S31 l_a l_n l_c low_ high_ w0 R) : Calls Tryz.prog 31 #[(.slice l_a l_n l_c), (.int .i64 low_), (.int .i64 high_)] w0 (ret R) := by
  rw [← S31_eq] at h; exact vcFn_sound follows_ Tryz.func31 h

/-- querylab/linear.Valid$2 -/
def S36 (r_a : Option Addr) (r_n : Nat) (r_c : Nat) (cap0 : Addr) (w0 : World) (R : Value → World → Prop) : Prop :=
 rdF Tryz.prog bel (Instr.loadAt 68 (.pointer (some cap0))) w0 fun (h1 : Nat) (h1f h1c : Array Value) =>
 callX Tryz.prog h1 (h1f ++ (#[(.slice r_a r_n r_c), (.int .i64 (-1000000)), (.int .i64 1000000)] : Array Value) ++ h1c).toList (.one (.one .bool)) w0 fun (x2 : Bool) (w3 : World) =>
 R (.bool x2) w3
def H36 : Hints := ⟨[], [], [], []⟩
set_option maxRecDepth 100000 in
theorem S36_eq (r_a : Option Addr) (r_n : Nat) (r_c : Nat) (cap0 : Addr) (w0 : World) (R : Value → World → Prop) : vcFn Tryz.prog H36 Tryz.f36 [(.slice r_a r_n r_c), (.pointer (some cap0))] w0 R = S36 r_a r_n r_c cap0 w0 R := by kernel_rfl
set_option maxRecDepth 100000 in
theorem S36_calls (r_a : Option Addr) (r_n : Nat) (r_c : Nat) (cap0 : Addr) (w0 : World) (R : Value → World → Prop) (h : S36 r_a r_n r_c cap0 w0 R) : Calls Tryz.prog 36 #[(.slice r_a r_n r_c), (.pointer (some cap0))] w0 (ret R) := by
  rw [← S36_eq] at h; exact vcFn_sound follows_ Tryz.func36 h

/-- querylab/linear.Valid$3 -/
def S37 (_r_a : Option Addr) (r_n : Nat) (_r_c : Nat) (cap0 : Addr) (w0 : World) (R : Value → World → Prop) : Prop :=
 rd Tryz.prog (Instr.loadAt 26 (.pointer (some cap0))) (.one .slice) w0 fun (x1 : (Option Addr × Nat × Nat)) =>
 R (.bool (((r_n : Nat) : Int) != ((x1.2.1 : Nat) : Int))) w0
def H37 : Hints := ⟨[], [], [], []⟩
set_option maxRecDepth 100000 in
theorem S37_eq (r_a : Option Addr) (r_n : Nat) (r_c : Nat) (cap0 : Addr) (w0 : World) (R : Value → World → Prop) : vcFn Tryz.prog H37 Tryz.f37 [(.slice r_a r_n r_c), (.pointer (some cap0))] w0 R = S37 r_a r_n r_c cap0 w0 R := by kernel_rfl
set_option maxRecDepth 100000 in
theorem S37_calls (r_a : Option Addr) (r_n : Nat) (r_c : Nat) (cap0 : Addr) (w0 : World) (R : Value → World → Prop) (h : S37 r_a r_n r_c cap0 w0 R) : Calls Tryz.prog 37 #[(.slice r_a r_n r_c), (.pointer (some cap0))] w0 (ret R) := by
  rw [← S37_eq] at h; exact vcFn_sound follows_ Tryz.func37 h

/-- slices.IndexFunc[[][]int64,[]int64] -/
def S59b (s_a : Option Addr) (s_n : Nat) (s_c : Nat) (cap1_0 : Addr) (w0 : World) (R : Value → World → Prop) : Prop :=
 loop (T := (Int × Unit)) (0, ()) w0 fun (again1 : (Int × Unit) → World → Prop) (s2 : (Int × Unit)) w3 => ∀ _ : Nat → Value,
 br (decide (s2.1 < ((s_n : Nat) : Int))) (rdp Tryz.prog (Instr.indexAt 27 (.slice s_a s_n s_c) (.int .i64 s2.1)) (.one .addr) fun (x4 : Addr) =>
 rd Tryz.prog (Instr.loadAt 26 (.pointer (some x4))) (.one .slice) w3 fun (x5 : (Option Addr × Nat × Nat)) =>
 call Tryz.prog 36 [(.slice x5.1 x5.2.1 x5.2.2), (.pointer (some cap1_0))] (.one (.one .bool)) w3 fun (x6 : Bool) (w7 : World) =>
 br x6 (R (.int .i64 s2.1) w7)
 (z (IntKind.wrap .i64 (s2.1 + 1)) fun (z8 : Int) =>
 again1 (z8, ()) w7))
 (R (.int .i64 (-1)) w3)
def H59b : Hints := ⟨[(2, 0, [(8, (.one (.int .i64)))])], [], [], []⟩
set_option maxRecDepth 100000 in
theorem S59b_eq (s_a : Option Addr) (s_n : Nat) (s_c : Nat) (cap1_0 : Addr) (w0 : World) (R : Value → World → Prop) : vcFn Tryz.prog H59b Tryz.f59 [(.slice s_a s_n s_c), (.func (.func 36) #[] #[(.pointer (some cap1_0))])] w0 R = S59b s_a s_n s_c cap1_0 w0 R := by kernel_rfl
set_option maxRecDepth 100000 in
theorem S59b_calls (s_a : Option Addr) (s_n : Nat) (s_c : Nat) (cap1_0 : Addr) (w0 : World) (R : Value → World → Prop) (h : S59b s_a s_n s_c cap1_0 w0 R) : Calls Tryz.prog 59 #[(.slice s_a s_n s_c), (.func (.func 36) #[] #[(.pointer (some cap1_0))])] w0 (ret R) := by
  rw [← S59b_eq] at h; exact vcFn_sound follows_ Tryz.func59 h

/-- slices.ContainsFunc[[][]int64,[]int64] -/
def S35b (s_a : Option Addr) (s_n : Nat) (s_c : Nat) (cap1_0 : Addr) (w0 : World) (R : Value → World → Prop) : Prop :=
 call Tryz.prog 59 [(.slice s_a s_n s_c), (.func (.func 36) #[] #[(.pointer (some cap1_0))])] (.one (.one (.int .i64))) w0 fun (x1 : Int) (w2 : World) =>
 R (.bool (decide (x1 ≥ 0))) w2
def H35b : Hints := ⟨[], [], [], []⟩
set_option maxRecDepth 100000 in
theorem S35b_eq (s_a : Option Addr) (s_n : Nat) (s_c : Nat) (cap1_0 : Addr) (w0 : World) (R : Value → World → Prop) : vcFn Tryz.prog H35b Tryz.f35 [(.slice s_a s_n s_c), (.func (.func 36) #[] #[(.pointer (some cap1_0))])] w0 R = S35b s_a s_n s_c cap1_0 w0 R := by kernel_rfl
set_option maxRecDepth 100000 in
theorem S35b_calls (s_a : Option Addr) (s_n : Nat) (s_c : Nat) (cap1_0 : Addr) (w0 : World) (R : Value → World → Prop) (h : S35b s_a s_n s_c cap1_0 w0 R) : Calls Tryz.prog 35 #[(.slice s_a s_n s_c), (.func (.func 36) #[] #[(.pointer (some cap1_0))])] w0 (ret R) := by
  rw [← S35b_eq] at h; exact vcFn_sound follows_ Tryz.func35 h

/-- slices.IndexFunc[[][]int64,[]int64] -/
def S59c (s_a : Option Addr) (s_n : Nat) (s_c : Nat) (cap1_0 : Addr) (w0 : World) (R : Value → World → Prop) : Prop :=
 loop (T := (Int × Unit)) (0, ()) w0 fun (again1 : (Int × Unit) → World → Prop) (s2 : (Int × Unit)) w3 => ∀ _ : Nat → Value,
 br (decide (s2.1 < ((s_n : Nat) : Int))) (rdp Tryz.prog (Instr.indexAt 27 (.slice s_a s_n s_c) (.int .i64 s2.1)) (.one .addr) fun (x4 : Addr) =>
 rd Tryz.prog (Instr.loadAt 26 (.pointer (some x4))) (.one .slice) w3 fun (x5 : (Option Addr × Nat × Nat)) =>
 call Tryz.prog 37 [(.slice x5.1 x5.2.1 x5.2.2), (.pointer (some cap1_0))] (.one (.one .bool)) w3 fun (x6 : Bool) (w7 : World) =>
 br x6 (R (.int .i64 s2.1) w7)
 (z (IntKind.wrap .i64 (s2.1 + 1)) fun (z8 : Int) =>
 again1 (z8, ()) w7))
 (R (.int .i64 (-1)) w3)
def H59c : Hints := ⟨[(2, 0, [(8, (.one (.int .i64)))])], [], [], []⟩
set_option maxRecDepth 100000 in
theorem S59c_eq (s_a : Option Addr) (s_n : Nat) (s_c : Nat) (cap1_0 : Addr) (w0 : World) (R : Value → World → Prop) : vcFn Tryz.prog H59c Tryz.f59 [(.slice s_a s_n s_c), (.func (.func 37) #[] #[(.pointer (some cap1_0))])] w0 R = S59c s_a s_n s_c cap1_0 w0 R := by kernel_rfl
set_option maxRecDepth 100000 in
theorem S59c_calls (s_a : Option Addr) (s_n : Nat) (s_c : Nat) (cap1_0 : Addr) (w0 : World) (R : Value → World → Prop) (h : S59c s_a s_n s_c cap1_0 w0 R) : Calls Tryz.prog 59 #[(.slice s_a s_n s_c), (.func (.func 37) #[] #[(.pointer (some cap1_0))])] w0 (ret R) := by
  rw [← S59c_eq] at h; exact vcFn_sound follows_ Tryz.func59 h

/-- slices.ContainsFunc[[][]int64,[]int64] -/
def S35c (s_a : Option Addr) (s_n : Nat) (s_c : Nat) (cap1_0 : Addr) (w0 : World) (R : Value → World → Prop) : Prop :=
 call Tryz.prog 59 [(.slice s_a s_n s_c), (.func (.func 37) #[] #[(.pointer (some cap1_0))])] (.one (.one (.int .i64))) w0 fun (x1 : Int) (w2 : World) =>
 R (.bool (decide (x1 ≥ 0))) w2
def H35c : Hints := ⟨[], [], [], []⟩
set_option maxRecDepth 100000 in
theorem S35c_eq (s_a : Option Addr) (s_n : Nat) (s_c : Nat) (cap1_0 : Addr) (w0 : World) (R : Value → World → Prop) : vcFn Tryz.prog H35c Tryz.f35 [(.slice s_a s_n s_c), (.func (.func 37) #[] #[(.pointer (some cap1_0))])] w0 R = S35c s_a s_n s_c cap1_0 w0 R := by kernel_rfl
set_option maxRecDepth 100000 in
theorem S35c_calls (s_a : Option Addr) (s_n : Nat) (s_c : Nat) (cap1_0 : Addr) (w0 : World) (R : Value → World → Prop) (h : S35c s_a s_n s_c cap1_0 w0 R) : Calls Tryz.prog 35 #[(.slice s_a s_n s_c), (.func (.func 37) #[] #[(.pointer (some cap1_0))])] w0 (ret R) := by
  rw [← S35c_eq] at h; exact vcFn_sound follows_ Tryz.func35 h

/-- querylab/linear.Valid -/
def S18 (s_0a : Option Addr) (s_0n : Nat) (s_0c : Nat) (s_1a : Option Addr) (s_1n : Nat) (s_1c : Nat) (s_2a : Option Addr) (s_2n : Nat) (s_2c : Nat) (w0 : World) (R : Value → World → Prop) : Prop :=
 wr Tryz.prog (Instr.box 29 (.agg #[(.slice s_0a s_0n s_0c), (.slice s_1a s_1n s_1c), (.slice s_2a s_2n s_2c)])) (.one .addr) w0 fun (x1 : Addr) (w2 : World) =>
 rd Tryz.prog (Instr.loadAt 26 (.pointer (some x1))) (.one .slice) w2 fun (x3 : (Option Addr × Nat × Nat)) =>
 br (decide (((x3.2.1 : Nat) : Int) > 200)) (R (.int .i64 8) w2)
 (rd Tryz.prog (Instr.loadAt 27 (.pointer (some (Addr.add x1 1)))) (.one .slice) w2 fun (x4 : (Option Addr × Nat × Nat)) =>
 br (decide (((x4.2.1 : Nat) : Int) > 100)) (R (.int .i64 8) w2)
 (wr Tryz.prog (Instr.alloc 68 true (.tuple #[])) (.one .addr) w2 fun (x5 : Addr) (w6 : World) =>
 wu Tryz.prog (Instr.storeAt 68 (.pointer (some x5)) (.func (.func 31) #[] #[])) w6 fun (w7 : World) =>
 rdF Tryz.prog bel (Instr.loadAt 68 (.pointer (some x5))) w7 fun (h8 : Nat) (h8f h8c : Array Value) =>
 rd Tryz.prog (Instr.loadAt 26 (.pointer (some x1))) (.one .slice) w7 fun (x9 : (Option Addr × Nat × Nat)) =>
 callX Tryz.prog h8 (h8f ++ (#[(.slice x9.1 x9.2.1 x9.2.2), (.int .i64 0), (.int .i64 1000000000)] : Array Value) ++ h8c).toList (.one (.one .bool)) w7 fun (x10 : Bool) (w11 : World) =>
 br x10 (R (.int .i64 8) w11)
 (rdF Tryz.prog bel (Instr.loadAt 68 (.pointer (some x5))) w11 fun (h12 : Nat) (h12f h12c : Array Value) =>
 rd Tryz.prog (Instr.loadAt 26 (.pointer (some (Addr.add x1 2)))) (.one .slice) w11 fun (x13 : (Option Addr × Nat × Nat)) =>
 callX Tryz.prog h12 (h12f ++ (#[(.slice x13.1 x13.2.1 x13.2.2), (.int .i64 (-1000000000)), (.int .i64 1000000000)] : Array Value) ++ h12c).toList (.one (.one .bool)) w11 fun (x14 : Bool) (w15 : World) =>
 br x14 (R (.int .i64 8) w15)
 (rd Tryz.prog (Instr.loadAt 27 (.pointer (some (Addr.add x1 1)))) (.one .slice) w15 fun (x16 : (Option Addr × Nat × Nat)) =>
 call Tryz.prog 35 [(.slice x16.1 x16.2.1 x16.2.2), (.func (.func 36) #[] #[(.pointer (some x5))])] (.one (.one .bool)) w15 fun (x17 : Bool) (w18 : World) =>
 br x17 (R (.int .i64 8) w18)
 (rd Tryz.prog (Instr.loadAt 26 (.pointer (some (Addr.add x1 2)))) (.one .slice) w18 fun (x19 : (Option Addr × Nat × Nat)) =>
 rd Tryz.prog (Instr.loadAt 27 (.pointer (some (Addr.add x1 1)))) (.one .slice) w18 fun (x20 : (Option Addr × Nat × Nat)) =>
 br (((x19.2.1 : Nat) : Int) != ((x20.2.1 : Nat) : Int)) (R (.int .i64 9) w18)
 (rd Tryz.prog (Instr.loadAt 27 (.pointer (some (Addr.add x1 1)))) (.one .slice) w18 fun (x21 : (Option Addr × Nat × Nat)) =>
 call Tryz.prog 35 [(.slice x21.1 x21.2.1 x21.2.2), (.func (.func 37) #[] #[(.pointer (some x1))])] (.one (.one .bool)) w18 fun (x22 : Bool) (w23 : World) =>
 br x22 (R (.int .i64 9) w23)
 (R (.int .i64 0) w23)))))))
def H18 : Hints := ⟨[], [], [], []⟩
set_option maxRecDepth 100000 in
theorem S18_eq (s_0a : Option Addr) (s_0n : Nat) (s_0c : Nat) (s_1a : Option Addr) (s_1n : Nat) (s_1c : Nat) (s_2a : Option Addr) (s_2n : Nat) (s_2c : Nat) (w0 : World) (R : Value → World → Prop) : vcFn Tryz.prog H18 Tryz.f18 [(.agg #[(.slice s_0a s_0n s_0c), (.slice s_1a s_1n s_1c), (.slice s_2a s_2n s_2c)])] w0 R = S18 s_0a s_0n s_0c s_1a s_1n s_1c s_2a s_2n s_2c w0 R := by kernel_rfl
set_option maxRecDepth 100000 in
theorem S18_calls (s_0a : Option Addr) (s_0n : Nat) (s_0c : Nat) (s_1a : Option Addr) (s_1n : Nat) (s_1c : Nat) (s_2a : Option Addr) (s_2n : Nat) (s_2c : Nat) (w0 : World) (R : Value → World → Prop) (h : S18 s_0a s_0n s_0c s_1a s_1n s_1c s_2a s_2n s_2c w0 R) : Calls Tryz.prog 18 #[(.agg #[(.slice s_0a s_0n s_0c), (.slice s_1a s_1n s_1c), (.slice s_2a s_2n s_2c)])] w0 (ret R) := by
  rw [← S18_eq] at h; exact vcFn_sound follows_ Tryz.func18 h

/-- querylab/querylabref12.Check -/
def S10 (s_0a : Option Addr) (s_0n : Nat) (s_0c : Nat) (s_1a : Option Addr) (s_1n : Nat) (s_1c : Nat) (s_2a : Option Addr) (s_2n : Nat) (s_2c : Nat) (x_a : Option Addr) (x_n : Nat) (x_c : Nat) (w0 : World) (R : Value → World → Prop) : Prop :=
 wr Tryz.prog (Instr.box 29 (.agg #[(.slice s_0a s_0n s_0c), (.slice s_1a s_1n s_1c), (.slice s_2a s_2n s_2c)])) (.one .addr) w0 fun (x1 : Addr) (w2 : World) =>
 loop (T := ((Option Addr × Nat × Nat) × Int × Unit)) ((none, 0, 0), 0, ()) w2 fun (again3 : ((Option Addr × Nat × Nat) × Int × Unit) → World → Prop) (s4 : ((Option Addr × Nat × Nat) × Int × Unit)) w5 => ∀ _ : Nat → Value,
 br (decide (s4.2.1 < ((x_n : Nat) : Int))) (rdp Tryz.prog (Instr.indexAt 26 (.slice x_a x_n x_c) (.int .i64 s4.2.1)) (.one .addr) fun (x6 : Addr) =>
 rd Tryz.prog (Instr.loadAt 2 (.pointer (some x6))) (.one (.int .i64)) w5 fun (x7 : Int) =>
 wr Tryz.prog (Instr.buildSlice 32 1 #[(0, (.agg #[(.int .i64 x7), (.int .i64 1)]))]) (.one .slice) w5 fun (x8 : (Option Addr × Nat × Nat)) (w9 : World) =>
 wr Tryz.prog (Builtin.append_ #[32, 32] 32 #[(.slice s4.1.1 s4.1.2.1 s4.1.2.2), (.slice x8.1 x8.2.1 x8.2.2)]) (.one .slice) w9 fun (x10 : (Option Addr × Nat × Nat)) (w11 : World) =>
 z (IntKind.wrap .i64 (s4.2.1 + 1)) fun (z12 : Int) =>
 again3 ((x10.1, x10.2.1, x10.2.2), z12, ()) w11)
 (rd Tryz.prog (Instr.loadAt 29 (.pointer (some x1))) (.agg [.slice, .slice, .slice]) w5 fun (x13 : ((Option Addr × Nat × Nat) × (Option Addr × Nat × Nat) × (Option Addr × Nat × Nat) × Unit)) =>
 call Tryz.prog 23 [(.agg #[(.slice x13.1.1 x13.1.2.1 x13.1.2.2), (.slice x13.2.1.1 x13.2.1.2.1 x13.2.1.2.2), (.slice x13.2.2.1.1 x13.2.2.1.2.1 x13.2.2.1.2.2)]), (.slice s4.1.1 s4.1.2.1 s4.1.2.2)] (.one (.one .bool)) w5 fun (x14 : Bool) (w15 : World) =>
 R (.bool x14) w15)
def H10 : Hints := ⟨[(2, 0, [(5, (.one .slice)), (6, (.one (.int .i64)))])], [], [], []⟩
set_option maxRecDepth 100000 in
theorem S10_eq (s_0a : Option Addr) (s_0n : Nat) (s_0c : Nat) (s_1a : Option Addr) (s_1n : Nat) (s_1c : Nat) (s_2a : Option Addr) (s_2n : Nat) (s_2c : Nat) (x_a : Option Addr) (x_n : Nat) (x_c : Nat) (w0 : World) (R : Value → World → Prop) : vcFn Tryz.prog H10 Tryz.f10 [(.agg #[(.slice s_0a s_0n s_0c), (.slice s_1a s_1n s_1c), (.slice s_2a s_2n s_2c)]), (.slice x_a x_n x_c)] w0 R = S10 s_0a s_0n s_0c s_1a s_1n s_1c s_2a s_2n s_2c x_a x_n x_c w0 R := by kernel_rfl
set_option maxRecDepth 100000 in
theorem S10_calls (s_0a : Option Addr) (s_0n : Nat) (s_0c : Nat) (s_1a : Option Addr) (s_1n : Nat) (s_1c : Nat) (s_2a : Option Addr) (s_2n : Nat) (s_2c : Nat) (x_a : Option Addr) (x_n : Nat) (x_c : Nat) (w0 : World) (R : Value → World → Prop) (h : S10 s_0a s_0n s_0c s_1a s_1n s_1c s_2a s_2n s_2c x_a x_n x_c w0 R) : Calls Tryz.prog 10 #[(.agg #[(.slice s_0a s_0n s_0c), (.slice s_1a s_1n s_1c), (.slice s_2a s_2n s_2c)]), (.slice x_a x_n x_c)] w0 (ret R) := by
  rw [← S10_eq] at h; exact vcFn_sound follows_ Tryz.func10 h

/-- querylab/querylabref11.CheckSolution -/
def S23 (s_0a : Option Addr) (s_0n : Nat) (s_0c : Nat) (s_1a : Option Addr) (s_1n : Nat) (s_1c : Nat) (s_2a : Option Addr) (s_2n : Nat) (s_2c : Nat) (x_a : Option Addr) (x_n : Nat) (x_c : Nat) (w0 : World) (R : Value → World → Prop) : Prop :=
 wr Tryz.prog (Instr.box 29 (.agg #[(.slice s_0a s_0n s_0c), (.slice s_1a s_1n s_1c), (.slice s_2a s_2n s_2c)])) (.one .addr) w0 fun (x1 : Addr) (w2 : World) =>
 rd Tryz.prog (Instr.loadAt 29 (.pointer (some x1))) (.agg [.slice, .slice, .slice]) w2 fun (x3 : ((Option Addr × Nat × Nat) × (Option Addr × Nat × Nat) × (Option Addr × Nat × Nat) × Unit)) =>
 call Tryz.prog 14 [(.agg #[(.slice x3.1.1 x3.1.2.1 x3.1.2.2), (.slice x3.2.1.1 x3.2.1.2.1 x3.2.1.2.2), (.slice x3.2.2.1.1 x3.2.2.1.2.1 x3.2.2.1.2.2)])] (.one (.one (.int .i64))) w2 fun (x4 : Int) (w5 : World) =>
 br (x4 != 0) (R (.bool false) w5)
 (rd Tryz.prog (Instr.loadAt 26 (.pointer (some x1))) (.one .slice) w5 fun (x6 : (Option Addr × Nat × Nat)) =>
 br (((x_n : Nat) : Int) != ((x6.2.1 : Nat) : Int)) (R (.bool false) w5)
 (loop (T := (Int × Unit)) (0, ()) w5 fun (again7 : (Int × Unit) → World → Prop) (s8 : (Int × Unit)) w9 => ∀ _ : Nat → Value,
 br (decide (s8.1 < ((x_n : Nat) : Int))) (drw w9 fun w10 => flEx fun F11 =>
 rdp Tryz.prog (Instr.indexAt 32 (.slice x_a x_n x_c) (.int .i64 s8.1)) (.one .addr) fun (x12 : Addr) =>
 rd Tryz.prog (Instr.loadAt 60 (.pointer (some x12))) (.agg [(.int .i64), (.int .i64)]) w10 fun (x13 : (Int × Int × Unit)) =>
 flc bel w10 (fun _w15 => True) (fun (w14 : World) =>
   call Tryz.prog 46 [(.agg #[(.int .i64 x13.1), (.int .i64 x13.2.1)])] (.one (.one .bool)) w14 fun (x16 : Bool) (w17 : World) =>
 (bel w14 w17 ∧ F11 4 [(.agg #[(.int .i64 x13.1), (.int .i64 x13.2.1)])] (.bool x16) w17))
  fun (x18 : Bool) =>
 br (!x18) (flend bel w10 (fun w20 => F11 4 [(.agg #[(.int .i64 x13.1), (.int .i64 x13.2.1)])] (.bool x18) w20 ∧ True) fun w19 =>
 R (.bool false) w19)
 (rdp Tryz.prog (Instr.indexAt 32 (.slice x_a x_n x_c) (.int .i64 s8.1)) (.one .addr) fun (x21 : Addr) =>
 rd Tryz.prog (Instr.loadAt 2 (.pointer (some x21))) (.one (.int .i64)) w10 fun (x22 : Int) =>
 br (decide (x22 < 0)) (flend bel w10 (fun w24 => F11 4 [(.agg #[(.int .i64 x13.1), (.int .i64 x13.2.1)])] (.bool x18) w24 ∧ True) fun w23 =>
 R (.bool false) w23)
 (rd Tryz.prog (Instr.loadAt 26 (.pointer (some x1))) (.one .slice) w10 fun (x25 : (Option Addr × Nat × Nat)) =>
 rdp Tryz.prog (Instr.indexAt 26 (.slice x25.1 x25.2.1 x25.2.2) (.int .i64 s8.1)) (.one .addr) fun (x26 : Addr) =>
 rd Tryz.prog (Instr.loadAt 2 (.pointer (some x26))) (.one (.int .i64)) w10 fun (x27 : Int) =>
 flc bel w10 (fun w29 => F11 4 [(.agg #[(.int .i64 x13.1), (.int .i64 x13.2.1)])] (.bool x18) w29 ∧ True) (fun (w28 : World) =>
   call Tryz.prog 48 [(.int .i64 x27)] (.one (.agg [.bool, .slice, .slice])) w28 fun (x30 : (Bool × (Option Addr × Nat × Nat) × (Option Addr × Nat × Nat) × Unit)) (w31 : World) =>
 (bel w28 w31 ∧ F11 20 [(.int .i64 x27)] (.agg #[(.bool x30.1), (.slice x30.2.1.1 x30.2.1.2.1 x30.2.1.2.2), (.slice x30.2.2.1.1 x30.2.2.1.2.1 x30.2.2.1.2.2)]) w31))
  fun (x32 : (Bool × (Option Addr × Nat × Nat) × (Option Addr × Nat × Nat) × Unit)) =>
 rdp Tryz.prog (Instr.indexAt 32 (.slice x_a x_n x_c) (.int .i64 s8.1)) (.one .addr) fun (x33 : Addr) =>
 rd Tryz.prog (Instr.loadAt 60 (.pointer (some x33))) (.agg [(.int .i64), (.int .i64)]) w10 fun (x34 : (Int × Int × Unit)) =>
 flend bel w10 (fun w36 => F11 20 [(.int .i64 x27)] (.agg #[(.bool x32.1), (.slice x32.2.1.1 x32.2.1.2.1 x32.2.1.2.2), (.slice x32.2.2.1.1 x32.2.2.1.2.1 x32.2.2.1.2.2)]) w36 ∧ F11 4 [(.agg #[(.int .i64 x13.1), (.int .i64 x13.2.1)])] (.bool x18) w36 ∧ True) fun w35 =>
 call Tryz.prog 49 [(.agg #[(.int .i64 x34.1), (.int .i64 x34.2.1)])] (.one (.agg [.bool, .slice, .slice])) w35 fun (x37 : (Bool × (Option Addr × Nat × Nat) × (Option Addr × Nat × Nat) × Unit)) (w38 : World) =>
 call Tryz.prog 47 [(.agg #[(.bool x32.1), (.slice x32.2.1.1 x32.2.1.2.1 x32.2.1.2.2), (.slice x32.2.2.1.1 x32.2.2.1.2.1 x32.2.2.1.2.2)]), (.agg #[(.bool x37.1), (.slice x37.2.1.1 x37.2.1.2.1 x37.2.1.2.2), (.slice x37.2.2.1.1 x37.2.2.1.2.1 x37.2.2.1.2.2)])] (.one (.one .bool)) w38 fun (x39 : Bool) (w40 : World) =>
 br x39 (R (.bool false) w40)
 (z (IntKind.wrap .i64 (s8.1 + 1)) fun (z41 : Int) =>
 again7 (z41, ()) w40))))
 (loop (T := (Int × Unit)) (0, ()) w9 fun (again42 : (Int × Unit) → World → Prop) (s43 : (Int × Unit)) w44 => ∀ _ : Nat → Value,
 rd Tryz.prog (Instr.loadAt 27 (.pointer (some (Addr.add x1 1)))) (.one .slice) w44 fun (x45 : (Option Addr × Nat × Nat)) =>
 br (decide (s43.1 < ((x45.2.1 : Nat) : Int))) (call Tryz.prog 48 [(.int .i64 0)] (.one (.agg [.bool, .slice, .slice])) w44 fun (x46 : (Bool × (Option Addr × Nat × Nat) × (Option Addr × Nat × Nat) × Unit)) (w47 : World) =>
 wr Tryz.prog (Instr.alloc 83 true (.tuple #[])) (.one .addr) w47 fun (x48 : Addr) (w49 : World) =>
 wu Tryz.prog (Instr.storeAt 83 (.pointer (some x48)) (.agg #[(.bool x46.1), (.slice x46.2.1.1 x46.2.1.2.1 x46.2.1.2.2), (.slice x46.2.2.1.1 x46.2.2.1.2.1 x46.2.2.1.2.2)])) w49 fun (w50 : World) =>
 loop (T := (Int × Unit)) (0, ()) w50 fun (again51 : (Int × Unit) → World → Prop) (s52 : (Int × Unit)) w53 => ∀ _ : Nat → Value,
 br (decide (s52.1 < ((x_n : Nat) : Int))) (join (T := (Unit)) (fun (_s55 : (Unit)) w56 => ∀ _ : Nat → Value,
 z (IntKind.wrap .i64 (s52.1 + 1)) fun (z57 : Int) =>
 again51 (z57, ()) w56)
  fun (K54 : (Unit) → World → Prop) =>
 rdp Tryz.prog (Instr.indexAt 32 (.slice x_a x_n x_c) (.int .i64 s52.1)) (.one .addr) fun (x58 : Addr) =>
 rd Tryz.prog (Instr.loadAt 2 (.pointer (some x58))) (.one (.int .i64)) w53 fun (x59 : Int) =>
 br (x59 != 0) (rd Tryz.prog (Instr.loadAt 27 (.pointer (some (Addr.add x1 1)))) (.one .slice) w53 fun (x60 : (Option Addr × Nat × Nat)) =>
 rdp Tryz.prog (Instr.indexAt 27 (.slice x60.1 x60.2.1 x60.2.2) (.int .i64 s43.1)) (.one .addr) fun (x61 : Addr) =>
 rd Tryz.prog (Instr.loadAt 26 (.pointer (some x61))) (.one .slice) w53 fun (x62 : (Option Addr × Nat × Nat)) =>
 rdp Tryz.prog (Instr.indexAt 26 (.slice x62.1 x62.2.1 x62.2.2) (.int .i64 s52.1)) (.one .addr) fun (x63 : Addr) =>
 rd Tryz.prog (Instr.loadAt 2 (.pointer (some x63))) (.one (.int .i64)) w53 fun (x64 : Int) =>
 br (x64 != 0) (drw w53 fun w65 => flEx fun F66 =>
 rd Tryz.prog (Instr.loadAt 83 (.pointer (some x48))) (.agg [.bool, .slice, .slice]) w65 fun (x67 : (Bool × (Option Addr × Nat × Nat) × (Option Addr × Nat × Nat) × Unit)) =>
 rdp Tryz.prog (Instr.indexAt 32 (.slice x_a x_n x_c) (.int .i64 s52.1)) (.one .addr) fun (x68 : Addr) =>
 rd Tryz.prog (Instr.loadAt 60 (.pointer (some x68))) (.agg [(.int .i64), (.int .i64)]) w65 fun (x69 : (Int × Int × Unit)) =>
 flc bel w65 (fun _w71 => True) (fun (w70 : World) =>
   call Tryz.prog 49 [(.agg #[(.int .i64 x69.1), (.int .i64 x69.2.1)])] (.one (.agg [.bool, .slice, .slice])) w70 fun (x72 : (Bool × (Option Addr × Nat × Nat) × (Option Addr × Nat × Nat) × Unit)) (w73 : World) =>
 (bel w70 w73 ∧ F66 5 [(.agg #[(.int .i64 x69.1), (.int .i64 x69.2.1)])] (.agg #[(.bool x72.1), (.slice x72.2.1.1 x72.2.1.2.1 x72.2.1.2.2), (.slice x72.2.2.1.1 x72.2.2.1.2.1 x72.2.2.1.2.2)]) w73))
  fun (x74 : (Bool × (Option Addr × Nat × Nat) × (Option Addr × Nat × Nat) × Unit)) =>
 rd Tryz.prog (Instr.loadAt 27 (.pointer (some (Addr.add x1 1)))) (.one .slice) w65 fun (x75 : (Option Addr × Nat × Nat)) =>
 rdp Tryz.prog (Instr.indexAt 27 (.slice x75.1 x75.2.1 x75.2.2) (.int .i64 s43.1)) (.one .addr) fun (x76 : Addr) =>
 rd Tryz.prog (Instr.loadAt 26 (.pointer (some x76))) (.one .slice) w65 fun (x77 : (Option Addr × Nat × Nat)) =>
 rdp Tryz.prog (Instr.indexAt 26 (.slice x77.1 x77.2.1 x77.2.2) (.int .i64 s52.1)) (.one .addr) fun (x78 : Addr) =>
 rd Tryz.prog (Instr.loadAt 2 (.pointer (some x78))) (.one (.int .i64)) w65 fun (x79 : Int) =>
 flc bel w65 (fun w81 => F66 5 [(.agg #[(.int .i64 x69.1), (.int .i64 x69.2.1)])] (.agg #[(.bool x74.1), (.slice x74.2.1.1 x74.2.1.2.1 x74.2.1.2.2), (.slice x74.2.2.1.1 x74.2.2.1.2.1 x74.2.2.1.2.2)]) w81 ∧ True) (fun (w80 : World) =>
   call Tryz.prog 48 [(.int .i64 x79)] (.one (.agg [.bool, .slice, .slice])) w80 fun (x82 : (Bool × (Option Addr × Nat × Nat) × (Option Addr × Nat × Nat) × Unit)) (w83 : World) =>
 (bel w80 w83 ∧ F66 14 [(.int .i64 x79)] (.agg #[(.bool x82.1), (.slice x82.2.1.1 x82.2.1.2.1 x82.2.1.2.2), (.slice x82.2.2.1.1 x82.2.2.1.2.1 x82.2.2.1.2.2)]) w83))
  fun (x84 : (Bool × (Option Addr × Nat × Nat) × (Option Addr × Nat × Nat) × Unit)) =>
 flc bel w65 (fun w86 => F66 14 [(.int .i64 x79)] (.agg #[(.bool x84.1), (.slice x84.2.1.1 x84.2.1.2.1 x84.2.1.2.2), (.slice x84.2.2.1.1 x84.2.2.1.2.1 x84.2.2.1.2.2)]) w86 ∧ F66 5 [(.agg #[(.int .i64 x69.1), (.int .i64 x69.2.1)])] (.agg #[(.bool x74.1), (.slice x74.2.1.1 x74.2.1.2.1 x74.2.1.2.2), (.slice x74.2.2.1.1 x74.2.2.1.2.1 x74.2.2.1.2.2)]) w86 ∧ True) (fun (w85 : World) =>
   call Tryz.prog 51 [(.agg #[(.bool x74.1), (.slice x74.2.1.1 x74.2.1.2.1 x74.2.1.2.2), (.slice x74.2.2.1.1 x74.2.2.1.2.1 x74.2.2.1.2.2)]), (.agg #[(.bool x84.1), (.slice x84.2.1.1 x84.2.1.2.1 x84.2.1.2.2), (.slice x84.2.2.1.1 x84.2.2.1.2.1 x84.2.2.1.2.2)])] (.one (.agg [.bool, .slice, .slice])) w85 fun (x87 : (Bool × (Option Addr × Nat × Nat) × (Option Addr × Nat × Nat) × Unit)) (w88 : World) =>
 (bel w85 w88 ∧ F66 15 [(.agg #[(.bool x74.1), (.slice x74.2.1.1 x74.2.1.2.1 x74.2.1.2.2), (.slice x74.2.2.1.1 x74.2.2.1.2.1 x74.2.2.1.2.2)]), (.agg #[(.bool x84.1), (.slice x84.2.1.1 x84.2.1.2.1 x84.2.1.2.2), (.slice x84.2.2.1.1 x84.2.2.1.2.1 x84.2.2.1.2.2)])] (.agg #[(.bool x87.1), (.slice x87.2.1.1 x87.2.1.2.1 x87.2.1.2.2), (.slice x87.2.2.1.1 x87.2.2.1.2.1 x87.2.2.1.2.2)]) w88))
  fun (x89 : (Bool × (Option Addr × Nat × Nat) × (Option Addr × Nat × Nat) × Unit)) =>
 flend bel w65 (fun w91 => F66 15 [(.agg #[(.bool x74.1), (.slice x74.2.1.1 x74.2.1.2.1 x74.2.1.2.2), (.slice x74.2.2.1.1 x74.2.2.1.2.1 x74.2.2.1.2.2)]), (.agg #[(.bool x84.1), (.slice x84.2.1.1 x84.2.1.2.1 x84.2.1.2.2), (.slice x84.2.2.1.1 x84.2.2.1.2.1 x84.2.2.1.2.2)])] (.agg #[(.bool x89.1), (.slice x89.2.1.1 x89.2.1.2.1 x89.2.1.2.2), (.slice x89.2.2.1.1 x89.2.2.1.2.1 x89.2.2.1.2.2)]) w91 ∧ F66 14 [(.int .i64 x79)] (.agg #[(.bool x84.1), (.slice x84.2.1.1 x84.2.1.2.1 x84.2.1.2.2), (.slice x84.2.2.1.1 x84.2.2.1.2.1 x84.2.2.1.2.2)]) w91 ∧ F66 5 [(.agg #[(.int .i64 x69.1), (.int .i64 x69.2.1)])] (.agg #[(.bool x74.1), (.slice x74.2.1.1 x74.2.1.2.1 x74.2.1.2.2), (.slice x74.2.2.1.1 x74.2.2.1.2.1 x74.2.2.1.2.2)]) w91 ∧ True) fun w90 =>
 call Tryz.prog 50 [(.agg #[(.bool x67.1), (.slice x67.2.1.1 x67.2.1.2.1 x67.2.1.2.2), (.slice x67.2.2.1.1 x67.2.2.1.2.1 x67.2.2.1.2.2)]), (.agg #[(.bool x89.1), (.slice x89.2.1.1 x89.2.1.2.1 x89.2.1.2.2), (.slice x89.2.2.1.1 x89.2.2.1.2.1 x89.2.2.1.2.2)])] (.one (.agg [.bool, .slice, .slice])) w90 fun (x92 : (Bool × (Option Addr × Nat × Nat) × (Option Addr × Nat × Nat) × Unit)) (w93 : World) =>
 wu Tryz.prog (Instr.storeAt 83 (.pointer (some x48)) (.agg #[(.bool x92.1), (.slice x92.2.1.1 x92.2.1.2.1 x92.2.1.2.2), (.slice x92.2.2.1.1 x92.2.2.1.2.1 x92.2.2.1.2.2)])) w93 fun (w94 : World) =>
 K54 (()) w94)
 (K54 (()) w53))
 (K54 (()) w53))
 (drw w53 fun w95 => flEx fun F96 =>
 rd Tryz.prog (Instr.loadAt 83 (.pointer (some x48))) (.agg [.bool, .slice, .slice]) w95 fun (x97 : (Bool × (Option Addr × Nat × Nat) × (Option Addr × Nat × Nat) × Unit)) =>
 rd Tryz.prog (Instr.loadAt 26 (.pointer (some (Addr.add x1 2)))) (.one .slice) w95 fun (x98 : (Option Addr × Nat × Nat)) =>
 rdp Tryz.prog (Instr.indexAt 26 (.slice x98.1 x98.2.1 x98.2.2) (.int .i64 s43.1)) (.one .addr) fun (x99 : Addr) =>
 rd Tryz.prog (Instr.loadAt 2 (.pointer (some x99))) (.one (.int .i64)) w95 fun (x100 : Int) =>
 z (IntKind.wrap .i64 (0 - x100)) fun (z101 : Int) =>
 flc bel w95 (fun _w103 => True) (fun (w102 : World) =>
   call Tryz.prog 48 [(.int .i64 z101)] (.one (.agg [.bool, .slice, .slice])) w102 fun (x104 : (Bool × (Option Addr × Nat × Nat) × (Option Addr × Nat × Nat) × Unit)) (w105 : World) =>
 (bel w102 w105 ∧ F96 7 [(.int .i64 z101)] (.agg #[(.bool x104.1), (.slice x104.2.1.1 x104.2.1.2.1 x104.2.1.2.2), (.slice x104.2.2.1.1 x104.2.2.1.2.1 x104.2.2.1.2.2)]) w105))
  fun (x106 : (Bool × (Option Addr × Nat × Nat) × (Option Addr × Nat × Nat) × Unit)) =>
 flend bel w95 (fun w108 => F96 7 [(.int .i64 z101)] (.agg #[(.bool x106.1), (.slice x106.2.1.1 x106.2.1.2.1 x106.2.1.2.2), (.slice x106.2.2.1.1 x106.2.2.1.2.1 x106.2.2.1.2.2)]) w108 ∧ True) fun w107 =>
 call Tryz.prog 50 [(.agg #[(.bool x97.1), (.slice x97.2.1.1 x97.2.1.2.1 x97.2.1.2.2), (.slice x97.2.2.1.1 x97.2.2.1.2.1 x97.2.2.1.2.2)]), (.agg #[(.bool x106.1), (.slice x106.2.1.1 x106.2.1.2.1 x106.2.1.2.2), (.slice x106.2.2.1.1 x106.2.2.1.2.1 x106.2.2.1.2.2)])] (.one (.agg [.bool, .slice, .slice])) w107 fun (x109 : (Bool × (Option Addr × Nat × Nat) × (Option Addr × Nat × Nat) × Unit)) (w110 : World) =>
 call Tryz.prog 52 [(.agg #[(.bool x109.1), (.slice x109.2.1.1 x109.2.1.2.1 x109.2.1.2.2), (.slice x109.2.2.1.1 x109.2.2.1.2.1 x109.2.2.1.2.2)])] (.one (.one (.int .i64))) w110 fun (x111 : Int) (w112 : World) =>
 br (x111 != 0) (R (.bool false) w112)
 (z (IntKind.wrap .i64 (s43.1 + 1)) fun (z113 : Int) =>
 again42 (z113, ()) w112)))
 (R (.bool true) w44))))
def H23 : Hints := ⟨[(2, 0, [(5, (.one (.int .i64)))]), (2, 2, [(6, (.one (.int .i64)))]), (2, 4, [(8, (.one (.int .i64)))]), (1, 5, [])], [(6, 25), (16, 16), (17, 8)], [], []⟩
set_option maxRecDepth 100000 in
theorem S23_eq (s_0a : Option Addr) (s_0n : Nat) (s_0c : Nat) (s_1a : Option Addr) (s_1n : Nat) (s_1c : Nat) (s_2a : Option Addr) (s_2n : Nat) (s_2c : Nat) (x_a : Option Addr) (x_n : Nat) (x_c : Nat) (w0 : World) (R : Value → World → Prop) : vcFn Tryz.prog H23 Tryz.f23 [(.agg #[(.slice s_0a s_0n s_0c), (.slice s_1a s_1n s_1c), (.slice s_2a s_2n s_2c)]), (.slice x_a x_n x_c)] w0 R = S23 s_0a s_0n s_0c s_1a s_1n s_1c s_2a s_2n s_2c x_a x_n x_c w0 R := by kernel_rfl
set_option maxRecDepth 100000 in
theorem S23_calls (s_0a : Option Addr) (s_0n : Nat) (s_0c : Nat) (s_1a : Option Addr) (s_1n : Nat) (s_1c : Nat) (s_2a : Option Addr) (s_2n : Nat) (s_2c : Nat) (x_a : Option Addr) (x_n : Nat) (x_c : Nat) (w0 : World) (R : Value → World → Prop) (h : S23 s_0a s_0n s_0c s_1a s_1n s_1c s_2a s_2n s_2c x_a x_n x_c w0 R) : Calls Tryz.prog 23 #[(.agg #[(.slice s_0a s_0n s_0c), (.slice s_1a s_1n s_1c), (.slice s_2a s_2n s_2c)]), (.slice x_a x_n x_c)] w0 (ret R) := by
  rw [← S23_eq] at h; exact vcFn_sound follows_ Tryz.func23 h

end Go.Proofs

/- Arguments that came in: slices of any elements as lists; tables. -/



namespace Go.V
open Go Go.RowKit Go.Q

section
variable {P : Program} {w : World} {t e : TypeId}
theorem Read.elems {α : Type} {enc : α → List Value} {R : α → Prop} {sz : Nat} {cs : List Value} (he : ∀ x, (enc x).length = sz) (h0 : 0 < sz) (hE : ∀ ch, Go.Q.Read P w e ch → ∃ x, ch = enc x ∧ R x)
    (ht : P.underlying t = some (.slice e)) (hs : P.cellsOf e = sz) (h : Go.Q.Read P w t cs) : ∃ a n c, ∃ L : List α, cs = [.slice a n c] ∧ L.length = n ∧ Sl w a n c sz (L.flatMap enc) ∧ ∀ x ∈ L, R x := by
  obtain ⟨a, n, c, rfl, h1, h2, h3, h4⟩ := Go.Q.Read.slice ht h
  have ex : ∀ i : Fin n, ∃ x : α, ∃ ad, a = some ad ∧ w.cells? 0 (ad.add (i * sz)) sz = some (enc x) ∧ R x := fun i => by
    obtain ⟨ad, ch, e1, e2, e3⟩ := h4 i i.2
    obtain ⟨x, rfl, hx⟩ := hE ch e3
    rw [hs] at e2
    exact ⟨x, ad, e1, e2, hx⟩
  refine ⟨a, n, c, List.ofFn fun i => Classical.choose (ex i), rfl, by simp, ?_, ?_⟩
  · refine ⟨by rw [flat_len he]; simp, h1, h2, h3, fun j u hj => ?_⟩
    have hj' : j < n * sz := by
      have := (List.getElem?_eq_some_iff.1 hj).1
      rw [flat_len he] at this
      simpa using this
    have hi : j / sz < n := Nat.div_lt_of_lt_mul (by rwa [Nat.mul_comm])
    have ho : j % sz < sz := Nat.mod_lt _ h0
    obtain ⟨ad, e1, e2, _⟩ := Classical.choose_spec (ex ⟨j / sz, hi⟩)
    have hg := flat_get he (L := List.ofFn fun i => Classical.choose (ex i)) (j := j / sz) (p := Classical.choose (ex ⟨j / sz, hi⟩)) (by simp [hi]) ho
    rw [Nat.div_add_mod' j sz, hj] at hg
    obtain ⟨_, e4, e5⟩ := World.cells?_some e2
    have h6 := e5 (j % sz) ho
    rw [add_add] at h6
    simp only at h6
    rw [Nat.div_add_mod', ← hg] at h6
    refine ⟨ad, e1, h6, ?_⟩
    have := cell_lt h6
    rwa [add_block] at this
  · intro x hx
    rw [List.mem_ofFn] at hx
    obtain ⟨i, rfl⟩ := hx
    obtain ⟨ad, e1, e2, e3⟩ := Classical.choose_spec (ex i)
    exact e3
theorem Read.ones {α : Type} {g : α → Value} {R : α → Prop} {cs : List Value} (hE : ∀ ch, Go.Q.Read P w e ch → ∃ x, ch = [g x] ∧ R x)
    (ht : P.underlying t = some (.slice e)) (hs : P.cellsOf e = 1) (h : Go.Q.Read P w t cs) : ∃ a n c, ∃ L : List α, cs = [.slice a n c] ∧ L.length = n ∧ Sl w a n c 1 (L.map g) ∧ ∀ x ∈ L, R x := by
  obtain ⟨a, n, c, L, h1, h2, h3, h4⟩ := Read.elems (enc := fun x => [g x]) (R := R) (fun _ => rfl) Nat.one_pos hE ht hs h
  rw [← List.map_eq_flatMap] at h3
  exact ⟨a, n, c, L, h1, h2, h3, h4⟩
theorem Read.ints {k : IntKind} {cs : List Value} (ht : P.underlying t = some (.slice e)) (he : P.underlying e = some (.int k)) (hs : P.cellsOf e = 1) (h : Go.Q.Read P w t cs) :
    ∃ a n c, ∃ L : List Int, cs = [.slice a n c] ∧ L.length = n ∧ Sl w a n c 1 (ints k L) ∧ ∀ x ∈ L, (Lit.int k x).wf = true :=
  Read.ones (g := Value.int k) (fun _ h => Go.Q.Read.int he h) ht hs h
theorem Read.bools {cs : List Value} (ht : P.underlying t = some (.slice e)) (he : P.underlying e = some .bool) (hs : P.cellsOf e = 1) (h : Go.Q.Read P w t cs) :
    ∃ a n c, ∃ L : List Bool, cs = [.slice a n c] ∧ L.length = n ∧ Sl w a n c 1 (Go.Q.bools L) := by
  obtain ⟨a, n, c, L, h1, h2, h3, _⟩ := Read.ones (g := Value.bool) (R := fun _ => True) (fun _ h => by obtain ⟨b, hb⟩ := Go.Q.Read.bool he h; exact ⟨b, hb, trivial⟩) ht hs h
  exact ⟨a, n, c, L, h1, h2, h3⟩

/-- a table of numbers: a slice of slices -/
structure Tab {α : Type} (g : α → Value) (w : World) (h : Hdr) (T : List (List α)) : Prop where
  ex : ∃ hs : List Hdr, Sl w h.1 h.2.1 h.2.2 1 (hs.map hv) ∧ hs.length = T.length ∧ ∀ (i : Nat) (x : Hdr) (r : List α), hs[i]? = some x → T[i]? = some r → Sl w x.1 x.2.1 x.2.2 1 (r.map g)
abbrev TabI (k : IntKind) (w : World) (h : Hdr) (T : List (List Int)) : Prop := Tab (Value.int k) w h T
theorem Tab.len {α : Type} {g : α → Value} {h : Hdr} {T : List (List α)} (H : Tab g w h T) : T.length = h.2.1 := by
  obtain ⟨hs, h1, h2, _⟩ := H.ex
  have := h1.len
  simp at this
  omega
theorem Tab.up {α : Type} {g : α → Value} {h : Hdr} {T : List (List α)} {w' : World} (H : Tab g w h T) (hb : bel w w') : Tab g w' h T := by
  obtain ⟨hs, h1, h2, h3⟩ := H.ex
  exact ⟨hs, h1.kept hb, h2, fun i x r q1 q2 => (h3 i x r q1 q2).kept hb⟩
/-- a row is read -/
theorem Tab.at {α : Type} {g : α → Value} {h : Hdr} {T : List (List α)} (H : Tab g w h T) {z : Value} {bytes : Nat} (TS : TyS P t e z 1 bytes) (he : scal P e = true) {j : Nat} {k : IntKind} {i : Int} {K : (Option Addr × Nat × Nat) → Prop}
    (hj : i = (j : Int)) (hn : j < h.2.1) (hk : ∀ (x : Hdr) (r : List α), T[j]? = some r → Sl w x.1 x.2.1 x.2.2 1 (r.map g) → K x) :
    rdp P (Instr.indexAt t (.slice h.1 h.2.1 h.2.2) (.int k i)) (.one .addr) fun ad => rd P (Instr.loadAt e (.pointer (some ad))) (.one .slice) w K := by
  have hl := H.len
  obtain ⟨hs, h1, h2, h3⟩ := H.ex
  refine at_hdr TS he h1 hj hn fun x hx => ?_
  obtain ⟨r, hr⟩ : ∃ r, T[j]? = some r := ⟨_, List.getElem?_eq_getElem (by omega)⟩
  exact hk x r hr (h3 j x r hx hr)
/-- an argument that is a table -/
theorem Read.tab {α : Type} {g : α → Value} {R : α → Prop} {u : TypeId} {cs : List Value} (hE : ∀ ch, Go.Q.Read P w u ch → ∃ x, ch = [g x] ∧ R x)
    (ht : P.underlying t = some (.slice e)) (hs : P.cellsOf e = 1) (he : P.underlying e = some (.slice u)) (hs' : P.cellsOf u = 1) (h : Go.Q.Read P w t cs) :
    ∃ x : Hdr, ∃ T : List (List α), cs = [hv x] ∧ Tab g w x T ∧ ∀ r ∈ T, ∀ x ∈ r, R x := by
  obtain ⟨a, n, c, L, h1, h2, h3, h4⟩ := Read.ones (g := hv) (R := fun x : Hdr => ∃ r : List α, Sl w x.1 x.2.1 x.2.2 1 (r.map g) ∧ ∀ y ∈ r, R y) (fun ch hr => by
    obtain ⟨a, n, c, L, h1, h2, h3, h4⟩ := Read.ones (g := g) (R := R) hE he hs' hr
    exact ⟨(a, n, c), h1, L, h3, h4⟩) ht hs h
  have key : ∀ L : List Hdr, (∀ x ∈ L, ∃ r : List α, Sl w x.1 x.2.1 x.2.2 1 (r.map g) ∧ ∀ y ∈ r, R y) → ∃ T : List (List α), L.length = T.length ∧ (∀ (i : Nat) (x : Hdr) (r : List α), L[i]? = some x → T[i]? = some r → Sl w x.1 x.2.1 x.2.2 1 (r.map g)) ∧ ∀ r ∈ T, ∀ x ∈ r, R x := by
    intro L
    induction L with
    | nil => intro _; exact ⟨[], rfl, fun i x r h => by simp at h, by simp⟩
    | cons x L ih =>
      intro h
      obtain ⟨r, hr, hr'⟩ := h x (List.mem_cons_self ..)
      obtain ⟨T, t1, t2, t3⟩ := ih fun y hy => h y (List.mem_cons_of_mem _ hy)
      refine ⟨r :: T, by simp [t1], fun i y s q1 q2 => ?_, fun s hs => ?_⟩
      · cases i with
        | zero => simp at q1 q2; subst q1 q2; exact hr
        | succ i => simp at q1 q2; exact t2 i y s q1 q2
      · rcases List.mem_cons.1 hs with rfl | hs
        · exact hr'
        · exact t3 s hs
  obtain ⟨T, t1, t2, t3⟩ := key L h4
  exact ⟨(a, n, c), T, h1, ⟨L, h3, t1, t2⟩, t3⟩
/-- whole arguments: a struct, an array, a slice -/
theorem Arg.struct {fs : Array Field} {v : Value} (ht : P.underlying t = some (.struct fs)) (h : Arg P w t v) : ∃ cs : Array Value, v = .agg cs ∧ cs.size = P.cellsOf t ∧ ∀ f ∈ fs.toList, Go.Q.Read P w f.type ((cs.toList.drop f.offset).take (P.cellsOf f.type)) := by
  obtain ⟨⟨r, b, ho⟩, hr⟩ := h
  unfold Value.okWide at ho
  rw [ht] at ho
  obtain ⟨cs, rfl, hsz, _⟩ := ho
  exact ⟨cs, rfl, hsz, (Go.Q.Read.struct ht hr).2⟩
theorem Arg.array {n : Nat} {v : Value} (ht : P.underlying t = some (.array n e)) (h : Arg P w t v) : ∃ cs : Array Value, v = .agg cs ∧ cs.size = P.cellsOf t ∧ ∀ i, i < n → Go.Q.Read P w e ((cs.toList.drop (i * P.cellsOf e)).take (P.cellsOf e)) := by
  obtain ⟨⟨r, b, ho⟩, hr⟩ := h
  unfold Value.okWide at ho
  rw [ht] at ho
  obtain ⟨cs, rfl, hsz, _⟩ := ho
  exact ⟨cs, rfl, hsz, (Go.Q.Read.array ht hr).2⟩
theorem Arg.slice {v : Value} (ht : P.underlying t = some (.slice e)) (h : Arg P w t v) : ∃ a n c, v = .slice a n c ∧ Go.Q.Read P w t [v] := by
  obtain ⟨⟨r, b, ho⟩, hr⟩ := h
  unfold Value.okWide Cell.okWide Cell.ok at ho
  simp only [ht] at ho
  cases v with
  | slice a n c => exact ⟨a, n, c, rfl, hr⟩
  | _ => simp at ho
end
end Go.V

/- Loops in the calculus: counting loops, the search of slices.IndexFunc. -/

namespace Go.V
open Go Go.RowKit Go.Q

theorem _root_.Go.Q.Sl.up {w w' : World} {a : Option Addr} {n c sz : Nat} {xs : List Value} (h : Sl w a n c sz xs) (hb : bel w w') : Sl w' a n c sz xs := h.kept hb
/-- a loop that counts from 0 to n -/
theorem loop_up {w0 : World} {body : ((Int × Unit) → World → Prop) → (Int × Unit) → World → Prop} (n : Nat) (I : Nat → World → Prop) (h0 : I 0 w0)
    (h : ∀ i w, i ≤ n → I i w → ∀ again : (Int × Unit) → World → Prop, (∀ w', i < n → I (i + 1) w' → again ((i : Int) + 1, ()) w') → body again ((i : Int), ()) w) : loop (0, ()) w0 body := by
  refine loop_gh (G := Nat) (fun i s w' => s = ((i : Int), ()) ∧ i ≤ n ∧ I i w') (fun i => n - i) 0 ⟨rfl, Nat.zero_le _, h0⟩ ?_
  rintro i s w ⟨rfl, hi, hI⟩ again hag
  exact h i w hi hI again fun w' hlt hI' => hag (i + 1) _ _ ⟨rfl, hlt, hI'⟩ (by omega)
/-- the same with a value that is built; the counter stands behind it -/
theorem loop_upA {A : Type} {a0 : A} {w0 : World} {body : ((A × Int × Unit) → World → Prop) → (A × Int × Unit) → World → Prop} (n : Nat) (I : Nat → A → World → Prop) (h0 : I 0 a0 w0)
    (h : ∀ i a w, i ≤ n → I i a w → ∀ again : (A × Int × Unit) → World → Prop, (∀ a' w', i < n → I (i + 1) a' w' → again (a', (i : Int) + 1, ()) w') → body again (a, (i : Int), ()) w) : loop (a0, 0, ()) w0 body := by
  refine loop_gh (G := Nat) (fun i s w' => s.2 = ((i : Int), ()) ∧ i ≤ n ∧ I i s.1 w') (fun i => n - i) 0 ⟨rfl, Nat.zero_le _, h0⟩ ?_
  rintro i ⟨a, s⟩ w ⟨rfl, hi, hI⟩ again hag
  exact h i a w hi hI again fun a' w' hlt hI' => hag (i + 1) _ _ ⟨rfl, hlt, hI'⟩ (by omega)
/-- the counter stands ahead -/
theorem loop_upB {A : Type} {a0 : A} {w0 : World} {body : ((Int × A × Unit) → World → Prop) → (Int × A × Unit) → World → Prop} (n : Nat) (I : Nat → A → World → Prop) (h0 : I 0 a0 w0)
    (h : ∀ i a w, i ≤ n → I i a w → ∀ again : (Int × A × Unit) → World → Prop, (∀ a' w', i < n → I (i + 1) a' w' → again ((i : Int) + 1, a', ()) w') → body again ((i : Int), a, ()) w) : loop (0, a0, ()) w0 body := by
  refine loop_gh (G := Nat) (fun i s w' => s.1 = (i : Int) ∧ i ≤ n ∧ I i s.2.1 w') (fun i => n - i) 0 ⟨rfl, Nat.zero_le _, h0⟩ ?_
  rintro i ⟨_, a, _⟩ w ⟨rfl, hi, hI⟩ again hag
  exact h i a w hi hI again fun a' w' hlt hI' => hag (i + 1) _ _ ⟨rfl, hlt, hI'⟩ (by omega)

/-- what holds of the first elements -/
theorem pre_step {α : Type} {p : α → Prop} {l : List α} {i : Nat} {y : α} (h : ∀ j, j < i → ∀ x, l[j]? = some x → p x) (hy : l[i]? = some y) (hp : p y) : ∀ j, j < i + 1 → ∀ x, l[j]? = some x → p x := by
  intro j hj x hx
  rcases Nat.lt_or_ge j i with q | q
  · exact h j q x hx
  · have : j = i := by omega
    subst this
    rw [hy] at hx; cases hx; exact hp
theorem pre_zero {α : Type} {p : α → Prop} {l : List α} : ∀ j, j < 0 → ∀ x, l[j]? = some x → p x := fun j h => by omega
theorem pre_all {α : Type} {p : α → Prop} {l : List α} {n : Nat} (h : ∀ j, j < n → ∀ x, l[j]? = some x → p x) (hn : l.length ≤ n) : ∀ x ∈ l, p x := by
  intro x hx
  obtain ⟨j, hj, rfl⟩ := List.mem_iff_getElem.1 hx
  exact h j (by omega) _ (List.getElem?_eq_getElem hj)
theorem mem_at {α : Type} {l : List α} {i : Nat} {y : α} (h : l[i]? = some y) : y ∈ l := List.mem_of_getElem? h

/-- a function is read from memory, and called -/
theorem rdF_box0 {P : Program} {t : TypeId} {w : World} {a : Addr} {cs : List Value} {h : Nat} {fi ca : Array Value} {k : Nat → Array Value → Array Value → Prop} (ht : scal P t = true) (hb : Box w a cs) (hi : cs[0]? = some (.func (.func h) fi ca)) (hk : k h fi ca) :
    rdF P bel (Instr.loadAt t (.pointer (some a))) w k := ⟨h, fi, ca, fun w' hw => by rw [run_loadAt, run_loadVar1 ht (hw.cell (hb.cell0 hi))], hk⟩
theorem callX_of {P : Program} {h : Nat} {args args' : List Value} {r : RS} {w : World} {k : r.T → World → Prop} {fn : Func} (hf : P.funcs[h]? = some fn) (hp : plainF fn = true) (ha : args = args') (hc : call P h args' r w k) : callX P h args r w k := by
  unfold callX; rw [hf]; dsimp only; rw [hp]; subst ha; exact hc

/-- a variable is made and written at once -/
theorem var_mk {P : Program} {e : TypeId} {z v : Value} {w : World} {k : Addr → World → Prop} (hz : zeroOf P e = some z) (hs : sizeIs P e v.cells.size = true) (hl : v.cells.size = z.cells.size) (hp : plainV v.cells.toList = true)
    (hk : ∀ a w', Box w' a v.cells.toList → bel w w' → a.block = w.heap.size → k a w') :
    wr P (Instr.alloc e true (.tuple #[])) (.one .addr) w fun x w1 => wu P (Instr.storeAt e (.pointer (some x)) v) w1 fun w2 => k x w2 := by
  refine wr_alloc hz fun a w1 Z h ha _ => ?_
  refine wu_box Z hs (by rw [hl]; simp) hp fun w2 Z hg _ => ?_
  have e2 : putAt z.cells.toList 0 v.cells.toList = v.cells.toList := by
    have key : ∀ (vs pre cs : List Value), cs.length = vs.length → putAt (pre ++ cs) pre.length vs = pre ++ vs := by
      intro vs
      induction vs with
      | nil => intro pre cs h; rw [List.eq_nil_of_length_eq_zero h]; rfl
      | cons x vs ih =>
        intro pre cs h
        cases cs with
        | nil => simp at h
        | cons c cs =>
          simp only [putAt]
          have h1 : (pre ++ c :: cs).set pre.length x = (pre ++ [x]) ++ cs := by simp
          rw [h1]
          have := ih (pre ++ [x]) cs (by simpa using h)
          simp only [List.length_append, List.length_cons, List.length_nil, Nat.zero_add] at this
          rw [this]; simp
    have := key v.cells.toList [] z.cells.toList (by simp [hl])
    simpa using this
  rw [e2] at Z
  exact hk _ _ Z (h.grownAt hg (by omega)) ha

/-- where a test first holds; -1: nowhere -/
def idxI {β : Type} (q : β → Bool) (ys : List β) : Int :=
  match ys.findIdx? q with
  | some i => (i : Int) | none => -1
theorem idxI_any {β : Type} (q : β → Bool) (ys : List β) : decide (idxI q ys ≥ 0) = ys.any q := by
  unfold idxI
  rw [← List.findIdx?_isSome]
  cases ys.findIdx? q with
  | none => rfl
  | some i => simp
/-- the loop of slices.IndexFunc -/
theorem idx_loop {P : Program} {t e : TypeId} {vs : VS} {f : FuncId} {fargs : vs.T → List Value} {a : Option Addr} {n c : Nat} {R : Value → World → Prop} {w0 : World} {β : Type} (xs : List vs.T) (ys : List β) (q : β → Bool) (hn : xs.length = n) (hy : ys.length = n) (hm : n ≤ 9223372036854775807)
    (RD : ∀ (j : Nat) (x : vs.T), xs[j]? = some x → ∀ w', bel w0 w' → ∀ K : vs.T → Prop, K x → rdp P (Instr.indexAt t (.slice a n c) (.int .i64 (j : Int))) (.one .addr) fun ad => rd P (Instr.loadAt e (.pointer (some ad))) vs w' K)
    (CALL : ∀ (j : Nat) (x : vs.T) (y : β), xs[j]? = some x → ys[j]? = some y → ∀ w', bel w0 w' → call P f (fargs x) (.one (.one .bool)) w' fun b w'' => b = q y ∧ bel w' w'')
    (hk : ∀ w', bel w0 w' → R (.int .i64 (idxI q ys)) w') :
    loop (T := (Int × Unit)) (0, ()) w0 fun (again1 : (Int × Unit) → World → Prop) (s2 : (Int × Unit)) w3 => ∀ _ : Nat → Value,
      br (decide (s2.1 < ((n : Nat) : Int))) (rdp P (Instr.indexAt t (.slice a n c) (.int .i64 s2.1)) (.one .addr) fun (x4 : Addr) =>
      rd P (Instr.loadAt e (.pointer (some x4))) vs w3 fun x5 =>
      call P f (fargs x5) (.one (.one .bool)) w3 fun (x6 : Bool) (w7 : World) =>
      br x6 (R (.int .i64 s2.1) w7)
      (z (IntKind.wrap .i64 (s2.1 + 1)) fun (z8 : Int) =>
      again1 (z8, ()) w7))
      (R (.int .i64 (-1)) w3) := by
  refine loop_up n (fun i w' => bel w0 w' ∧ ∀ j, j < i → ∀ y, ys[j]? = some y → q y = false) ⟨bel.refl _, fun j h => by omega⟩ ?_
  rintro i w hi ⟨hb, hq⟩ again hag _
  refine br_dec (fun e => ?_) (fun e => ?_)
  · dsimp only at e
    have hi' : i < n := by omega
    have hx : xs[i]? = some (xs[i]'(by omega)) := List.getElem?_eq_getElem (by omega)
    have hy' : ys[i]? = some (ys[i]'(by omega)) := List.getElem?_eq_getElem (by omega)
    refine RD i _ hx w hb _ ?_
    refine call_mono (CALL i _ _ hx hy' w hb) ?_
    rintro b w2 ⟨rfl, hb2⟩
    refine br_mk (fun hq' => ?_) (fun hq' => ?_)
    · have : idxI q ys = (i : Int) := by
        unfold idxI
        rw [List.findIdx?_eq_some_iff_getElem.2 ⟨by omega, hq', fun j hj => by
          have := hq j hj _ (List.getElem?_eq_getElem (by omega))
          simp [this]⟩]
      rw [← this]
      exact hk _ (hb.trans hb2)
    · refine z_i64 (by dsimp only; omega) ?_
      refine hag _ hi' ⟨hb.trans hb2, fun j hj y hy2 => ?_⟩
      rcases Nat.lt_or_ge j i with h | h
      · exact hq j h y hy2
      · have : j = i := by omega
        subst this
        rw [hy'] at hy2; cases hy2; exact hq'
  · dsimp only at e
    have hi' : i = n := by omega
    have : idxI q ys = -1 := by
      unfold idxI
      rw [List.findIdx?_eq_none_iff.2 fun y hy' => by
        obtain ⟨j, hj, rfl⟩ := List.mem_iff_getElem.1 hy'
        exact hq j (by omega) _ (List.getElem?_eq_getElem hj)]
    rw [← this]
    exact hk _ hb
/-- .. over numbers -/
theorem idx_ints {P : Program} {t e : TypeId} {z0 : Value} {bytes : Nat} (TS : TyS P t e z0 1 bytes) (he : scal P e = true) {kk : IntKind} {f : FuncId} {fargs : Int → List Value} {a : Option Addr} {n c : Nat} {w0 : World} {xs : List Int} (H : Sl w0 a n c 1 (ints kk xs)) (q : Int → Bool)
    (CALL : ∀ (j : Nat) (x : Int), xs[j]? = some x → ∀ w', bel w0 w' → call P f (fargs x) (.one (.one .bool)) w' fun b w'' => b = q x ∧ bel w' w'') :
    loop (T := (Int × Unit)) (0, ()) w0 fun (again1 : (Int × Unit) → World → Prop) (s2 : (Int × Unit)) w3 => ∀ _ : Nat → Value,
      br (decide (s2.1 < ((n : Nat) : Int))) (rdp P (Instr.indexAt t (.slice a n c) (.int .i64 s2.1)) (.one .addr) fun (x4 : Addr) =>
      rd P (Instr.loadAt e (.pointer (some x4))) (.one (.int kk)) w3 fun (x5 : Int) =>
      call P f (fargs x5) (.one (.one .bool)) w3 fun (x6 : Bool) (w7 : World) =>
      br x6 ((fun (v : Value) (w' : World) => ∃ x : Int, v = (RS.one (.one (.int .i64))).val x ∧ x = idxI q xs ∧ bel w0 w') (.int .i64 s2.1) w7)
      (z (IntKind.wrap .i64 (s2.1 + 1)) fun (z8 : Int) =>
      again1 (z8, ()) w7))
      ((fun (v : Value) (w' : World) => ∃ x : Int, v = (RS.one (.one (.int .i64))).val x ∧ x = idxI q xs ∧ bel w0 w') (.int .i64 (-1)) w3) := by
  have hl := H.int
  refine idx_loop (R := (fun (v : Value) (w' : World) => ∃ x : Int, v = (RS.one (.one (.int .i64))).val x ∧ x = idxI q xs ∧ bel w0 w')) (vs := .one (.int kk)) (fargs := fargs) xs xs q hl hl H.le (fun j x hx w' hb K hk => ?_) (fun j x y hx hy w' hb => ?_) (fun w' hb => ⟨_, rfl, rfl, hb⟩)
  · have hx' : (xs : List Int)[j]? = some (x : Int) := hx
    exact at_int TS he (H.kept hb) rfl (by have := (List.getElem?_eq_some_iff.1 hx').1; omega) (fun y hy => by rw [hx'] at hy; cases hy; exact hk)
  · have hx' : (xs : List Int)[j]? = some (x : Int) := hx
    rw [hx'] at hy; cases hy
    exact CALL j x hx' w' hb
/-- .. over the rows of a table -/
theorem idx_tab {P : Program} {t e : TypeId} {z0 : Value} {bytes : Nat} (TS : TyS P t e z0 1 bytes) (he : scal P e = true) {α : Type} {g : α → Value} {f : FuncId} {fargs : Hdr → List Value} {r : Hdr} {w0 : World} {T : List (List α)} (H : Tab g w0 r T) (q : List α → Bool)
    (CALL : ∀ (j : Nat) (x : Hdr) (y : List α), T[j]? = some y → Sl w0 x.1 x.2.1 x.2.2 1 (y.map g) → ∀ w', bel w0 w' → call P f (fargs x) (.one (.one .bool)) w' fun b w'' => b = q y ∧ bel w' w'') :
    loop (T := (Int × Unit)) (0, ()) w0 fun (again1 : (Int × Unit) → World → Prop) (s2 : (Int × Unit)) w3 => ∀ _ : Nat → Value,
      br (decide (s2.1 < ((r.2.1 : Nat) : Int))) (rdp P (Instr.indexAt t (.slice r.1 r.2.1 r.2.2) (.int .i64 s2.1)) (.one .addr) fun (x4 : Addr) =>
      rd P (Instr.loadAt e (.pointer (some x4))) (.one .slice) w3 fun (x5 : Option Addr × Nat × Nat) =>
      call P f (fargs x5) (.one (.one .bool)) w3 fun (x6 : Bool) (w7 : World) =>
      br x6 ((fun (v : Value) (w' : World) => ∃ x : Int, v = (RS.one (.one (.int .i64))).val x ∧ x = idxI q T ∧ bel w0 w') (.int .i64 s2.1) w7)
      (z (IntKind.wrap .i64 (s2.1 + 1)) fun (z8 : Int) =>
      again1 (z8, ()) w7))
      ((fun (v : Value) (w' : World) => ∃ x : Int, v = (RS.one (.one (.int .i64))).val x ∧ x = idxI q T ∧ bel w0 w') (.int .i64 (-1)) w3) := by
  obtain ⟨hs, h1, h2, h3⟩ := H.ex
  have hl : hs.length = r.2.1 := by have := h1.len; simpa using this
  refine idx_loop (R := (fun (v : Value) (w' : World) => ∃ x : Int, v = (RS.one (.one (.int .i64))).val x ∧ x = idxI q T ∧ bel w0 w')) (vs := .one .slice) (fargs := fargs) hs T q hl (by omega) h1.le (fun j x hx w' hb K hk => ?_) (fun j x y hx hy w' hb => ?_) (fun w' hb => ⟨_, rfl, rfl, hb⟩)
  · have hx' : (hs : List Hdr)[j]? = some (x : Hdr) := hx
    exact at_hdr TS he (h1.kept hb) rfl (by have := (List.getElem?_eq_some_iff.1 hx').1; omega) (fun y hy => by rw [hx'] at hy; cases hy; exact hk)
  · have hx' : (hs : List Hdr)[j]? = some (x : Hdr) := hx
    exact CALL j x y hy (h3 j x y hx' hy) w' hb
/-- .. over records -/
theorem idx_aggs {P : Program} {t e : TypeId} {z0 : Value} {sz bytes : Nat} (TS : TyS P t e z0 sz bytes) (ht : aggOf P e sz = true) {α : Type} {enc : α → List Value} (he : ∀ a, (enc a).length = sz) (h0 : 0 < sz) {l : List Sh} {dec : α → LT l} (hd : ∀ a, Lget l (enc a) = some (dec a)) {f : FuncId} {fargs : LT l → List Value} {a : Option Addr} {n c : Nat} {w0 : World} {L : List α} (H : Sl w0 a n c sz (L.flatMap enc)) (q : α → Bool)
    (CALL : ∀ (j : Nat) (x : α), L[j]? = some x → ∀ w', bel w0 w' → call P f (fargs (dec x)) (.one (.one .bool)) w' fun b w'' => b = q x ∧ bel w' w'') :
    loop (T := (Int × Unit)) (0, ()) w0 fun (again1 : (Int × Unit) → World → Prop) (s2 : (Int × Unit)) w3 => ∀ _ : Nat → Value,
      br (decide (s2.1 < ((n : Nat) : Int))) (rdp P (Instr.indexAt t (.slice a n c) (.int .i64 s2.1)) (.one .addr) fun (x4 : Addr) =>
      rd P (Instr.loadAt e (.pointer (some x4))) (.agg l) w3 fun (x5 : LT l) =>
      call P f (fargs x5) (.one (.one .bool)) w3 fun (x6 : Bool) (w7 : World) =>
      br x6 ((fun (v : Value) (w' : World) => ∃ x : Int, v = (RS.one (.one (.int .i64))).val x ∧ x = idxI q L ∧ bel w0 w') (.int .i64 s2.1) w7)
      (z (IntKind.wrap .i64 (s2.1 + 1)) fun (z8 : Int) =>
      again1 (z8, ()) w7))
      ((fun (v : Value) (w' : World) => ∃ x : Int, v = (RS.one (.one (.int .i64))).val x ∧ x = idxI q L ∧ bel w0 w') (.int .i64 (-1)) w3) := by
  have hl : L.length = n := by
    have := H.len
    rw [flat_len he] at this
    exact Nat.eq_of_mul_eq_mul_right h0 this
  refine idx_loop (R := (fun (v : Value) (w' : World) => ∃ x : Int, v = (RS.one (.one (.int .i64))).val x ∧ x = idxI q L ∧ bel w0 w')) (vs := .agg l) (fargs := fargs) (L.map dec) L q ((List.length_map ..).trans hl) hl H.le (fun j x hx w' hb K hk => ?_) (fun j x y hx hy w' hb => ?_) (fun w' hb => ⟨_, rfl, rfl, hb⟩)
  · have hx' : (L.map dec)[j]? = some x := hx
    rw [List.getElem?_map] at hx'
    cases hp : L[j]? with
    | none => rw [hp] at hx'; cases hx'
    | some p =>
      rw [hp] at hx'
      cases hx'
      exact at_agg TS ht he h0 (H.kept hb) rfl hp (hd p) hk
  · have hx' : (L.map dec)[j]? = some x := hx
    rw [List.getElem?_map, hy] at hx'
    cases hx'
    exact CALL j y hy w' hb
end Go.V

/- Systems of equations: reading them, and when they are valid: the reference. -/



namespace Go.Proofs.YtajpdnphamomjaaGreat
open Go.RowKit Go.Q Go.Q.Num Go.V

theorem tyI64 : TyS Tryz.prog 26 2 (.int .i64 0) 1 8 := ⟨by kernel_rfl, by kernel_rfl⟩
theorem tyTab : TyS Tryz.prog 27 26 (.slice none 0 0) 1 24 := ⟨by kernel_rfl, by kernel_rfl⟩
theorem tyFr : TyS Tryz.prog 32 60 (.agg #[.int .i64 0, .int .i64 0]) 2 16 := ⟨by kernel_rfl, by kernel_rfl⟩
/-- a system in memory -/
structure Sys (w : World) (u r b : Hdr) (up : List Int) (T : List (List Int)) (rt : List Int) : Prop where
  u : Sl w u.1 u.2.1 u.2.2 1 (ints .i64 up)
  r : TabI .i64 w r T
  b : Sl w b.1 b.2.1 b.2.2 1 (ints .i64 rt)
theorem Sys.up {w w' : World} {u r b : Hdr} {up : List Int} {T : List (List Int)} {rt : List Int} (H : Sys w u r b up T rt) (h : bel w w') : Sys w' u r b up T rt := ⟨H.u.kept h, H.r.up h, H.b.kept h⟩
abbrev sysv (u r b : Hdr) : Value := .agg #[.slice u.1 u.2.1 u.2.2, .slice r.1 r.2.1 r.2.2, .slice b.1 b.2.1 b.2.2]
abbrev sysc (u r b : Hdr) : List Value := [.slice u.1 u.2.1 u.2.2, .slice r.1 r.2.1 r.2.2, .slice b.1 b.2.1 b.2.2]

/-- small numbers; right lengths -/
def SysR (up : List Int) (T : List (List Int)) (rt : List Int) : Prop :=
  (∀ x ∈ up, 0 ≤ x ∧ x ≤ 1000000000) ∧ (∀ x ∈ rt, -1000000000 ≤ x ∧ x ≤ 1000000000) ∧ (∀ r ∈ T, ∀ x ∈ r, -1000000 ≤ x ∧ x ≤ 1000000)
def SysA (up : List Int) (T : List (List Int)) (rt : List Int) : Prop := rt.length = T.length ∧ ∀ r ∈ T, r.length = up.length
instance (up : List Int) (T : List (List Int)) (rt : List Int) : Decidable (SysR up T rt) := by unfold SysR; infer_instance
instance (up : List Int) (T : List (List Int)) (rt : List Int) : Decidable (SysA up T rt) := by unfold SysA; infer_instance
/-- what is wrong with a system -/
def sysE (up : List Int) (T : List (List Int)) (rt : List Int) : Int :=
  if 200 < up.length ∨ 100 < T.length then 8 else if SysR up T rt then (if SysA up T rt then 0 else 9) else 8
section
variable {up : List Int} {T : List (List Int)} {rt : List Int}
theorem sysE_1 (h : 200 < up.length) : sysE up T rt = 8 := by unfold sysE; rw [if_pos (.inl h)]
theorem sysE_2 (h : 100 < T.length) : sysE up T rt = 8 := by unfold sysE; rw [if_pos (.inr h)]
theorem sysE_3 (h : ¬ SysR up T rt) : sysE up T rt = 8 := by unfold sysE; split <;> first | rfl | rw [if_neg h]
theorem sysE_4 (h1 : ¬ 200 < up.length) (h2 : ¬ 100 < T.length) (h3 : SysR up T rt) (h4 : ¬ SysA up T rt) : sysE up T rt = 9 := by unfold sysE; rw [if_neg (by rintro (h | h); exact h1 h; exact h2 h), if_pos h3, if_neg h4]
theorem sysE_0 (h1 : ¬ 200 < up.length) (h2 : ¬ 100 < T.length) (h3 : SysR up T rt) (h4 : SysA up T rt) : sysE up T rt = 0 := by unfold sysE; rw [if_neg (by rintro (h | h); exact h1 h; exact h2 h), if_pos h3, if_pos h4]
theorem sysE_ok (h : sysE up T rt = 0) : up.length ≤ 200 ∧ T.length ≤ 100 ∧ SysR up T rt ∧ SysA up T rt := by
  unfold sysE at h
  split at h
  · omega
  · rename_i hn
    split at h
    · split at h
      · rename_i h1 h2; exact ⟨by omega, by omega, h1, h2⟩
      · omega
    · omega
end

/-- the reference's test of a number -/
theorem withinF (n m : Int) (w : World) (h : 0 ≤ m ∧ m ≤ 1000000000) : call Tryz.prog 27 [.int .i64 n, .int .i64 m] (.one (.one .bool)) w (fun x w' => x = (decide (-m ≤ n) && decide (n ≤ m)) ∧ bel w w') := by
  refine call_of (S27_calls n m w _ ?_)
  unfold S27
  refine z_i64 (by omega) ?_
  refine br_dec (fun e => ⟨_, rfl, ?_, bel.refl _⟩) (fun e => ⟨_, rfl, ?_, bel.refl _⟩)
  · rw [decide_eq_true (show -m ≤ n by omega), Bool.true_and]
  · rw [decide_eq_false (show ¬ -m ≤ n by omega), Bool.false_and]

set_option maxHeartbeats 1000000 in
theorem valid11 (u r b : Hdr) (up : List Int) (T : List (List Int)) (rt : List Int) (w : World) (H : Sys w u r b up T rt) :
    call Tryz.prog 14 [sysv u r b] (.one (.one (.int .i64))) w (fun x w' => x = sysE up T rt ∧ bel w w') := by
  refine call_of (S14_calls u.1 u.2.1 u.2.2 r.1 r.2.1 r.2.2 b.1 b.2.1 b.2.2 w _ ?_)
  unfold S14
  have hu := H.u.int
  have hT := H.r.len
  have hb := H.b.int
  have ku := H.u.le
  have kb := H.b.le
  refine wr_box fun x1 w2 X h _ _ => ?_
  replace X : Box w2 x1 (sysc u r b) := X
  replace H := H.up h
  have kT : r.2.1 ≤ 9223372036854775807 := by obtain ⟨hs, q, _⟩ := H.r.ex; exact q.le
  refine rd_box0 (by kernel_rfl) X rfl rfl ?_
  refine br_dec (fun e => ⟨_, rfl, (sysE_1 (by dsimp only at e; omega)).symm, h⟩) (fun e1 => ?_)
  refine rd_box (by kernel_rfl) X (i := 1) rfl rfl ?_
  refine br_dec (fun e => ⟨_, rfl, (sysE_2 (by dsimp only at e; omega)).symm, h⟩) (fun e2 => ?_)
  dsimp only at e1 e2
  refine loop_up u.2.1 (fun i w' => bel w2 w' ∧ ∀ j, j < i → ∀ x, up[j]? = some x → 0 ≤ x ∧ x ≤ 1000000000) ⟨bel.refl _, pre_zero⟩ fun i w7 hi ⟨hw, hq⟩ again hag _ => ?_
  refine rd_box0 (by kernel_rfl) (X.up hw) rfl rfl ?_
  refine br_dec (fun e => ?_) (fun e => ?_)
  · dsimp only at e
    refine rd_box0 (by kernel_rfl) (X.up hw) rfl rfl ?_
    refine at_int tyI64 (by kernel_rfl) (H.up hw).u rfl (by omega) fun x hx => ?_
    refine br_dec (fun e3 => ⟨_, rfl, (sysE_3 fun q => ?_).symm, h.trans hw⟩) (fun e3 => ?_)
    · have := q.1 x (mem_at hx); omega
    refine rd_box0 (by kernel_rfl) (X.up hw) rfl rfl ?_
    refine at_int tyI64 (by kernel_rfl) (H.up hw).u rfl (by omega) fun y hy => ?_
    rw [hx] at hy; cases hy
    refine br_dec (fun e3 => ⟨_, rfl, (sysE_3 fun q => ?_).symm, h.trans hw⟩) (fun e4 => ?_)
    · have := q.1 x (mem_at hx); omega
    refine z_i64 (by dsimp only; omega) ?_
    exact hag _ (by omega) ⟨hw, pre_step hq hx (by omega)⟩
  dsimp only at e
  have Q1 := pre_all hq (by omega)
  clear hq hag again
  have h := h.trans hw; replace X := X.up hw; replace H := H.up hw; clear hw hi e
  refine loop_up b.2.1 (fun i w' => bel w7 w' ∧ ∀ j, j < i → ∀ x, rt[j]? = some x → -1000000000 ≤ x ∧ x ≤ 1000000000) ⟨bel.refl _, pre_zero⟩ fun i w8 hi ⟨hw, hq⟩ again hag _ => ?_
  refine rd_box (by kernel_rfl) (X.up hw) (i := 2) rfl rfl ?_
  refine br_dec (fun e => ?_) (fun e => ?_)
  · dsimp only at e
    refine rd_box (by kernel_rfl) (X.up hw) (i := 2) rfl rfl ?_
    refine at_int tyI64 (by kernel_rfl) (H.up hw).b rfl (by omega) fun x hx => ?_
    refine call_mono (withinF x 1000000000 w8 (by omega)) ?_
    rintro _ w9 ⟨rfl, h'⟩
    replace hw := hw.trans h'
    refine br_not (fun e3 => ⟨_, rfl, (sysE_3 fun q => ?_).symm, h.trans hw⟩) (fun e3 => ?_)
    · have := q.2.1 x (mem_at hx); simp at e3; omega
    refine z_i64 (by dsimp only; omega) ?_
    simp only [Bool.and_eq_true, decide_eq_true_eq] at e3
    exact hag _ (by omega) ⟨hw, pre_step hq hx e3⟩
  dsimp only at e
  have Q2 := pre_all hq (by omega)
  clear hq hag again
  replace h := h.trans hw; replace X := X.up hw; replace H := H.up hw; clear hw hi e
  refine loop_up r.2.1 (fun i w' => bel w8 w' ∧ ∀ j, j < i → ∀ q, T[j]? = some q → ∀ x ∈ q, -1000000 ≤ x ∧ x ≤ 1000000) ⟨bel.refl _, pre_zero⟩ fun i w9 hi ⟨hw, hq⟩ again hag _ => ?_
  refine rd_box (by kernel_rfl) (X.up hw) (i := 1) rfl rfl ?_
  refine br_dec (fun e => ?_) (fun e => ?_)
  · dsimp only at e
    obtain ⟨row, hrow⟩ : ∃ row, T[i]? = some row := ⟨_, List.getElem?_eq_getElem (by omega)⟩
    refine loop_up row.length (fun k w' => bel w9 w' ∧ ∀ j, j < k → ∀ x, row[j]? = some x → -1000000 ≤ x ∧ x ≤ 1000000) ⟨bel.refl _, pre_zero⟩ fun k w10 hk ⟨hw', hq'⟩ again' hag' _ => ?_
    have hwk := hw.trans hw'
    refine rd_box (by kernel_rfl) (X.up hwk) (i := 1) rfl rfl ?_
    refine (H.up hwk).r.at tyTab (by kernel_rfl) rfl (by omega) fun y row' h1 HR => ?_
    rw [hrow] at h1; cases h1
    have hrl : row.length = y.2.1 := Sl.int HR
    have krl := HR.le
    refine br_dec (fun e => ?_) (fun e => ?_)
    · dsimp only at e
      refine rd_box (by kernel_rfl) (X.up hwk) (i := 1) rfl rfl ?_
      refine (H.up hwk).r.at tyTab (by kernel_rfl) rfl (by omega) fun y' row' h1 HR' => ?_
      rw [hrow] at h1; cases h1
      have hrl' : row.length = y'.2.1 := Sl.int HR'
      refine at_int tyI64 (by kernel_rfl) HR' rfl (by omega) fun x hx => ?_
      refine call_mono (withinF x 1000000 w10 (by omega)) ?_
      rintro _ w11 ⟨rfl, h'⟩
      replace hw' := hw'.trans h'
      refine br_not (fun e3 => ⟨_, rfl, (sysE_3 fun q => ?_).symm, h.trans (hw.trans hw')⟩) (fun e3 => ?_)
      · have := q.2.2 row (mem_at hrow) x (mem_at hx); simp at e3; omega
      refine z_i64 (by dsimp only; omega) ?_
      simp only [Bool.and_eq_true, decide_eq_true_eq] at e3
      exact hag' _ (by omega) ⟨hw', pre_step hq' hx e3⟩
    · dsimp only at e
      refine z_i64 (by dsimp only; omega) ?_
      exact hag _ (by omega) ⟨hwk, pre_step hq hrow (pre_all hq' (by omega))⟩
  dsimp only at e
  have Q3 := pre_all hq (by omega)
  clear hq hag again
  replace h := h.trans hw; replace X := X.up hw; replace H := H.up hw; clear hw hi e
  have HR : SysR up T rt := ⟨Q1, Q2, Q3⟩
  refine rd_box (by kernel_rfl) X (i := 2) rfl rfl ?_
  refine rd_box (by kernel_rfl) X (i := 1) rfl rfl ?_
  refine br_ne (fun e => ⟨_, rfl, (sysE_4 (by omega) (by omega) HR fun q => ?_).symm, h⟩) (fun e4 => ?_)
  · have := q.1; dsimp only at e; omega
  dsimp only at e4
  refine loop_up r.2.1 (fun i w' => bel w9 w' ∧ ∀ j, j < i → ∀ q, T[j]? = some q → q.length = up.length) ⟨bel.refl _, pre_zero⟩ fun i w10 hi ⟨hw, hq⟩ again hag _ => ?_
  refine rd_box (by kernel_rfl) (X.up hw) (i := 1) rfl rfl ?_
  refine br_dec (fun e => ?_) (fun e => ?_)
  · dsimp only at e
    refine drw_mk fun w11 h' _ => ?_
    replace hw := hw.trans h'
    refine rd_box (by kernel_rfl) (X.up hw) (i := 1) rfl rfl ?_
    refine (H.up hw).r.at tyTab (by kernel_rfl) rfl (by omega) fun y row h1 HR' => ?_
    have hrl : row.length = y.2.1 := Sl.int HR'
    refine rd_box0 (by kernel_rfl) (X.up hw) rfl rfl ?_
    refine br_ne (fun e => ⟨_, rfl, (sysE_4 (by omega) (by omega) HR fun q => ?_).symm, h.trans hw⟩) (fun e5 => ?_)
    · have := q.2 row (mem_at h1); dsimp only at e; omega
    dsimp only at e5
    refine z_i64 (by dsimp only; omega) ?_
    exact hag _ (by omega) ⟨hw, pre_step hq h1 (by omega)⟩
  · dsimp only at e
    exact ⟨_, rfl, (sysE_0 (by omega) (by omega) HR ⟨by omega, pre_all hq (by omega)⟩).symm, h.trans hw⟩
abbrev OwnI (w : World) (B : Nat) (h : Hdr) (xs : List Int) : Prop := Own w B 2 1 h.1 h.2.1 h.2.2 (ints .i64 xs)
theorem OwnI.len {w : World} {B : Nat} {h : Hdr} {xs : List Int} (H : OwnI w B h xs) : xs.length = h.2.1 := H.sl.int
end Go.Proofs.YtajpdnphamomjaaGreat

/- When a system is valid: the program. -/

namespace Go.Proofs.YtajpdnphamomjaaGreat
open Go.RowKit Go.Q Go.Q.Num Go.V

def outB (lo hi n : Int) : Bool := decide (n < lo) || decide (n > hi)
theorem outB_f {lo hi n : Int} (h : outB lo hi n = false) : lo ≤ n ∧ n ≤ hi := by unfold outB at h; simp at h; omega
theorem outB_t {lo hi n : Int} (h : outB lo hi n = true) : ¬ (lo ≤ n ∧ n ≤ hi) := by unfold outB at h; simp at h; omega
theorem any_f {α : Type} {p : α → Bool} {l : List α} (h : l.any p = false) : ∀ x ∈ l, p x = false := by simpa using h
theorem any_t {α : Type} {p : α → Bool} {l : List α} (h : l.any p = true) : ∃ x ∈ l, p x = true := by simpa using h
theorem outsideF (n lo hi : Int) (w : World) : call Tryz.prog 34 [.int .i64 n, .int .i64 lo, .int .i64 hi] (.one (.one .bool)) w (fun x w' => x = outB lo hi n ∧ bel w w') := by
  refine call_of (S34_calls n lo hi w _ ?_)
  unfold S34
  refine br_dec (fun e => ⟨_, rfl, ?_, bel.refl _⟩) (fun e => ⟨_, rfl, ?_, bel.refl _⟩)
  · unfold outB; rw [decide_eq_true e, Bool.true_or]
  · unfold outB; rw [decide_eq_false e, Bool.false_or]
theorem valid11F (n lo hi : Int) (c0 c1 : Addr) (w : World) (X0 : Box w c0 [.int .i64 lo]) (X1 : Box w c1 [.int .i64 hi]) :
    call Tryz.prog 33 [.int .i64 n, .pointer (some c0), .pointer (some c1)] (.one (.one .bool)) w (fun x w' => x = outB lo hi n ∧ bel w w') := by
  refine call_of (S33_calls n c0 c1 w _ ?_)
  unfold S33
  refine rd_box0 (by kernel_rfl) X0 rfl rfl ?_
  refine rd_box0 (by kernel_rfl) X1 rfl rfl ?_
  refine call_mono (outsideF n lo hi w) ?_
  rintro x w2 ⟨rfl, h⟩
  exact ⟨_, rfl, rfl, h⟩
theorem hasA (a : Option Addr) (n c : Nat) (xs : List Int) (lo hi : Int) (c0 c1 : Addr) (w : World) (H : Sl w a n c 1 (ints .i64 xs)) (X0 : Box w c0 [.int .i64 lo]) (X1 : Box w c1 [.int .i64 hi]) :
    call Tryz.prog 32 [.slice a n c, .func (.func 33) #[] #[.pointer (some c0), .pointer (some c1)]] (.one (.one .bool)) w (fun x w' => x = xs.any (outB lo hi) ∧ bel w w') := by
  refine call_of (S32a_calls a n c c0 c1 w _ ?_)
  unfold S32a
  refine call_mono (r := .one (.one (.int .i64))) (Q := fun x w' => x = idxI (outB lo hi) xs ∧ bel w w') (call_of (S58a_calls a n c c0 c1 w _ ?_)) ?_
  · unfold S58a
    exact idx_ints tyI64 (by kernel_rfl) (fargs := fun x5 => [.int .i64 x5, .pointer (some c0), .pointer (some c1)]) H (outB lo hi) (fun j x hx w' hb => valid11F x lo hi c0 c1 w' (X0.up hb) (X1.up hb))
  · rintro x w2 ⟨rfl, hb⟩
    exact ⟨_, rfl, idxI_any _ _, hb⟩
theorem wideF (a : Option Addr) (n c : Nat) (xs : List Int) (lo hi : Int) (w : World) (H : Sl w a n c 1 (ints .i64 xs)) :
    call Tryz.prog 31 [.slice a n c, .int .i64 lo, .int .i64 hi] (.one (.one .bool)) w (fun x w' => x = xs.any (outB lo hi) ∧ bel w w') := by
  refine call_of (S31_calls a n c lo hi w _ ?_)
  unfold S31
  refine wr_box fun x1 w2 X h _ _ => ?_
  refine wr_box fun x3 w4 Y h' _ _ => ?_
  replace h := h.trans h'; replace X := X.up h'; clear h'
  refine call_mono (hasA a n c xs lo hi x1 x3 w4 (H.kept h) X Y) ?_
  rintro x w6 ⟨rfl, h'⟩
  exact ⟨_, rfl, rfl, h.trans h'⟩
set_option maxRecDepth 100000 in
theorem valid2F (a : Option Addr) (n c : Nat) (xs : List Int) (c0 : Addr) (w : World) (H : Sl w a n c 1 (ints .i64 xs)) (X0 : Box w c0 [.func (.func 31) #[] #[]]) :
    call Tryz.prog 36 [.slice a n c, .pointer (some c0)] (.one (.one .bool)) w (fun x w' => x = xs.any (outB (-1000000) 1000000) ∧ bel w w') := by
  refine call_of (S36_calls a n c c0 w _ ?_)
  unfold S36
  refine rdF_box0 (by kernel_rfl) X0 rfl ?_
  refine callX_of Tryz.func31 (by kernel_rfl) rfl ?_
  refine call_mono (wideF a n c xs _ _ w H) ?_
  rintro x w2 ⟨rfl, h⟩
  exact ⟨_, rfl, rfl, h⟩
theorem valid3F (a : Option Addr) (n c : Nat) (c0 : Addr) (v : Hdr) (v1 v2 : Value) (w : World) (X0 : Box w c0 [.slice v.1 v.2.1 v.2.2, v1, v2]) :
    call Tryz.prog 37 [.slice a n c, .pointer (some c0)] (.one (.one .bool)) w (fun x w' => x = ((n : Int) != (v.2.1 : Int)) ∧ bel w w') := by
  refine call_of (S37_calls a n c c0 w _ ?_)
  unfold S37
  refine rd_box0 (by kernel_rfl) X0 rfl rfl ?_
  exact ⟨_, rfl, rfl, bel.refl _⟩
theorem hasB (r : Hdr) (T : List (List Int)) (c0 : Addr) (w : World) (H : TabI .i64 w r T) (X0 : Box w c0 [.func (.func 31) #[] #[]]) :
    call Tryz.prog 35 [.slice r.1 r.2.1 r.2.2, .func (.func 36) #[] #[.pointer (some c0)]] (.one (.one .bool)) w (fun x w' => x = T.any (fun q => q.any (outB (-1000000) 1000000)) ∧ bel w w') := by
  refine call_of (S35b_calls r.1 r.2.1 r.2.2 c0 w _ ?_)
  unfold S35b
  refine call_mono (r := .one (.one (.int .i64))) (Q := fun x w' => x = idxI (fun q => q.any (outB (-1000000) 1000000)) T ∧ bel w w') (call_of (S59b_calls r.1 r.2.1 r.2.2 c0 w _ ?_)) ?_
  · unfold S59b
    exact idx_tab tyTab (by kernel_rfl) (fargs := fun x5 => [.slice x5.1 x5.2.1 x5.2.2, .pointer (some c0)]) H (fun q => q.any (outB (-1000000) 1000000)) (fun j x y hy hr w' hb => valid2F x.1 x.2.1 x.2.2 y c0 w' (hr.kept hb) (X0.up hb))
  · rintro x w2 ⟨rfl, hb⟩
    exact ⟨_, rfl, idxI_any _ _, hb⟩
theorem hasC (r : Hdr) (T : List (List Int)) (c0 : Addr) (v : Hdr) (v1 v2 : Value) (w : World) (H : TabI .i64 w r T) (X0 : Box w c0 [.slice v.1 v.2.1 v.2.2, v1, v2]) :
    call Tryz.prog 35 [.slice r.1 r.2.1 r.2.2, .func (.func 37) #[] #[.pointer (some c0)]] (.one (.one .bool)) w (fun x w' => x = T.any (fun q => (q.length : Int) != (v.2.1 : Int)) ∧ bel w w') := by
  refine call_of (S35c_calls r.1 r.2.1 r.2.2 c0 w _ ?_)
  unfold S35c
  refine call_mono (r := .one (.one (.int .i64))) (Q := fun x w' => x = idxI (fun q : List Int => (q.length : Int) != (v.2.1 : Int)) T ∧ bel w w') (call_of (S59c_calls r.1 r.2.1 r.2.2 c0 w _ ?_)) ?_
  · unfold S59c
    exact idx_tab tyTab (by kernel_rfl) (fargs := fun x5 => [.slice x5.1 x5.2.1 x5.2.2, .pointer (some c0)]) H (fun q : List Int => (q.length : Int) != (v.2.1 : Int)) (fun j x y hy hr w' hb => by rw [Sl.int hr]; exact valid3F x.1 x.2.1 x.2.2 c0 v v1 v2 w' (X0.up hb))
  · rintro x w2 ⟨rfl, hb⟩
    exact ⟨_, rfl, idxI_any _ _, hb⟩

set_option maxRecDepth 100000 in
theorem validL (u r b : Hdr) (up : List Int) (T : List (List Int)) (rt : List Int) (w : World) (H : Sys w u r b up T rt) :
    call Tryz.prog 18 [sysv u r b] (.one (.one (.int .i64))) w (fun x w' => x = sysE up T rt ∧ bel w w') := by
  refine call_of (S18_calls u.1 u.2.1 u.2.2 r.1 r.2.1 r.2.2 b.1 b.2.1 b.2.2 w _ ?_)
  unfold S18
  have hu := H.u.int
  have hT := H.r.len
  have hb := H.b.int
  refine wr_box fun x1 w2 X h _ _ => ?_
  replace X : Box w2 x1 (sysc u r b) := X
  replace H := H.up h
  refine rd_box0 (by kernel_rfl) X rfl rfl ?_
  refine br_dec (fun e => ⟨_, rfl, (sysE_1 (by dsimp only at e; omega)).symm, h⟩) (fun e1 => ?_)
  refine rd_box (by kernel_rfl) X (i := 1) rfl rfl ?_
  refine br_dec (fun e => ⟨_, rfl, (sysE_2 (by dsimp only at e; omega)).symm, h⟩) (fun e2 => ?_)
  dsimp only at e1 e2
  refine var_mk (z := .nilFunc) (by kernel_rfl) (by kernel_rfl) rfl rfl fun x5 w7 Y h' _ => ?_
  replace Y : Box w7 x5 [.func (.func 31) #[] #[]] := Y
  replace h := h.trans h'; replace X := X.up h'; replace H := H.up h'; clear h'
  refine rdF_box0 (by kernel_rfl) Y rfl ?_
  refine rd_box0 (by kernel_rfl) X rfl rfl ?_
  refine callX_of Tryz.func31 (by kernel_rfl) rfl ?_
  refine call_mono (wideF _ _ _ up _ _ w7 H.u) ?_
  rintro x w11 ⟨rfl, h'⟩
  replace h := h.trans h'; replace X := X.up h'; replace H := H.up h'; replace Y := Y.up h'; clear h'
  refine br_mk (fun e => ⟨_, rfl, (sysE_3 fun q => ?_).symm, h⟩) (fun e3 => ?_)
  · obtain ⟨x, hx, hq⟩ := any_t e; exact outB_t hq (q.1 x hx)
  refine rdF_box0 (by kernel_rfl) Y rfl ?_
  refine rd_box (by kernel_rfl) X (i := 2) rfl rfl ?_
  refine callX_of Tryz.func31 (by kernel_rfl) rfl ?_
  refine call_mono (wideF _ _ _ rt _ _ w11 H.b) ?_
  rintro x w15 ⟨rfl, h'⟩
  replace h := h.trans h'; replace X := X.up h'; replace H := H.up h'; replace Y := Y.up h'; clear h'
  refine br_mk (fun e => ⟨_, rfl, (sysE_3 fun q => ?_).symm, h⟩) (fun e4 => ?_)
  · obtain ⟨x, hx, hq⟩ := any_t e; exact outB_t hq (q.2.1 x hx)
  refine rd_box (by kernel_rfl) X (i := 1) rfl rfl ?_
  refine call_mono (hasB r T x5 w15 H.r Y) ?_
  rintro x w18 ⟨rfl, h'⟩
  replace h := h.trans h'; replace X := X.up h'; replace H := H.up h'; replace Y := Y.up h'; clear h'
  refine br_mk (fun e => ⟨_, rfl, (sysE_3 fun q => ?_).symm, h⟩) (fun e5 => ?_)
  · obtain ⟨x, hx, hq⟩ := any_t e
    obtain ⟨y, hy, hq⟩ := any_t hq
    exact outB_t hq (q.2.2 x hx y hy)
  have HR : SysR up T rt := ⟨fun x hx => outB_f (any_f e3 x hx), fun x hx => outB_f (any_f e4 x hx), fun q hq x hx => outB_f (any_f (any_f e5 q hq) x hx)⟩
  refine rd_box (by kernel_rfl) X (i := 2) rfl rfl ?_
  refine rd_box (by kernel_rfl) X (i := 1) rfl rfl ?_
  refine br_ne (fun e => ⟨_, rfl, (sysE_4 (by omega) (by omega) HR fun q => ?_).symm, h⟩) (fun e6 => ?_)
  · have := q.1; dsimp only at e; omega
  dsimp only at e6
  refine rd_box (by kernel_rfl) X (i := 1) rfl rfl ?_
  refine call_mono (hasC r T x1 u _ _ w18 H.r X) ?_
  rintro x w23 ⟨rfl, h'⟩
  replace h := h.trans h'; replace X := X.up h'; replace H := H.up h'; clear h'
  refine br_mk (fun e => ⟨_, rfl, (sysE_4 (by omega) (by omega) HR fun q => ?_).symm, h⟩) (fun e7 => ⟨_, rfl, (sysE_0 (by omega) (by omega) HR ⟨by omega, fun q hq => ?_⟩).symm, h⟩)
  · obtain ⟨x, hx, hq⟩ := any_t e
    have := q.2 x hx
    simp at hq; omega
  · have := any_f e7 q hq
    simp at this; omega
end Go.Proofs.YtajpdnphamomjaaGreat

/- The conditions of functions, printed by our tool; each is checked against the code by the kernel. -/



namespace Go.Proofs
open Go Go.V Go.RowKit
/-- querylab/fraction.Whole -/
def S82 (n_ : Int) (w0 : World) (R : Value → World → Prop) : Prop :=
 wr Tryz.prog (Instr.alloc 118 true (.tuple #[])) (.one .addr) w0 fun (x1 : Addr) (w2 : World) =>
 call Tryz.prog 96 [(.int .i64 n_)] (.one (.one (.int .u64))) w2 fun (x3 : Int) (w4 : World) =>
 call Tryz.prog 105 [(.int .u64 x3)] (.one (.one .slice)) w4 fun (x5 : (Option Addr × Nat × Nat)) (w6 : World) =>
 call Tryz.prog 105 [(.int .u64 1)] (.one (.one .slice)) w6 fun (x7 : (Option Addr × Nat × Nat)) (w8 : World) =>
 wu Tryz.prog (Instr.storeAt 118 (.pointer (some x1)) (.agg #[(.bool (decide (n_ < 0))), (.slice x5.1 x5.2.1 x5.2.2), (.slice x7.1 x7.2.1 x7.2.2)])) w8 fun (w9 : World) =>
 rd Tryz.prog (loadVar 118 x1) (.agg [.bool, .slice, .slice]) w9 fun (x10 : (Bool × (Option Addr × Nat × Nat) × (Option Addr × Nat × Nat) × Unit)) =>
 R (.agg #[(.bool x10.1), (.slice x10.2.1.1 x10.2.1.2.1 x10.2.1.2.2), (.slice x10.2.2.1.1 x10.2.2.1.2.1 x10.2.2.1.2.2)]) w9
def H82 : Hints := ⟨[], [], [], []⟩
set_option maxRecDepth 100000 in
theorem S82_eq (n_ : Int) (w0 : World) (R : Value → World → Prop) : vcFn Tryz.prog H82 Tryz.f82 [(.int .i64 n_)] w0 R = S82 n_ w0 R := by kernel_rfl
set_option maxRecDepth 100000 in
theorem S82_calls (n_ : Int) (w0 : World) (R : Value → World → Prop) (h : S82 n_ w0 R) : Calls Tryz.prog 82 #[(.int .i64 n_)] w0 (ret R) := by
  rw [← S82_eq] at h; exact vcFn_sound follows_ Tryz.func82 h

/-- querylab/querylabref10.Whole -/
def S48 (n_ : Int) (w0 : World) (R : Value → World → Prop) : Prop :=
 wr Tryz.prog (Instr.alloc 83 true (.tuple #[])) (.one .addr) w0 fun (x1 : Addr) (w2 : World) =>
 call Tryz.prog 71 [(.int .i64 n_)] (.one (.one .slice)) w2 fun (x3 : (Option Addr × Nat × Nat)) (w4 : World) =>
 wr Tryz.prog (Instr.buildSlice 81 1 #[(0, (.int .u64 1))]) (.one .slice) w4 fun (x5 : (Option Addr × Nat × Nat)) (w6 : World) =>
 wu Tryz.prog (Instr.storeAt 83 (.pointer (some x1)) (.agg #[(.bool (decide (n_ < 0))), (.slice x3.1 x3.2.1 x3.2.2), (.slice x5.1 x5.2.1 x5.2.2)])) w6 fun (w7 : World) =>
 rd Tryz.prog (loadVar 83 x1) (.agg [.bool, .slice, .slice]) w7 fun (x8 : (Bool × (Option Addr × Nat × Nat) × (Option Addr × Nat × Nat) × Unit)) =>
 R (.agg #[(.bool x8.1), (.slice x8.2.1.1 x8.2.1.2.1 x8.2.1.2.2), (.slice x8.2.2.1.1 x8.2.2.1.2.1 x8.2.2.1.2.2)]) w7
def H48 : Hints := ⟨[], [], [], []⟩
set_option maxRecDepth 100000 in
theorem S48_eq (n_ : Int) (w0 : World) (R : Value → World → Prop) : vcFn Tryz.prog H48 Tryz.f48 [(.int .i64 n_)] w0 R = S48 n_ w0 R := by kernel_rfl
set_option maxRecDepth 100000 in
theorem S48_calls (n_ : Int) (w0 : World) (R : Value → World → Prop) (h : S48 n_ w0 R) : Calls Tryz.prog 48 #[(.int .i64 n_)] w0 (ret R) := by
  rw [← S48_eq] at h; exact vcFn_sound follows_ Tryz.func48 h

/-- querylab/querylabref10.Less -/
def S47 (a_0 : Bool) (a_1a : Option Addr) (a_1n : Nat) (a_1c : Nat) (a_2a : Option Addr) (a_2n : Nat) (a_2c : Nat) (b_0 : Bool) (b_1a : Option Addr) (b_1n : Nat) (b_1c : Nat) (b_2a : Option Addr) (b_2n : Nat) (b_2c : Nat) (w0 : World) (R : Value → World → Prop) : Prop :=
 wr Tryz.prog (Instr.box 83 (.agg #[(.bool a_0), (.slice a_1a a_1n a_1c), (.slice a_2a a_2n a_2c)])) (.one .addr) w0 fun (x1 : Addr) (w2 : World) =>
 wr Tryz.prog (Instr.box 83 (.agg #[(.bool b_0), (.slice b_1a b_1n b_1c), (.slice b_2a b_2n b_2c)])) (.one .addr) w2 fun (x3 : Addr) (w4 : World) =>
 drw w4 fun w5 => flEx fun F6 =>
 rd Tryz.prog (Instr.loadAt 83 (.pointer (some x1))) (.agg [.bool, .slice, .slice]) w5 fun (x7 : (Bool × (Option Addr × Nat × Nat) × (Option Addr × Nat × Nat) × Unit)) =>
 rd Tryz.prog (Instr.loadAt 83 (.pointer (some x3))) (.agg [.bool, .slice, .slice]) w5 fun (x8 : (Bool × (Option Addr × Nat × Nat) × (Option Addr × Nat × Nat) × Unit)) =>
 flc bel w5 (fun _w10 => True) (fun (w9 : World) =>
   call Tryz.prog 72 [(.agg #[(.bool x8.1), (.slice x8.2.1.1 x8.2.1.2.1 x8.2.1.2.2), (.slice x8.2.2.1.1 x8.2.2.1.2.1 x8.2.2.1.2.2)])] (.one (.agg [.bool, .slice, .slice])) w9 fun (x11 : (Bool × (Option Addr × Nat × Nat) × (Option Addr × Nat × Nat) × Unit)) (w12 : World) =>
 (bel w9 w12 ∧ F6 2 [(.agg #[(.bool x8.1), (.slice x8.2.1.1 x8.2.1.2.1 x8.2.1.2.2), (.slice x8.2.2.1.1 x8.2.2.1.2.1 x8.2.2.1.2.2)])] (.agg #[(.bool x11.1), (.slice x11.2.1.1 x11.2.1.2.1 x11.2.1.2.2), (.slice x11.2.2.1.1 x11.2.2.1.2.1 x11.2.2.1.2.2)]) w12))
  fun (x13 : (Bool × (Option Addr × Nat × Nat) × (Option Addr × Nat × Nat) × Unit)) =>
 flend bel w5 (fun w15 => F6 2 [(.agg #[(.bool x8.1), (.slice x8.2.1.1 x8.2.1.2.1 x8.2.1.2.2), (.slice x8.2.2.1.1 x8.2.2.1.2.1 x8.2.2.1.2.2)])] (.agg #[(.bool x13.1), (.slice x13.2.1.1 x13.2.1.2.1 x13.2.1.2.2), (.slice x13.2.2.1.1 x13.2.2.1.2.1 x13.2.2.1.2.2)]) w15 ∧ True) fun w14 =>
 call Tryz.prog 50 [(.agg #[(.bool x7.1), (.slice x7.2.1.1 x7.2.1.2.1 x7.2.1.2.2), (.slice x7.2.2.1.1 x7.2.2.1.2.1 x7.2.2.1.2.2)]), (.agg #[(.bool x13.1), (.slice x13.2.1.1 x13.2.1.2.1 x13.2.1.2.2), (.slice x13.2.2.1.1 x13.2.2.1.2.1 x13.2.2.1.2.2)])] (.one (.agg [.bool, .slice, .slice])) w14 fun (x16 : (Bool × (Option Addr × Nat × Nat) × (Option Addr × Nat × Nat) × Unit)) (w17 : World) =>
 call Tryz.prog 52 [(.agg #[(.bool x16.1), (.slice x16.2.1.1 x16.2.1.2.1 x16.2.1.2.2), (.slice x16.2.2.1.1 x16.2.2.1.2.1 x16.2.2.1.2.2)])] (.one (.one (.int .i64))) w17 fun (x18 : Int) (w19 : World) =>
 R (.bool (decide (x18 < 0))) w19
def H47 : Hints := ⟨[], [(1, 3)], [], []⟩
set_option maxRecDepth 100000 in
theorem S47_eq (a_0 : Bool) (a_1a : Option Addr) (a_1n : Nat) (a_1c : Nat) (a_2a : Option Addr) (a_2n : Nat) (a_2c : Nat) (b_0 : Bool) (b_1a : Option Addr) (b_1n : Nat) (b_1c : Nat) (b_2a : Option Addr) (b_2n : Nat) (b_2c : Nat) (w0 : World) (R : Value → World → Prop) : vcFn Tryz.prog H47 Tryz.f47 [(.agg #[(.bool a_0), (.slice a_1a a_1n a_1c), (.slice a_2a a_2n a_2c)]), (.agg #[(.bool b_0), (.slice b_1a b_1n b_1c), (.slice b_2a b_2n b_2c)])] w0 R = S47 a_0 a_1a a_1n a_1c a_2a a_2n a_2c b_0 b_1a b_1n b_1c b_2a b_2n b_2c w0 R := by kernel_rfl
set_option maxRecDepth 100000 in
theorem S47_calls (a_0 : Bool) (a_1a : Option Addr) (a_1n : Nat) (a_1c : Nat) (a_2a : Option Addr) (a_2n : Nat) (a_2c : Nat) (b_0 : Bool) (b_1a : Option Addr) (b_1n : Nat) (b_1c : Nat) (b_2a : Option Addr) (b_2n : Nat) (b_2c : Nat) (w0 : World) (R : Value → World → Prop) (h : S47 a_0 a_1a a_1n a_1c a_2a a_2n a_2c b_0 b_1a b_1n b_1c b_2a b_2n b_2c w0 R) : Calls Tryz.prog 47 #[(.agg #[(.bool a_0), (.slice a_1a a_1n a_1c), (.slice a_2a a_2n a_2c)]), (.agg #[(.bool b_0), (.slice b_1a b_1n b_1c), (.slice b_2a b_2n b_2c)])] w0 (ret R) := by
  rw [← S47_eq] at h; exact vcFn_sound follows_ Tryz.func47 h

end Go.Proofs

/- Whole numbers as fractions; the reference's fractions as triples; comparisons. -/


namespace Go.Proofs.YtajpdnphamomjaaGreat
open Go.RowKit Go.Q Go.Q.Num Go.V

/-! ### the reference's fractions -/
abbrev NR (w : World) (s : Hd) (x : Nat) : Prop := NumAt 1000000000 .u64 w s.1 s.2.1 s.2.2 x
abbrev BX (L : Nat) (w : World) (t : TE) (r : Rat) : Prop := t.1 = decide (r.num < 0) ∧ NR w t.2.1 r.num.natAbs ∧ NR w t.2.2.1 r.den ∧ t.2.1.2.1 ≤ L ∧ t.2.2.1.2.1 ≤ L
theorem BX.up {L : Nat} {w w' : World} {t : TE} {r : Rat} (h : BX L w t r) (hb : bel w w') : BX L w' t r := ⟨h.1, h.2.1.kept hb, h.2.2.1.kept hb, h.2.2.2⟩
theorem BX.at {L : Nat} {w : World} {t : TE} {r : Rat} (h : BX L w t r) : BigAt L w (exV t) r := by
  obtain ⟨h1, h2, h3, h4, h5⟩ := h
  exact ⟨_, _, _, _, _, _, by rw [← h1], h2, h3, h4, h5⟩
theorem BX.le {L M : Nat} {w : World} {t : TE} {r : Rat} (h : BX L w t r) (hL : L ≤ M) : BX M w t r := ⟨h.1, h.2.1, h.2.2.1, Nat.le_trans h.2.2.2.1 hL, Nat.le_trans h.2.2.2.2 hL⟩
theorem EX.le {L M : Nat} {w : World} {t : TE} {r : Rat} (h : EX L w t r) (hL : L ≤ M) : EX M w t r := ⟨h.1, h.2.1, h.2.2.1, Nat.le_trans h.2.2.2.1 hL, Nat.le_trans h.2.2.2.2 hL⟩
theorem callBX {f : FuncId} {args : List Value} {w : World} {L : Nat} {r : Rat} (h : Calls Tryz.prog f args.toArray w (QBig L r w)) : call Tryz.prog f args (.one sBig) w (fun (x : TE) w' => BX L w' x r ∧ Fr w x.2.1.1 ∧ Fr w x.2.2.1.1 ∧ bel w w') :=
  Calls.mono h fun _ _ ⟨a, n, c, b, m, d, he, h1, h2, h3, h4, h5, h6, h7⟩ => ⟨(decide (r.num < 0), (a, n, c), (b, m, d), ()), he, ⟨rfl, h1, h2, h3, h4⟩, h6, h7, h5⟩
theorem timesX (t u : TE) (r s : Rat) (L M : Nat) (w : World) (h1 : BX L w t r) (h2 : BX M w u s) (hL : L ≤ 1000000) (hM : M ≤ 1000000) :
    call Tryz.prog 51 [exV t, exV u] (.one sBig) w (fun (x : TE) w' => BX (L + M + 1) w' x (r * s) ∧ Fr w x.2.1.1 ∧ Fr w x.2.2.1.1 ∧ bel w w') :=
  callBX (times10 _ _ _ _ _ _ w h1.at h2.at (by omega) (by omega))
theorem plusX (t u : TE) (r s : Rat) (L M : Nat) (w : World) (h1 : BX L w t r) (h2 : BX M w u s) (hL : L ≤ 1000000) (hM : M ≤ 1000000) :
    call Tryz.prog 50 [exV t, exV u] (.one sBig) w (fun (x : TE) w' => BX (L + M + 2) w' x (r + s) ∧ Fr w x.2.1.1 ∧ Fr w x.2.2.1.1 ∧ bel w w') :=
  callBX (plusAny _ _ _ _ _ _ w h1.at h2.at (by omega) (by omega))
theorem signX (t : TE) (r : Rat) (L : Nat) (w : World) (h1 : BX L w t r) (hL : L ≤ 1000000) : call Tryz.prog 52 [exV t] (.one (.one (.int .i64))) w (fun x w' => x = rsign r ∧ bel w w') :=
  callI (sign10 _ _ _ w h1.at (by omega))
theorem makeX {n d : Int} (w : World) (h : IsFrac n d) : call Tryz.prog 49 [fracv n d] (.one sBig) w (fun (x : TE) w' => BX 3 w' x (ratv n d) ∧ Fr w x.2.1.1 ∧ Fr w x.2.2.1.1 ∧ bel w w') := by
  have := callBX (f := 49) (args := [frac (ratv n d)]) (make10 (ratv n d) w (ratv_frac h).2.2)
  rw [frac_ratv h] at this; exact this
theorem turnedX (t : TE) (r : Rat) (L : Nat) (w : World) (h1 : BX L w t r) (hL : L ≤ 1000000) : call Tryz.prog 72 [exV t] (.one sBig) w (fun (x : TE) w' => BX L w' x (-r) ∧ bel w w') := by
  refine Calls.mono (turned10 _ _ _ w h1.at (by omega)) ?_
  rintro e w' ⟨v, he, ⟨a, n, c, b, m, d, hv, q1, q2, q3, q4⟩, hb⟩
  exact ⟨((decide ((-r).num < 0), (a, n, c), (b, m, d), ()) : TE), by rw [he, hv]; rfl, ⟨rfl, q1, q2, q3, q4⟩, hb⟩
theorem tyNum : TyS Tryz.prog 81 108 (.int .u64 0) 1 8 := ⟨by kernel_rfl, by kernel_rfl⟩
theorem dig1 : Dig 1000000000 [1] := ⟨by intro d hd; simp at hd; omega, by intro x hx; simp at hx; omega⟩
theorem callN' {f : FuncId} {args : List Value} {w : World} {x L : Nat} (h : Calls Tryz.prog f args.toArray w (QNum 1000000000 .u64 x L w)) : call Tryz.prog f args (.one (.one .slice)) w (fun (v : Hd) w' => NR w' v x ∧ v.2.1 ≤ L ∧ Fr w v.1 ∧ bel w w') :=
  Calls.mono h fun _ _ ⟨a, n, c, he, h1, h2, h3, h4⟩ => ⟨(a, n, c), he, h1, h2, h4, h3⟩
theorem whole_num (n : Int) : (n : Rat).num = n ∧ (n : Rat).den = 1 := ⟨rfl, rfl⟩
theorem exV_inj {t u : TE} (h : exV t = exV u) : t = u := by
  obtain ⟨a, ⟨b1, b2, b3⟩, ⟨c1, c2, c3⟩, _⟩ := t
  obtain ⟨a', ⟨b1', b2', b3'⟩, ⟨c1', c2', c3'⟩, _⟩ := u
  simp only [exV, Value.agg.injEq, Array.mk.injEq, List.cons.injEq, Value.bool.injEq, Value.slice.injEq, and_true] at h
  obtain ⟨rfl, ⟨rfl, rfl, rfl⟩, rfl, rfl, rfl⟩ := h
  rfl
theorem wholeX (n : Int) (w : World) (hn : I64 n) : call Tryz.prog 48 [.int .i64 n] (.one sBig) w (fun (x : TE) w' => BX 3 w' x (n : Rat) ∧ Fr w x.2.1.1 ∧ Fr w x.2.2.1.1 ∧ bel w w') := by
  refine call_of (S48_calls n w _ ?_)
  unfold S48
  refine wr_alloc (z := .agg #[.bool false, .slice none 0 0, .slice none 0 0]) (by kernel_rfl) fun x1 w2 X h hx _ => ?_
  have hne : w.heap.size ≤ x1.block := by omega
  refine call_mono (callN' (of10 n w2 hn.1 hn.2)) ?_
  rintro (o : Hd) w4 ⟨hO, hl, hF, h'⟩
  have fO : Fr w o.1 := hF.mono h.size
  have aO : Apart x1 o n.natAbs := Apart.fr X hF
  replace h := h.trans h'; replace X := X.up h'; clear h'
  refine wr_lit tyNum #[.int .u64 1] (fill_one 1 (.int .u64 1) _ rfl (by simp)) (by omega) (by omega) rfl (by unfold maxLen; omega) fun ad w6 O h' hbl _ => ?_
  have hN : NR w6 (some ad, 1, 1) 1 := ⟨[1], (O w4.heap.size (Nat.le_refl _)).sl, dig1, rfl⟩
  have aN : Apart x1 (some ad, 1, 1) 1 := fun a ha _ => by cases ha; have := X.lt; omega
  have fN : Fr w (some ad) := fun a ha => by cases ha; have := h.size; omega
  replace hO : NR w6 o n.natAbs := NumAt.kept hO h'
  replace h := h.trans h'; replace X := X.up h'; clear h'
  refine wu_box X (by kernel_rfl) (Nat.le_refl 3) rfl fun w7 X hg _ => ?_
  have hO' : NR w7 o n.natAbs := NumAt.grown hO hg fun a ha hv _ e => aO a ha hv (by injection e)
  have hN' : NR w7 (some ad, 1, 1) 1 := NumAt.grown hN hg fun a ha hv _ e => aN a ha hv (by injection e)
  exact rd_boxV X (by kernel_rfl) rfl ⟨((decide (n < 0), o, (some ad, 1, 1), ()) : TE), rfl, ⟨rfl, hO', hN', hl, by show 1 ≤ 3; omega⟩, fO, fN, h.grownAt hg hne⟩
theorem wholeF (n : Int) (w : World) (hn : I64 n) : call Tryz.prog 82 [.int .i64 n] (.one sBig) w (fun (x : TE) w' => EX 2 w' x (n : Rat) ∧ Fr w x.2.1.1 ∧ Fr w x.2.2.1.1 ∧ bel w w') := by
  refine call_of (S82_calls n w _ ?_)
  unfold S82
  refine wr_alloc (z := .agg #[.bool false, .slice none 0 0, .slice none 0 0]) (by kernel_rfl) fun x1 w2 X h hx _ => ?_
  have hne : w.heap.size ≤ x1.block := by omega
  refine call_mono (callU (sizeF n w2 hn.1 hn.2)) ?_
  rintro _ w3 ⟨rfl, h'⟩
  replace h := h.trans h'; replace X := X.up h'; clear h'
  refine call_mono (callF' (natOfF n.natAbs w3 (by omega))) ?_
  rintro (o : Hd) w4 ⟨hO, hl, hF, h'⟩
  have fO : Fr w o.1 := hF.mono h.size
  have aO : Apart x1 o n.natAbs := Apart.fr X hF
  replace h := h.trans h'; replace X := X.up h'; clear h'
  refine call_mono (callF' (natOfF 1 w4 (by omega))) ?_
  rintro (d : Hd) w6 ⟨hN, hl2, hF2, h'⟩
  have fN : Fr w d.1 := hF2.mono h.size
  have aN : Apart x1 d 1 := Apart.fr X hF2
  replace hO := hO.up h'
  replace h := h.trans h'; replace X := X.up h'; clear h'
  refine wu_box X (by kernel_rfl) (Nat.le_refl 3) rfl fun w7 X hg _ => ?_
  exact rd_boxV X (by kernel_rfl) rfl ⟨((decide (n < 0), o, d, ()) : TE), rfl, ⟨rfl, aO.grown hO hg, aN.grown hN hg, hl, hl2⟩, fO, fN, h.grownAt hg hne⟩
theorem lessX (t u : TE) (r s : Rat) (L M : Nat) (w : World) (h1 : BX L w t r) (h2 : BX M w u s) (hL : L ≤ 400000) (hM : M ≤ 400000) :
    call Tryz.prog 47 [exV t, exV u] (.one (.one .bool)) w (fun x w' => x = decide (rsign (r + -s) < 0) ∧ bel w w') := by
  obtain ⟨t0, tn, td, _⟩ := t
  obtain ⟨u0, un, ud, _⟩ := u
  refine call_of (S47_calls t0 tn.1 tn.2.1 tn.2.2 td.1 td.2.1 td.2.2 u0 un.1 un.2.1 un.2.2 ud.1 ud.2.1 ud.2.2 w _ ?_)
  unfold S47
  refine wr_box fun x1 w2 X h _ _ => ?_
  refine wr_box fun x3 w4 Y h' _ _ => ?_
  replace h := h.trans h'; replace X := X.up h'; clear h'
  refine drw_mk fun w5 h' _ => ?_
  replace h := h.trans h'; replace X := X.up h'; replace Y := Y.up h'; clear h'
  refine flEx_mk (fun _ _ v w' => ∃ t : TE, v = exV t ∧ BX M w' t (-s)) (fun _ _ _ _ _ ⟨t, e, q⟩ hb => ⟨t, e, q.up hb⟩) ?_
  refine rd_boxN X (by kernel_rfl) rfl ?_
  refine rd_boxN Y (by kernel_rfl) rfl ?_
  refine flc_mk (fun w9 hb _ => call_mono (turnedX (u0, un, ud, ()) s M w9 (h2.up (h.trans hb)) (by omega)) fun x w' ⟨q, hb'⟩ => ⟨hb', x, rfl, q⟩) (fun (x13 : TE) => ?_)
  refine flend_mk fun w14 hb hp => ?_
  obtain ⟨⟨t', ht, q⟩, _⟩ := hp
  have ht' := exV_inj (t := x13) ht
  subst ht'
  refine call_mono (plusX (t0, tn, td, ()) x13 r (-s) L M w14 (h1.up (h.trans hb)) q (by omega) (by omega)) ?_
  rintro (y : TE) w17 ⟨hy, _, _, h'⟩
  refine call_mono (signX y _ _ w17 hy (by omega)) ?_
  rintro _ w19 ⟨rfl, h2'⟩
  exact ⟨_, rfl, rfl, ((h.trans hb).trans h').trans h2'⟩

/-! ### signs and comparisons -/
theorem num_neg {r : Rat} : r.num < 0 ↔ r < 0 := by
  have := Rat.num_nonneg (q := r)
  rw [← Rat.not_le, ← this]; omega
theorem rsign_neg {r : Rat} : rsign r < 0 ↔ r < 0 := by
  rw [← num_neg]; unfold rsign
  split
  · omega
  · split <;> omega
theorem rsign_zero {r : Rat} : rsign r = 0 ↔ r = 0 := by
  rw [← Rat.num_eq_zero]; unfold rsign
  split
  · omega
  · split <;> omega
theorem cmpq_gt0 {r s : Rat} : cmpq r s > 0 ↔ s < r := by
  rw [Rat.lt_iff]; unfold cmpq cmpi
  split
  · omega
  · split <;> omega
theorem cmpq_lt0 {r s : Rat} : cmpq r s < 0 ↔ r < s := by
  rw [Rat.lt_iff]; unfold cmpq cmpi
  split
  · omega
  · split <;> omega
theorem cmpq_eq0 {r s : Rat} : cmpq r s = 0 ↔ r = s := by
  have h1 := cmpq_gt0 (r := r) (s := s)
  have h2 := cmpq_lt0 (r := r) (s := s)
  constructor
  · intro h
    have a : ¬ s < r := fun q => by have := h1.2 q; omega
    have b : ¬ r < s := fun q => by have := h2.2 q; omega
    grind
  · rintro rfl
    have a : ¬ cmpq r r > 0 := fun q => by have := h1.1 q; grind
    have b : ¬ cmpq r r < 0 := fun q => by have := h2.1 q; grind
    omega
theorem less_iff {r s : Rat} : rsign (r + -s) < 0 ↔ r < s := by rw [rsign_neg]; grind
theorem same_iff {r s : Rat} : rsign (r + -s) = 0 ↔ r = s := by rw [rsign_zero]; grind
/-- comparing of the program's fractions -/
theorem cmpX (t u : TE) (r s : Rat) (L M : Nat) (w : World) (h1 : EX L w t r) (h2 : EX M w u s) (hL : L ≤ 1000000) (hM : M ≤ 1000000) : call Tryz.prog 86 [exV t, exV u] (.one (.one (.int .i64))) w (fun x w' => x = cmpq r s ∧ bel w w') := by
  have a : EX (max L M) w t r := h1.le (by omega)
  have b : EX (max L M) w u s := h2.le (by omega)
  exact callI (cmpE _ _ r s (max L M) w a.at b.at (by omega))
theorem fromX {n d : Int} (w : World) (h : IsFrac n d) : call Tryz.prog 84 [fracv n d] (.one sBig) w (fun (x : TE) w' => EX 2 w' x (ratv n d) ∧ bel w w') := by
  have := callE (f := 84) (args := [frac (ratv n d)]) ((fromF (ratv n d) w (ratv_frac h).2.2).mono fun _ _ h => h.at)
  rw [frac_ratv h] at this; exact this
end Go.Proofs.YtajpdnphamomjaaGreat

/- When numbers are a solution: the reference. -/

namespace Go.Proofs.YtajpdnphamomjaaGreat
open Go.RowKit Go.Q Go.Q.Num Go.V

/-- the first k terms of a combination -/
def dotT (r : List Int) (L : List (Int × Int)) (k : Nat) : Rat :=
  match r[k]?, L[k]? with
  | some c, some p => ratv p.1 p.2 * (c : Rat)
  | _, _ => 0
def dotN (r : List Int) (L : List (Int × Int)) : Nat → Rat
  | 0 => 0
  | k + 1 => dotN r L k + dotT r L k
structure SolP (up : List Int) (T : List (List Int)) (rt : List Int) (L : List (Int × Int)) : Prop where
  ok : sysE up T rt = 0
  len : L.length = up.length
  each : ∀ (k : Nat) p u, L[k]? = some p → up[k]? = some u → IsFrac p.1 p.2 ∧ ¬ p.1 < 0 ∧ ¬ ((u : Rat) < ratv p.1 p.2)
  rows : ∀ (i : Nat) r b, T[i]? = some r → rt[i]? = some b → dotN r L up.length = (b : Rat)
theorem dotT_at {r : List Int} {L : List (Int × Int)} {k : Nat} {c : Int} {p : Int × Int} (h1 : r[k]? = some c) (h2 : L[k]? = some p) : dotT r L k = ratv p.1 p.2 * (c : Rat) := by unfold dotT; rw [h1, h2]
theorem ratv_zero (d : Int) : ratv 0 d = 0 := by unfold ratv; exact Rat.zero_mkRat _
theorem dotT_p0 {r : List Int} {L : List (Int × Int)} {k : Nat} {c : Int} {p : Int × Int} (h1 : r[k]? = some c) (h2 : L[k]? = some p) (h : p.1 = 0) : dotT r L k = 0 := by
  rw [dotT_at h1 h2, h, ratv_zero, Rat.zero_mul]
theorem dotT_c0 {r : List Int} {L : List (Int × Int)} {k : Nat} {c : Int} {p : Int × Int} (h1 : r[k]? = some c) (h2 : L[k]? = some p) (h : c = 0) : dotT r L k = 0 := by
  rw [dotT_at h1 h2, h]; exact Rat.mul_zero _
abbrev boxc (t : TE) : List Value := [.bool t.1, .slice t.2.1.1 t.2.1.2.1 t.2.1.2.2, .slice t.2.2.1.1 t.2.2.1.2.1 t.2.2.1.2.2]
/-- a fraction whose digits are not in a variable's block -/
abbrev ApT (x : Addr) (t : TE) (r : Rat) : Prop := Apart x t.2.1 r.num.natAbs ∧ Apart x t.2.2.1 r.den
theorem ApT.fr {x : Addr} {t : TE} {r : Rat} {w : World} {cs : List Value} (X : Box w x cs) (h1 : Fr w t.2.1.1) (h2 : Fr w t.2.2.1.1) : ApT x t r := ⟨Apart.fr X h1, Apart.fr X h2⟩
theorem EX.grownA {L : Nat} {w w' : World} {t : TE} {r : Rat} {x : Addr} (h : EX L w t r) (ha : ApT x t r) (hg : w.grownBy w' (some x.block)) : EX L w' t r := ⟨h.1, ha.1.grown h.2.1 hg, ha.2.grown h.2.2.1 hg, h.2.2.2⟩
theorem BX.grown {L : Nat} {w w' : World} {t : TE} {r : Rat} {x : Addr} (h : BX L w t r) (ha : ApT x t r) (hg : w.grownBy w' (some x.block)) : BX L w' t r :=
  ⟨h.1, NumAt.grown h.2.1 hg fun a q hv _ e => ha.1 a q hv (by injection e), NumAt.grown h.2.2.1 hg fun a q hv _ e => ha.2 a q hv (by injection e), h.2.2.2⟩
theorem ApT.old {x : Addr} {t : TE} {r : Rat} {L : Nat} {w : World} (h : BX L w t r) (hx : w.heap.size ≤ x.block) : ApT x t r :=
  ⟨fun ad ha hy e => by have := NumAt.lt_heap h.2.1 hy ad ha; omega, fun ad ha hy e => by have := NumAt.lt_heap h.2.2.1 hy ad ha; omega⟩
theorem ApT.oldE {x : Addr} {t : TE} {r : Rat} {L : Nat} {w : World} (h : EX L w t r) (hx : w.heap.size ≤ x.block) : ApT x t r :=
  ⟨Apart.old h.2.1 hx, Apart.old h.2.2.1 hx⟩
/-- the first cell of a fraction of a list -/
theorem at_fst {w : World} {a : Option Addr} {n c j : Nat} {L : List (Int × Int)} {p : Int × Int} {K : Int → Prop} (H : Sl w a n c 2 (L.flatMap encF)) {i : Int} (hj : i = (j : Int)) (hp : L[j]? = some p) (hk : K p.1) :
    rdp Tryz.prog (Instr.indexAt 32 (.slice a n c) (.int .i64 i)) (.one .addr) fun ad => rd Tryz.prog (Instr.loadAt 2 (.pointer (some ad))) (.one (.int .i64)) w K :=
  idx_agg tyFracs encF_len (by omega) H hj hp fun ad h => rd_cell (by kernel_rfl) (by have := h 0 _ rfl; rwa [Go.Q.add_zero] at this) rfl hk
theorem at_frac {w : World} {a : Option Addr} {n c j : Nat} {L : List (Int × Int)} {p : Int × Int} {K : Int × Int × Unit → Prop} (H : Sl w a n c 2 (L.flatMap encF)) {i : Int} (hj : i = (j : Int)) (hp : L[j]? = some p) (hk : K (p.1, p.2, ())) :
    rdp Tryz.prog (Instr.indexAt 32 (.slice a n c) (.int .i64 i)) (.one .addr) fun ad => rd Tryz.prog (Instr.loadAt 60 (.pointer (some ad))) (.agg [.int .i64, .int .i64]) w K :=
  at_agg tyFracs agFrac encF_len (by omega) H hj hp rfl hk
theorem fr_len {w : World} {a : Option Addr} {n c : Nat} {L : List (Int × Int)} (H : Sl w a n c 2 (L.flatMap encF)) : L.length = n := by
  have := H.len
  rw [flat_len encF_len] at this
  omega
theorem i64_of {x : Int} (h : -1000000000 ≤ x ∧ x ≤ 1000000000) : I64 x := ⟨by omega, by omega⟩

set_option maxHeartbeats 1600000 in
theorem sol11 (u r b x : Hdr) (up : List Int) (T : List (List Int)) (rt : List Int) (L : List (Int × Int)) (w : World) (H : Sys w u r b up T rt) (HL : Sl w x.1 x.2.1 x.2.2 2 (L.flatMap encF)) (hI : ∀ p ∈ L, I64 p.1 ∧ I64 p.2) :
    call Tryz.prog 23 [sysv u r b, .slice x.1 x.2.1 x.2.2] (.one (.one .bool)) w (fun v w' => (v = true ↔ SolP up T rt L) ∧ bel w w') := by
  refine call_of (S23_calls u.1 u.2.1 u.2.2 r.1 r.2.1 r.2.2 b.1 b.2.1 b.2.2 x.1 x.2.1 x.2.2 w _ ?_)
  unfold S23
  have hu := H.u.int
  have hT := H.r.len
  have hb := H.b.int
  have hl := fr_len HL
  have no : ∀ {w' : World}, bel w w' → (SolP up T rt L → False) → ∃ v : Bool, Value.bool false = (RS.one (.one .bool)).val v ∧ (v = true ↔ SolP up T rt L) ∧ bel w w' := fun hb q => ⟨false, rfl, ⟨fun e => (Bool.noConfusion e), fun s => (q s).elim⟩, hb⟩
  refine wr_box fun x1 w2 X h _ _ => ?_
  replace X : Box w2 x1 (sysc u r b) := X
  replace H := H.up h; replace HL := HL.up h
  refine rd_boxN X (by kernel_rfl) rfl ?_
  refine call_mono (valid11 u r b up T rt w2 H) ?_
  rintro x4 w5 ⟨rfl, h'⟩
  replace h := h.trans h'; replace X := X.up h'; replace H := H.up h'; replace HL := HL.up h'; clear h'
  have kl := HL.le
  refine br_ne (fun e => no h fun s => e s.ok) (fun e0 => ?_)
  obtain ⟨v1, v2, v3, v4⟩ := sysE_ok e0
  refine rd_box0 (by kernel_rfl) X rfl rfl ?_
  refine br_ne (fun e => no h fun s => ?_) (fun e1 => ?_)
  · have := s.len; dsimp only at e; omega
  dsimp only at e1
  refine loop_up x.2.1 (fun i w' => bel w5 w' ∧ ∀ j, j < i → ∀ p u, L[j]? = some p → up[j]? = some u → IsFrac p.1 p.2 ∧ ¬ p.1 < 0 ∧ ¬ ((u : Rat) < ratv p.1 p.2)) ⟨bel.refl _, fun j h => by omega⟩ fun i w9 hi ⟨hw, hq⟩ again hag _ => ?_
  refine br_dec (fun e => ?_) (fun e => ?_)
  · dsimp only at e
    obtain ⟨p, hp⟩ : ∃ p, L[i]? = some p := ⟨_, List.getElem?_eq_getElem (by omega)⟩
    obtain ⟨uu, huu⟩ : ∃ uu, up[i]? = some uu := ⟨_, List.getElem?_eq_getElem (by omega)⟩
    have hpi := hI p (mem_at hp)
    have hui := v3.1 uu (mem_at huu)
    refine drw_mk fun w10 h' _ => ?_
    replace hw := hw.trans h'
    refine flEx_mk (fun i _ v w' => (i = 4 → v = .bool (decide (IsFrac p.1 p.2))) ∧ (i = 20 → ∃ t : TE, v = exV t ∧ BX 3 w' t (uu : Rat))) (fun _ _ _ _ _ h hb => ⟨h.1, fun e => by obtain ⟨t, q1, q2⟩ := h.2 e; exact ⟨t, q1, q2.up hb⟩⟩) ?_
    refine at_frac (HL.up hw) rfl hp ?_
    refine flc_mk (fun w14 hb _ => call_mono (callB (valid10 p.1 p.2 w14 hpi.1.1 hpi.1.2 hpi.2.1 hpi.2.2)) fun y w' ⟨hy, hb'⟩ => ⟨hb', fun _ => by rw [hy], fun e => by omega⟩) (fun x18 => ?_)
    refine br_not (fun ev => flend_mk fun w19 hb hf => no (h.trans (hw.trans hb)) fun s => ?_) (fun ev => ?_)
    · have f1 : x18 = decide (IsFrac p.1 p.2) := by have := hf.1.1 rfl; injection this
      rw [ev, decide_eq_true (s.each i p uu hp huu).1] at f1
      cases f1
    refine at_fst (HL.up hw) rfl hp ?_
    refine br_dec (fun en => flend_mk fun w23 hb hf => no (h.trans (hw.trans hb)) fun s => (s.each i p uu hp huu).2.1 en) (fun en => ?_)
    refine rd_box0 (by kernel_rfl) (X.up hw) rfl rfl ?_
    refine at_int tyI64 (by kernel_rfl) (H.up hw).u rfl (by omega) fun y hy => ?_
    rw [huu] at hy; cases hy
    refine flc_mk (fun w28 hb _ => call_mono (wholeX uu w28 (i64_of (by omega))) fun y w' ⟨hy, _, _, hb'⟩ => ⟨hb', fun e => by omega, fun _ => ⟨y, rfl, hy⟩⟩) (fun (x32 : TE) => ?_)
    refine at_frac (HL.up hw) rfl hp ?_
    refine flend_mk fun w35 hb hf => ?_
    have f1 : x18 = decide (IsFrac p.1 p.2) := by have := hf.2.1.1 rfl; injection this
    obtain ⟨t, ht, hB⟩ := hf.1.2 rfl
    have ht' := exV_inj (t := x32) ht
    subst ht'
    have hF : IsFrac p.1 p.2 := by rw [ev] at f1; exact of_decide_eq_true f1.symm
    refine call_mono (makeX w35 hF) ?_
    rintro (y : TE) w38 ⟨hy, _, _, h2'⟩
    refine call_mono (lessX x32 y _ _ 3 3 w38 (hB.up h2') hy (by omega) (by omega)) ?_
    rintro _ w40 ⟨rfl, h3'⟩
    have hw' := ((hw.trans hb).trans h2').trans h3'
    refine br_dec (fun el => no (h.trans hw') fun s => (s.each i p uu hp huu).2.2 (less_iff.1 el)) (fun el => ?_)
    refine z_i64 (by dsimp only; omega) ?_
    refine hag _ (by omega) ⟨hw', fun j hj p' u' q1 q2 => ?_⟩
    rcases Nat.lt_or_ge j i with q | q
    · exact hq j q p' u' q1 q2
    · have : j = i := by omega
      subst this
      rw [hp] at q1; cases q1
      rw [huu] at q2; cases q2
      exact ⟨hF, en, fun q => el (less_iff.2 q)⟩
  dsimp only at e
  have Q1 : ∀ (k : Nat) p u, L[k]? = some p → up[k]? = some u → IsFrac p.1 p.2 ∧ ¬ p.1 < 0 ∧ ¬ ((u : Rat) < ratv p.1 p.2) := fun k p u q1 q2 => hq k (by have := (List.getElem?_eq_some_iff.1 q1).1; omega) p u q1 q2
  clear hq hag again
  replace h := h.trans hw; replace X := X.up hw; replace H := H.up hw; replace HL := HL.up hw; clear hw hi e
  refine loop_up r.2.1 (fun i w' => bel w9 w' ∧ ∀ j, j < i → ∀ q c, T[j]? = some q → rt[j]? = some c → dotN q L up.length = (c : Rat)) ⟨bel.refl _, fun j h => by omega⟩ fun i w44 hi ⟨hw, hq⟩ again hag _ => ?_
  refine rd_box (by kernel_rfl) (X.up hw) (i := 1) rfl rfl ?_
  refine br_dec (fun e => ?_) (fun e => ?_)
  · dsimp only at e
    obtain ⟨row, hrow⟩ : ∃ row, T[i]? = some row := ⟨_, List.getElem?_eq_getElem (by omega)⟩
    obtain ⟨cc, hcc⟩ : ∃ cc, rt[i]? = some cc := ⟨_, List.getElem?_eq_getElem (by have := v4.1; omega)⟩
    have hrl := v4.2 row (mem_at hrow)
    have hci := v3.2.1 cc (mem_at hcc)
    refine call_mono (wholeX 0 w44 ⟨by omega, by omega⟩) ?_
    rintro (t0 : TE) w47 ⟨hB0, _, _, h'⟩
    refine var_mk (z := .agg #[.bool false, .slice none 0 0, .slice none 0 0]) (by kernel_rfl) (by kernel_rfl) rfl rfl fun x48 w50 Y h2' hy => ?_
    replace Y : Box w50 x48 (boxc t0) := Y
    have A0 : ApT x48 t0 (0 : Rat) := ApT.old hB0 (by omega)
    have hn48 : w44.heap.size ≤ x48.block := by have := h'.size; omega
    refine loop_up x.2.1 (fun k w' => bel w44 w' ∧ ∃ t, Box w' x48 (boxc t) ∧ BX (3 + 9 * k) w' t (dotN row L k) ∧ ApT x48 t (dotN row L k)) ⟨h'.trans h2', t0, Y, hB0.up h2', A0⟩ fun k w53 hk ⟨hw2, t, Y, hB, hA⟩ again' hag' _ => ?_
    refine br_dec (fun e2 => ?_) (fun e2 => ?_)
    · dsimp only at e2
      obtain ⟨p, hp⟩ : ∃ p, L[k]? = some p := ⟨_, List.getElem?_eq_getElem (by omega)⟩
      obtain ⟨c, hc⟩ : ∃ c, row[k]? = some c := ⟨_, List.getElem?_eq_getElem (by omega)⟩
      obtain ⟨uu, huu⟩ : ∃ uu, up[k]? = some uu := ⟨_, List.getElem?_eq_getElem (by omega)⟩
      have hF := (Q1 k p uu hp huu).1
      have hc2 := v3.2.2 row (mem_at hrow) c (mem_at hc)
      refine join_mk (fun _ w' => bel w44 w' ∧ ∃ t, Box w' x48 (boxc t) ∧ BX (3 + 9 * (k + 1)) w' t (dotN row L (k + 1)) ∧ ApT x48 t (dotN row L (k + 1))) (fun K hK => ?_) (fun _ w' hh _ => z_i64 (by dsimp only; omega) (hag' _ (by omega) hh))
      have same : dotT row L k = 0 → K () w53 := fun q => by
        have e : dotN row L (k + 1) = dotN row L k := by
          show dotN row L k + dotT row L k = _
          rw [q, Rat.add_zero]
        exact hK _ _ ⟨hw2, t, Y, by rw [e]; exact hB.le (by omega), by rw [e]; exact hA⟩
      refine at_fst (HL.up (hw.trans hw2)) rfl hp ?_
      refine br_ne (fun n1 => ?_) (fun n1 => same (dotT_p0 hc hp n1))
      refine rd_box (by kernel_rfl) (X.up (hw.trans hw2)) (i := 1) rfl rfl ?_
      refine (H.up (hw.trans hw2)).r.at tyTab (by kernel_rfl) rfl (by omega) fun y row' h1 HR => ?_
      rw [hrow] at h1; cases h1
      refine at_int tyI64 (by kernel_rfl) HR rfl (by have := Sl.int HR; omega) fun c' hc' => ?_
      rw [hc] at hc'; cases hc'
      refine br_ne (fun n2 => ?_) (fun n2 => same (dotT_c0 hc hp n2))
      refine drw_mk fun w65 h3' _ => ?_
      have hw3 := hw2.trans h3'
      replace Y := Y.up h3'; replace hB := hB.up h3'
      refine flEx_mk (fun i _ v w' => (i = 5 → ∃ t : TE, v = exV t ∧ BX 3 w' t (ratv p.1 p.2)) ∧ (i = 14 → ∃ t : TE, v = exV t ∧ BX 3 w' t (c : Rat)) ∧ (i = 15 → ∃ t : TE, v = exV t ∧ BX 7 w' t (ratv p.1 p.2 * (c : Rat))))
        (fun _ _ _ _ _ h hb => ⟨fun e => by obtain ⟨t, q1, q2⟩ := h.1 e; exact ⟨t, q1, q2.up hb⟩, fun e => by obtain ⟨t, q1, q2⟩ := h.2.1 e; exact ⟨t, q1, q2.up hb⟩, fun e => by obtain ⟨t, q1, q2⟩ := h.2.2 e; exact ⟨t, q1, q2.up hb⟩⟩) ?_
      refine rd_boxN Y (by kernel_rfl) rfl ?_
      refine at_frac (HL.up (hw.trans hw3)) rfl hp ?_
      refine flc_mk (fun w70 hb _ => call_mono (makeX w70 hF) fun y w' ⟨hy, _, _, hb'⟩ => ⟨hb', fun _ => ⟨y, rfl, hy⟩, fun e => by omega, fun e => by omega⟩) (fun (x74 : TE) => ?_)
      refine rd_box (by kernel_rfl) (X.up (hw.trans hw3)) (i := 1) rfl rfl ?_
      refine (H.up (hw.trans hw3)).r.at tyTab (by kernel_rfl) rfl (by omega) fun y row' h1 HR => ?_
      rw [hrow] at h1; cases h1
      refine at_int tyI64 (by kernel_rfl) HR rfl (by have := Sl.int HR; omega) fun c' hc' => ?_
      rw [hc] at hc'; cases hc'
      refine flc_mk (fun w80 hb _ => call_mono (wholeX c w80 ⟨by omega, by omega⟩) fun y w' ⟨hy, _, _, hb'⟩ => ⟨hb', fun e => by omega, fun _ => ⟨y, rfl, hy⟩, fun e => by omega⟩) (fun (x84 : TE) => ?_)
      refine flc_mk (fun w85 hb hf => ?_) (fun (x89 : TE) => ?_)
      · obtain ⟨⟨_, g2, _⟩, ⟨g1, _⟩, _⟩ := hf
        obtain ⟨t1, e1, B1⟩ := g1 rfl
        obtain ⟨t2, e2, B2⟩ := g2 rfl
        have e1' := exV_inj (t := x74) e1
        have e2' := exV_inj (t := x84) e2
        subst e1' e2'
        exact call_mono (timesX x74 x84 _ _ 3 3 w85 B1 B2 (by omega) (by omega)) fun y w' ⟨hy, _, _, hb'⟩ => ⟨hb', fun e => by omega, fun e => by omega, fun _ => ⟨y, rfl, hy⟩⟩
      · refine flend_mk fun w90 hb hf => ?_
        obtain ⟨⟨_, _, g⟩, _⟩ := hf
        obtain ⟨t1, e1, B1⟩ := g rfl
        have e1' := exV_inj (t := x89) e1
        subst e1'
        refine call_mono (plusX t x89 _ _ (3 + 9 * k) 7 w90 (hB.up hb) B1 (by omega) (by omega)) ?_
        rintro (y : TE) w93 ⟨hy, f1, f2, h4'⟩
        have A' : ApT x48 y (dotN row L (k + 1)) := ApT.fr (Y.up hb) f1 f2
        have e : dotN row L (k + 1) = dotN row L k + ratv p.1 p.2 * (c : Rat) := by
          show dotN row L k + dotT row L k = _
          rw [dotT_at hc hp]
        rw [← e] at hy
        refine wu_box ((Y.up hb).up h4') (by kernel_rfl) (Nat.le_refl 3) rfl fun w94 Y' hg _ => ?_
        exact hK _ _ ⟨((hw3.trans hb).trans h4').grownAt hg hn48, y, Y', (hy.grown A' hg).le (by omega), A'⟩
    · dsimp only at e2
      have hk' : k = up.length := by omega
      subst hk'
      refine drw_mk fun w95 h3' _ => ?_
      have hw3 := hw2.trans h3'
      replace Y := Y.up h3'; replace hB := hB.up h3'
      refine flEx_mk (fun _ _ v w' => ∃ t : TE, v = exV t ∧ BX 3 w' t ((0 - cc : Int) : Rat)) (fun _ _ _ _ _ ⟨t, q1, q2⟩ hb => ⟨t, q1, q2.up hb⟩) ?_
      refine rd_boxN Y (by kernel_rfl) rfl ?_
      refine rd_box (by kernel_rfl) (X.up (hw.trans hw3)) (i := 2) rfl rfl ?_
      refine at_int tyI64 (by kernel_rfl) (H.up (hw.trans hw3)).b rfl (by have := v4.1; omega) fun c' hc' => ?_
      rw [hcc] at hc'; cases hc'
      refine z_i64 (by omega) ?_
      refine flc_mk (fun w102 hb _ => call_mono (wholeX (0 - cc) w102 ⟨by omega, by omega⟩) fun y w' ⟨hy, _, _, hb'⟩ => ⟨hb', y, rfl, hy⟩) (fun (x106 : TE) => ?_)
      refine flend_mk fun w107 hb hf => ?_
      obtain ⟨⟨t1, e1, B1⟩, _⟩ := hf
      have e1' := exV_inj (t := x106) e1
      subst e1'
      refine call_mono (plusX t x106 _ _ (3 + 9 * up.length) 3 w107 (hB.up hb) B1 (by omega) (by omega)) ?_
      rintro (y : TE) w110 ⟨hy, _, _, h4'⟩
      refine call_mono (signX y _ _ w110 hy (by omega)) ?_
      rintro _ w112 ⟨rfl, h5'⟩
      have hw' := ((hw3.trans hb).trans h4').trans h5'
      have key : rsign (dotN row L up.length + ((0 - cc : Int) : Rat)) = 0 ↔ dotN row L up.length = (cc : Rat) := by
        rw [Int.zero_sub, Rat.intCast_neg]; exact same_iff
      refine br_ne (fun el => no (h.trans (hw.trans hw')) fun s => el (key.2 (s.rows i row cc hrow hcc))) (fun el => ?_)
      refine z_i64 (by dsimp only; omega) ?_
      refine hag _ (by omega) ⟨hw.trans hw', fun j hj q c q1 q2 => ?_⟩
      rcases Nat.lt_or_ge j i with hlt | hge
      · exact hq j hlt q c q1 q2
      · have : j = i := by omega
        subst this
        rw [hrow] at q1; cases q1
        rw [hcc] at q2; cases q2
        exact key.1 el
  · dsimp only at e
    exact ⟨true, rfl, ⟨fun _ => ⟨e0, by omega, Q1, fun i q c q1 q2 => hq i (by have := (List.getElem?_eq_some_iff.1 q1).1; omega) q c q1 q2⟩, fun _ => rfl⟩, h.trans hw⟩
end Go.Proofs.YtajpdnphamomjaaGreat

/- When numbers are a solution: the program. -/

namespace Go.Proofs.YtajpdnphamomjaaGreat
open Go.RowKit Go.Q Go.Q.Num Go.V

end Go.Proofs.YtajpdnphamomjaaGreat

/- The laws LinearChecks and IntegralChecks: the walks. -/

namespace Go.Proofs.YtajpdnphamomjaaGreat
open Go.RowKit Go.Q Go.Q.Num Go.V

theorem fewS (u r b : Hdr) (up : List Int) (T : List (List Int)) (rt : List Int) (w : World) (H : Sys w u r b up T rt) :
    call Tryz.prog 13 [sysv u r b] (.one (.one .bool)) w (fun x w' => (x = true → up.length ≤ 12 ∧ T.length ≤ 8 ∧ rt.length ≤ 12) ∧ bel w w') := by
  refine call_of (S13_calls u.1 u.2.1 u.2.2 r.1 r.2.1 r.2.2 b.1 b.2.1 b.2.2 w _ ?_)
  unfold S13
  have hu := H.u.int
  have hT := H.r.len
  have hb := H.b.int
  have no : ∀ {w' : World}, bel w w' → ∃ v : Bool, Value.bool false = (RS.one (.one .bool)).val v ∧ (v = true → up.length ≤ 12 ∧ T.length ≤ 8 ∧ rt.length ≤ 12) ∧ bel w w' := fun hb => ⟨false, rfl, fun e => (Bool.noConfusion e), hb⟩
  refine wr_box fun x1 w2 X h _ _ => ?_
  replace X : Box w2 x1 (sysc u r b) := X
  replace H := H.up h
  have kT : r.2.1 ≤ 9223372036854775807 := by obtain ⟨hs, q, _⟩ := H.r.ex; exact q.le
  refine rd_box0 (by kernel_rfl) X rfl rfl ?_
  refine br_dec (fun _ => no h) (fun e1 => ?_)
  refine rd_box (by kernel_rfl) X (i := 1) rfl rfl ?_
  refine br_dec (fun _ => no h) (fun e2 => ?_)
  refine rd_box (by kernel_rfl) X (i := 2) rfl rfl ?_
  refine br_dec (fun _ => no h) (fun e3 => ?_)
  dsimp only at e1 e2 e3
  refine loop_up r.2.1 (fun _ w' => bel w2 w') (bel.refl _) fun i w8 hi hw again hag _ => ?_
  refine rd_box (by kernel_rfl) (X.up hw) (i := 1) rfl rfl ?_
  refine br_dec (fun e => ?_) (fun e => ?_)
  · dsimp only at e
    refine rd_box (by kernel_rfl) (X.up hw) (i := 1) rfl rfl ?_
    refine (H.up hw).r.at tyTab (by kernel_rfl) rfl (by omega) fun y row _ _ => ?_
    refine br_dec (fun _ => no (h.trans hw)) (fun _ => ?_)
    refine z_i64 (by dsimp only; omega) ?_
    exact hag _ (by omega) hw
  · exact ⟨true, rfl, fun _ => ⟨by omega, by omega, by omega⟩, h.trans hw⟩

theorem sys_nil (w : World) : Sys w (none, 0, 0) (none, 0, 0) (none, 0, 0) [] [] [] := ⟨Sl.nil _ _, ⟨[], Sl.nil _ _, rfl, fun i x r h => by simp at h⟩, Sl.nil _ _⟩
theorem sol_nil : SolP [] [] [] [] := by
  refine ⟨sysE_0 (by simp) (by simp) ⟨by simp, by simp, by simp⟩ ⟨rfl, by simp⟩, rfl, fun k p u h => by simp at h, fun i r b h => by simp at h⟩
theorem iff_eq {a b : Bool} {P : Prop} (h1 : a = true ↔ P) (h2 : b = true ↔ P) : a = b := by rw [Bool.eq_iff_iff, h1, h2]

/-! ### whole numbers -/
def dotJ (r xs : List Int) (k : Nat) : Int :=
  match r[k]?, xs[k]? with
  | some c, some x => c * x
  | _, _ => 0
def dotI (r xs : List Int) : Nat → Int
  | 0 => 0
  | k + 1 => dotI r xs k + dotJ r xs k
abbrev one1s (xs : List Int) : List (Int × Int) := xs.map fun n => (n, 1)
theorem ratv_one (n : Int) : ratv n 1 = (n : Rat) := by unfold ratv; exact Rat.mkRat_one n
theorem dotN_int (r xs : List Int) : ∀ k, dotN r (one1s xs) k = ((dotI r xs k : Int) : Rat)
  | 0 => rfl
  | k + 1 => by
    show dotN r (one1s xs) k + dotT r (one1s xs) k = ((dotI r xs k + dotJ r xs k : Int) : Rat)
    rw [dotN_int r xs k]
    unfold dotT dotJ
    rw [List.getElem?_map]
    cases r[k]? with
    | none => simp [Rat.add_zero]
    | some c => cases xs[k]? with
      | none => simp [Rat.add_zero]
      | some x => simp only [Option.map_some]; rw [ratv_one, Rat.intCast_add, Rat.intCast_mul, Rat.mul_comm]
theorem dotI_step {r xs : List Int} {k : Nat} {c x : Int} (h1 : r[k]? = some c) (h2 : xs[k]? = some x) : dotI r xs (k + 1) = dotI r xs k + c * x := by
  show dotI r xs k + dotJ r xs k = _
  unfold dotJ
  rw [h1, h2]
theorem each_int {n u : Int} (hu : u ≤ 1000000000) : IsFrac n 1 ∧ ¬ n < 0 ∧ ¬ ((u : Rat) < ratv n 1) ↔ 0 ≤ n ∧ n ≤ u := by
  rw [ratv_one, Rat.intCast_lt_intCast]
  constructor
  · rintro ⟨_, h1, h2⟩; omega
  · rintro ⟨h1, h2⟩
    exact ⟨⟨by omega, by omega, by omega, by omega, Nat.gcd_one_right _⟩, by omega, by omega⟩

theorem chk12 (u r b x : Hdr) (up : List Int) (T : List (List Int)) (rt : List Int) (xs : List Int) (w : World) (H : Sys w u r b up T rt) (HL : Sl w x.1 x.2.1 x.2.2 1 (ints .i64 xs)) (hI : ∀ n ∈ xs, I64 n) (hs : xs.length ≤ 1000) :
    call Tryz.prog 10 [sysv u r b, .slice x.1 x.2.1 x.2.2] (.one (.one .bool)) w (fun v w' => (v = true ↔ SolP up T rt (one1s xs)) ∧ bel w w') := by
  refine call_of (S10_calls u.1 u.2.1 u.2.2 r.1 r.2.1 r.2.2 b.1 b.2.1 b.2.2 x.1 x.2.1 x.2.2 w _ ?_)
  unfold S10
  have hl := HL.int
  refine wr_box fun x1 w2 X h _ _ => ?_
  replace X : Box w2 x1 (sysc u r b) := X
  replace H := H.up h; replace HL := HL.up h
  refine loop_upA x.2.1 (fun i (a : Hdr) w' => bel w2 w' ∧ a.2.1 = i ∧ Own w' w2.heap.size 60 2 a.1 i a.2.2 ((one1s (xs.take i)).flatMap encF)) ⟨bel.refl _, rfl, Own.nil _ _ _ _⟩ fun i a w5 hi ⟨hw, ha, O⟩ again hag _ => ?_
  refine br_dec (fun e => ?_) (fun e => ?_)
  · dsimp only at e
    refine at_int tyI64 (by kernel_rfl) (HL.up hw) rfl (by omega) fun n hn => ?_
    dsimp only
    rw [ha]
    refine wr_app1 tyFracs O hw.size rfl (by omega) (by omega) rfl rfl (by omega) (by unfold maxLen; omega) fun a' c' w11 O' hg _ _ => ?_
    refine z_i64 (by omega) ?_
    refine hag (a', i + 1, c') w11 (by omega) ⟨hw.own O hg (Nat.le_refl _), rfl, ?_⟩
    have e : (one1s (xs.take (i + 1))).flatMap encF = (one1s (xs.take i)).flatMap encF ++ encF (n, 1) := by
      rw [List.take_add_one, hn]
      simp [one1s, List.flatMap_append]
    rw [e]; exact O'
  · dsimp only at e
    have hi' : i = xs.length := by omega
    subst hi'
    rw [List.take_of_length_le (Nat.le_refl _)] at O
    refine rd_boxN (X.up hw) (by kernel_rfl) rfl ?_
    dsimp only
    rw [ha]
    refine call_mono (sol11 u r b (a.1, xs.length, a.2.2) up T rt (one1s xs) w5 (H.up hw) O.sl ?_) ?_
    · intro p hp
      obtain ⟨n, hn, rfl⟩ := List.mem_map.1 hp
      exact ⟨hI n hn, ⟨by omega, by omega⟩⟩
    rintro x14 w15 ⟨hx, h'⟩
    exact ⟨_, rfl, hx, (h.trans hw).trans h'⟩

end Go.Proofs.YtajpdnphamomjaaGreat

/- The walk of IntegralChecks; arguments. -/

namespace Go.Proofs.YtajpdnphamomjaaGreat
open Go.RowKit Go.Q Go.Q.Num Go.V

/-- literals -/
theorem litI {n : Int} {w : World} {k : Hdr → World → Prop} (hk : ∀ (x : Hdr) w', bel w w' → Sl w' x.1 x.2.1 x.2.2 1 (ints .i64 [n]) → k x w') : wr Tryz.prog (Instr.buildSlice 26 1 #[(0, .int .i64 n)]) (.one .slice) w k :=
  wr_lit tyI64 #[.int .i64 n] (fill_one 1 (.int .i64 n) _ rfl (by simp)) (by omega) (by omega) rfl (by unfold maxLen; omega) fun ad w' O hb _ _ => hk (some ad, 1, 1) w' hb (O w.heap.size (Nat.le_refl _)).sl
theorem litT {h : Hdr} {row : List Int} {w : World} {k : Hdr → World → Prop} (H : Sl w h.1 h.2.1 h.2.2 1 (ints .i64 row)) (hk : ∀ (x : Hdr) w', bel w w' → TabI .i64 w' x [row] → k x w') : wr Tryz.prog (Instr.buildSlice 27 1 #[(0, .slice h.1 h.2.1 h.2.2)]) (.one .slice) w k :=
  wr_lit tyTab #[.slice h.1 h.2.1 h.2.2] (fill_one 1 (.slice h.1 h.2.1 h.2.2) _ rfl (by simp)) (by omega) (by omega) rfl (by unfold maxLen; omega) fun ad w' O hb _ _ => hk (some ad, 1, 1) w' hb
    ⟨[h], (O w.heap.size (Nat.le_refl _)).sl, rfl, fun i x r h1 h2 => by
      cases i with
      | zero => cases h1; cases h2; exact H.kept hb
      | succ i => simp at h1⟩
theorem sl_inj {x : Option Addr × Nat × Nat} {h : Hdr} (e : Value.slice x.1 x.2.1 x.2.2 = hv h) : x = h := by
  obtain ⟨a, b, c⟩ := x
  obtain ⟨a', b', c'⟩ := h
  simp only [hv, Value.slice.injEq] at e
  obtain ⟨rfl, rfl, rfl⟩ := e
  rfl
theorem sol_ex : SolP [3] [[2]] [4] (one1s [2]) := by
  refine ⟨sysE_0 (by simp) (by simp) ⟨by simp, by simp, by simp⟩ ⟨rfl, by simp⟩, rfl, fun k p u h1 h2 => ?_, fun i r b h1 h2 => ?_⟩
  · cases k with
    | zero => cases h1; cases h2; exact (each_int (by omega)).2 ⟨by decide, by decide⟩
    | succ k => simp at h2
  · cases i with
    | zero => cases h1; cases h2; rw [dotN_int]; rfl
    | succ i => simp at h2

/-! ### arguments -/
set_option maxRecDepth 100000 in
theorem argSys {w : World} {v : Value} (h : Go.Q.Arg Tryz.prog w 29 v) : ∃ u r b up T rt, v = sysv u r b ∧ Sys w u r b up T rt ∧ (∀ x ∈ up, I64 x) ∧ (∀ r ∈ T, ∀ x ∈ r, I64 x) ∧ (∀ x ∈ rt, I64 x) := by
  obtain ⟨cs, rfl, hsz, h⟩ := Go.V.Arg.struct Tryz.underlying29 h
  have hsz' : cs.size = 3 := by rw [hsz]; kernel_rfl
  obtain ⟨x, y, z, rfl⟩ : ∃ x y z, cs = #[x, y, z] := by
    rcases cs with ⟨l⟩
    rcases l with _ | ⟨x, _ | ⟨y, _ | ⟨z, _ | ⟨u, l⟩⟩⟩⟩ <;> simp at hsz'
    exact ⟨x, y, z, rfl⟩
  have e1 : Go.Q.Read Tryz.prog w 26 [x] := h _ (List.mem_cons_self ..)
  have e2 : Go.Q.Read Tryz.prog w 27 [y] := h _ (List.mem_cons_of_mem _ (List.mem_cons_self ..))
  have e3 : Go.Q.Read Tryz.prog w 26 [z] := h _ (List.mem_cons_of_mem _ (List.mem_cons_of_mem _ (List.mem_cons_self ..)))
  obtain ⟨a1, n1, c1, up, q1, _, s1, b1⟩ := Go.V.Read.ints Tryz.underlying26 Tryz.underlying2 (by kernel_rfl) e1
  obtain ⟨r, T, q2, s2, b2⟩ := Go.V.Read.tab (g := Value.int .i64) (R := fun n => (Lit.int .i64 n).wf = true) (fun _ h => Go.Q.Read.int Tryz.underlying2 h) Tryz.underlying27 (by kernel_rfl) Tryz.underlying26 (by kernel_rfl) e2
  obtain ⟨a3, n3, c3, rt, q3, _, s3, b3⟩ := Go.V.Read.ints Tryz.underlying26 Tryz.underlying2 (by kernel_rfl) e3
  cases q1; cases q2; cases q3
  exact ⟨(a1, n1, c1), r, (a3, n3, c3), up, T, rt, rfl, ⟨s1, s2, s3⟩, fun x hx => bounds_i64 (b1 x hx), fun r hr x hx => bounds_i64 (b2 r hr x hx), fun x hx => bounds_i64 (b3 x hx)⟩
set_option maxRecDepth 100000 in
theorem argInts {w : World} {v : Value} (h : Go.Q.Arg Tryz.prog w 26 v) : ∃ x xs, v = hv x ∧ Sl w x.1 x.2.1 x.2.2 1 (ints .i64 xs) ∧ ∀ n ∈ xs, I64 n := by
  obtain ⟨a, n, c, rfl, h⟩ := Go.V.Arg.slice Tryz.underlying26 h
  obtain ⟨a1, n1, c1, xs, q1, _, s1, b1⟩ := Go.V.Read.ints Tryz.underlying26 Tryz.underlying2 (by kernel_rfl) h
  cases q1
  exact ⟨(a, n, c), xs, rfl, s1, fun x hx => bounds_i64 (b1 x hx)⟩
set_option maxRecDepth 100000 in
theorem readFrac {w : World} {ch : List Value} (h : Go.Q.Read Tryz.prog w 60 ch) : ∃ p : Int × Int, ch = encF p ∧ I64 p.1 ∧ I64 p.2 := by
  obtain ⟨hl, h⟩ := Go.Q.Read.struct Tryz.underlying60 h
  have hsz' : ch.length = 2 := by rw [hl]; kernel_rfl
  obtain ⟨x, y, rfl⟩ : ∃ x y, ch = [x, y] := by
    rcases ch with _ | ⟨x, _ | ⟨y, _ | ⟨z, l⟩⟩⟩ <;> simp at hsz'
    exact ⟨x, y, rfl⟩
  have e1 : Go.Q.Read Tryz.prog w 2 [x] := h _ (List.mem_cons_self ..)
  have e2 : Go.Q.Read Tryz.prog w 2 [y] := h _ (List.mem_cons_of_mem _ (List.mem_cons_self ..))
  obtain ⟨n, hn, hw⟩ := Go.Q.Read.int Tryz.underlying2 e1
  obtain ⟨d, hd, hw'⟩ := Go.Q.Read.int Tryz.underlying2 e2
  cases hn; cases hd
  exact ⟨(n, d), rfl, bounds_i64 hw, bounds_i64 hw'⟩
set_option maxRecDepth 100000 in
theorem argFracs {w : World} {v : Value} (h : Go.Q.Arg Tryz.prog w 32 v) : ∃ x, ∃ L : List (Int × Int), v = hv x ∧ Sl w x.1 x.2.1 x.2.2 2 (L.flatMap encF) ∧ ∀ p ∈ L, I64 p.1 ∧ I64 p.2 := by
  obtain ⟨a, n, c, rfl, h⟩ := Go.V.Arg.slice Tryz.underlying32 h
  obtain ⟨a1, n1, c1, L, q1, _, s1, b1⟩ := Go.V.Read.elems (enc := encF) (R := fun p => I64 p.1 ∧ I64 p.2) encF_len (by omega) (fun _ h => readFrac h) Tryz.underlying32 (by kernel_rfl) h
  cases q1
  exact ⟨(a, n, c), L, rfl, s1, b1⟩
end Go.Proofs.YtajpdnphamomjaaGreat
