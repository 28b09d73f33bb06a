import Derived.KernelRfl
import Derived.Test.YtaomejbaocehnaaPackSuiteAnswers2

/- The conditions of functions, printed by our tool; each is checked against the code by the kernel. -/



namespace Go.Proofs
open Go Go.V Go.RowKit
/-- querylab/querylabfield.New -/
def S8 (t_a : Option Addr) (t_n : Nat) (t_c : Nat) (w0 : World) (R : Value → World → Prop) : Prop :=
 z (if 2000 < ((t_n : Nat) : Int) then 2000 else ((t_n : Nat) : Int)) fun (z1 : Int) =>
 rdp Try.prog (Instr.sliceAt 22 (.slice t_a t_n t_c) none (some (.int .i64 z1)) none) (.one .slice) fun (x2 : (Option Addr × Nat × Nat)) =>
 wr Try.prog (Instr.box 48 (.agg #[(.slice x2.1 x2.2.1 x2.2.2), (.int .i64 0)])) (.one .addr) w0 fun (x3 : Addr) (w4 : World) =>
 R (.pointer (some x3)) w4
def H8 : Hints := ⟨[], [], [], []⟩
set_option maxRecDepth 100000 in
theorem S8_eq (t_a : Option Addr) (t_n : Nat) (t_c : Nat) (w0 : World) (R : Value → World → Prop) : vcFn Try.prog H8 Try.f8 [(.slice t_a t_n t_c)] w0 R = S8 t_a t_n t_c w0 R := by kernel_rfl
set_option maxRecDepth 100000 in
theorem S8_calls (t_a : Option Addr) (t_n : Nat) (t_c : Nat) (w0 : World) (R : Value → World → Prop) (h : S8 t_a t_n t_c w0 R) : Calls Try.prog 8 #[(.slice t_a t_n t_c)] w0 (ret R) := by
  rw [← S8_eq] at h; exact vcFn_sound follows_ Try.func8 h

/-- querylab/querylabfield.Mod -/
def S41 (x_ : Int) (n_ : Int) (w0 : World) (R : Value → World → Prop) : Prop :=
 br (decide (n_ < 1)) (R (.int .i64 0) w0)
 (rdp Try.prog (cmpS .rem 3 (.tmp 7) (.tmp 8) (.int .i64 x_) (.int .i64 n_)) (.one (.int .i64)) fun (x1 : Int) =>
 br (decide (x1 < 0)) (z (IntKind.wrap .i64 (x1 + n_)) fun (z2 : Int) =>
 R (.int .i64 z2) w0)
 (R (.int .i64 x1) w0))
def H41 : Hints := ⟨[], [], [], []⟩
set_option maxRecDepth 100000 in
theorem S41_eq (x_ : Int) (n_ : Int) (w0 : World) (R : Value → World → Prop) : vcFn Try.prog H41 Try.f41 [(.int .i64 x_), (.int .i64 n_)] w0 R = S41 x_ n_ w0 R := by kernel_rfl
set_option maxRecDepth 100000 in
theorem S41_calls (x_ : Int) (n_ : Int) (w0 : World) (R : Value → World → Prop) (h : S41 x_ n_ w0 R) : Calls Try.prog 41 #[(.int .i64 x_), (.int .i64 n_)] w0 (ret R) := by
  rw [← S41_eq] at h; exact vcFn_sound follows_ Try.func41 h

/-- (*querylab/querylabfield.Tape).Raw -/
def S42 (t_ : (Option Addr)) (w0 : World) (R : Value → World → Prop) : Prop :=
 drw w0 fun w1 =>
 nn t_ fun (a2 : Addr) =>
 rd Try.prog (Instr.loadAt 3 (.pointer (some (Addr.add a2 1)))) (.one (.int .i64)) w1 fun (x3 : Int) =>
 nn t_ fun (a4 : Addr) =>
 rd Try.prog (Instr.loadAt 22 (.pointer (some a4))) (.one .slice) w1 fun (x5 : (Option Addr × Nat × Nat)) =>
 br (decide (x3 ≥ ((x5.2.1 : Nat) : Int))) (R (.int .i64 0) w1)
 (nn t_ fun (a6 : Addr) =>
 rd Try.prog (Instr.loadAt 3 (.pointer (some (Addr.add a6 1)))) (.one (.int .i64)) w1 fun (x7 : Int) =>
 z (IntKind.wrap .i64 (x7 + 1)) fun (z8 : Int) =>
 nn t_ fun (a9 : Addr) =>
 wu Try.prog (Instr.storeAt 3 (.pointer (some (Addr.add a9 1))) (.int .i64 z8)) w1 fun (w10 : World) =>
 drw w10 fun w11 =>
 nn t_ fun (a12 : Addr) =>
 rd Try.prog (Instr.loadAt 22 (.pointer (some a12))) (.one .slice) w11 fun (x13 : (Option Addr × Nat × Nat)) =>
 nn t_ fun (a14 : Addr) =>
 rd Try.prog (Instr.loadAt 3 (.pointer (some (Addr.add a14 1)))) (.one (.int .i64)) w11 fun (x15 : Int) =>
 z (IntKind.wrap .i64 (x15 - 1)) fun (z16 : Int) =>
 rdp Try.prog (Instr.indexAt 22 (.slice x13.1 x13.2.1 x13.2.2) (.int .i64 z16)) (.one .addr) fun (x17 : Addr) =>
 rd Try.prog (Instr.loadAt 3 (.pointer (some x17))) (.one (.int .i64)) w11 fun (x18 : Int) =>
 R (.int .i64 x18) w11)
def H42 : Hints := ⟨[], [(1, 9), (4, 9)], [], []⟩
set_option maxRecDepth 100000 in
theorem S42_eq (t_ : (Option Addr)) (w0 : World) (R : Value → World → Prop) : vcFn Try.prog H42 Try.f42 [(.pointer t_)] w0 R = S42 t_ w0 R := by kernel_rfl
set_option maxRecDepth 100000 in
theorem S42_calls (t_ : (Option Addr)) (w0 : World) (R : Value → World → Prop) (h : S42 t_ w0 R) : Calls Try.prog 42 #[(.pointer t_)] w0 (ret R) := by
  rw [← S42_eq] at h; exact vcFn_sound follows_ Try.func42 h

/-- (*querylab/querylabfield.Tape).N -/
def S18 (t_ : (Option Addr)) (n_ : Int) (w0 : World) (R : Value → World → Prop) : Prop :=
 call Try.prog 42 [(.pointer t_)] (.one (.one (.int .i64))) w0 fun (x1 : Int) (w2 : World) =>
 call Try.prog 41 [(.int .i64 x1), (.int .i64 n_)] (.one (.one (.int .i64))) w2 fun (x3 : Int) (w4 : World) =>
 R (.int .i64 x3) w4
def H18 : Hints := ⟨[], [], [], []⟩
set_option maxRecDepth 100000 in
theorem S18_eq (t_ : (Option Addr)) (n_ : Int) (w0 : World) (R : Value → World → Prop) : vcFn Try.prog H18 Try.f18 [(.pointer t_), (.int .i64 n_)] w0 R = S18 t_ n_ w0 R := by kernel_rfl
set_option maxRecDepth 100000 in
theorem S18_calls (t_ : (Option Addr)) (n_ : Int) (w0 : World) (R : Value → World → Prop) (h : S18 t_ n_ w0 R) : Calls Try.prog 18 #[(.pointer t_), (.int .i64 n_)] w0 (ret R) := by
  rw [← S18_eq] at h; exact vcFn_sound follows_ Try.func18 h

/-- (*querylab/querylabfield.Tape).Range -/
def S33 (t_ : (Option Addr)) (lo_ : Int) (hi_ : Int) (w0 : World) (R : Value → World → Prop) : Prop :=
 z (IntKind.wrap .i64 (hi_ - lo_)) fun (z1 : Int) =>
 z (IntKind.wrap .i64 (z1 + 1)) fun (z2 : Int) =>
 call Try.prog 18 [(.pointer t_), (.int .i64 z2)] (.one (.one (.int .i64))) w0 fun (x3 : Int) (w4 : World) =>
 z (IntKind.wrap .i64 (lo_ + x3)) fun (z5 : Int) =>
 R (.int .i64 z5) w4
def H33 : Hints := ⟨[], [], [], []⟩
set_option maxRecDepth 100000 in
theorem S33_eq (t_ : (Option Addr)) (lo_ : Int) (hi_ : Int) (w0 : World) (R : Value → World → Prop) : vcFn Try.prog H33 Try.f33 [(.pointer t_), (.int .i64 lo_), (.int .i64 hi_)] w0 R = S33 t_ lo_ hi_ w0 R := by kernel_rfl
set_option maxRecDepth 100000 in
theorem S33_calls (t_ : (Option Addr)) (lo_ : Int) (hi_ : Int) (w0 : World) (R : Value → World → Prop) (h : S33 t_ lo_ hi_ w0 R) : Calls Try.prog 33 #[(.pointer t_), (.int .i64 lo_), (.int .i64 hi_)] w0 (ret R) := by
  rw [← S33_eq] at h; exact vcFn_sound follows_ Try.func33 h

/-- querylab/querylabfield.Ints -/
def S19 (a_a : Option Addr) (a_n : Nat) (a_c : Nat) (b_a : Option Addr) (b_n : Nat) (b_c : Nat) (w0 : World) (R : Value → World → Prop) : Prop :=
 br (((a_n : Nat) : Int) != ((b_n : Nat) : Int)) (R (.bool false) w0)
 (loop (T := (Int × Unit)) (0, ()) w0 fun (again1 : (Int × Unit) → World → Prop) (s2 : (Int × Unit)) w3 => ∀ _ : Nat → Value,
 br (decide (s2.1 < ((a_n : Nat) : Int))) (drw w3 fun w4 =>
 rdp Try.prog (Instr.indexAt 22 (.slice a_a a_n a_c) (.int .i64 s2.1)) (.one .addr) fun (x5 : Addr) =>
 rd Try.prog (Instr.loadAt 3 (.pointer (some x5))) (.one (.int .i64)) w4 fun (x6 : Int) =>
 rdp Try.prog (Instr.indexAt 22 (.slice b_a b_n b_c) (.int .i64 s2.1)) (.one .addr) fun (x7 : Addr) =>
 rd Try.prog (Instr.loadAt 3 (.pointer (some x7))) (.one (.int .i64)) w4 fun (x8 : Int) =>
 br (x6 != x8) (R (.bool false) w4)
 (z (IntKind.wrap .i64 (s2.1 + 1)) fun (z9 : Int) =>
 again1 (z9, ()) w4))
 (R (.bool true) w3))
def H19 : Hints := ⟨[(2, 0, [(5, (.one (.int .i64)))])], [(6, 8)], [], []⟩
set_option maxRecDepth 100000 in
theorem S19_eq (a_a : Option Addr) (a_n : Nat) (a_c : Nat) (b_a : Option Addr) (b_n : Nat) (b_c : Nat) (w0 : World) (R : Value → World → Prop) : vcFn Try.prog H19 Try.f19 [(.slice a_a a_n a_c), (.slice b_a b_n b_c)] w0 R = S19 a_a a_n a_c b_a b_n b_c w0 R := by kernel_rfl
set_option maxRecDepth 100000 in
theorem S19_calls (a_a : Option Addr) (a_n : Nat) (a_c : Nat) (b_a : Option Addr) (b_n : Nat) (b_c : Nat) (w0 : World) (R : Value → World → Prop) (h : S19 a_a a_n a_c b_a b_n b_c w0 R) : Calls Try.prog 19 #[(.slice a_a a_n a_c), (.slice b_a b_n b_c)] w0 (ret R) := by
  rw [← S19_eq] at h; exact vcFn_sound follows_ Try.func19 h

/-- querylab/querylabfield.In -/
def S15 (l_a : Option Addr) (l_n : Nat) (l_c : Nat) (x_ : Int) (w0 : World) (R : Value → World → Prop) : Prop :=
 loop (T := (Int × Unit)) (0, ()) w0 fun (again1 : (Int × Unit) → World → Prop) (s2 : (Int × Unit)) w3 => ∀ _ : Nat → Value,
 br (decide (s2.1 < ((l_n : Nat) : Int))) (rdp Try.prog (Instr.indexAt 22 (.slice l_a l_n l_c) (.int .i64 s2.1)) (.one .addr) fun (x4 : Addr) =>
 rd Try.prog (Instr.loadAt 3 (.pointer (some x4))) (.one (.int .i64)) w3 fun (x5 : Int) =>
 br (x5 == x_) (R (.bool true) w3)
 (z (IntKind.wrap .i64 (s2.1 + 1)) fun (z6 : Int) =>
 again1 (z6, ()) w3))
 (R (.bool false) w3)
def H15 : Hints := ⟨[(2, 0, [(5, (.one (.int .i64)))])], [], [], []⟩
set_option maxRecDepth 100000 in
theorem S15_eq (l_a : Option Addr) (l_n : Nat) (l_c : Nat) (x_ : Int) (w0 : World) (R : Value → World → Prop) : vcFn Try.prog H15 Try.f15 [(.slice l_a l_n l_c), (.int .i64 x_)] w0 R = S15 l_a l_n l_c x_ w0 R := by kernel_rfl
set_option maxRecDepth 100000 in
theorem S15_calls (l_a : Option Addr) (l_n : Nat) (l_c : Nat) (x_ : Int) (w0 : World) (R : Value → World → Prop) (h : S15 l_a l_n l_c x_ w0 R) : Calls Try.prog 15 #[(.slice l_a l_n l_c), (.int .i64 x_)] w0 (ret R) := by
  rw [← S15_eq] at h; exact vcFn_sound follows_ Try.func15 h

/-- querylab/querylabfield.Put -/
def S32 (l_a : Option Addr) (l_n : Nat) (l_c : Nat) (x_ : Int) (w0 : World) (R : Value → World → Prop) : Prop :=
 join (T := (Int × Unit)) (fun (s2 : (Int × Unit)) w3 => ∀ _ : Nat → Value,
 join (T := (Unit)) (fun (_s5 : (Unit)) w6 => ∀ _ : Nat → Value,
 wr Try.prog (Instr.buildSlice 22 1 #[(0, (.int .i64 x_))]) (.one .slice) w6 fun (x7 : (Option Addr × Nat × Nat)) (w8 : World) =>
 rdp Try.prog (Instr.sliceAt 22 (.slice l_a l_n l_c) (some (.int .i64 s2.1)) none none) (.one .slice) fun (x9 : (Option Addr × Nat × Nat)) =>
 wr Try.prog (Builtin.append_ #[22, 22] 22 #[(.slice x7.1 x7.2.1 x7.2.2), (.slice x9.1 x9.2.1 x9.2.2)]) (.one .slice) w8 fun (x10 : (Option Addr × Nat × Nat)) (w11 : World) =>
 rdp Try.prog (Instr.sliceAt 22 (.slice l_a l_n l_c) none (some (.int .i64 s2.1)) (some (.int .i64 s2.1))) (.one .slice) fun (x12 : (Option Addr × Nat × Nat)) =>
 wr Try.prog (Builtin.append_ #[22, 22] 22 #[(.slice x12.1 x12.2.1 x12.2.2), (.slice x10.1 x10.2.1 x10.2.2)]) (.one .slice) w11 fun (x13 : (Option Addr × Nat × Nat)) (w14 : World) =>
 R (.slice x13.1 x13.2.1 x13.2.2) w14)
  fun (K4 : (Unit) → World → Prop) =>
 br (decide (s2.1 < ((l_n : Nat) : Int))) (rdp Try.prog (Instr.indexAt 22 (.slice l_a l_n l_c) (.int .i64 s2.1)) (.one .addr) fun (x15 : Addr) =>
 rd Try.prog (Instr.loadAt 3 (.pointer (some x15))) (.one (.int .i64)) w3 fun (x16 : Int) =>
 br (x16 == x_) (R (.slice l_a l_n l_c) w3)
 (K4 (()) w3))
 (K4 (()) w3))
  fun (K1 : (Int × Unit) → World → Prop) =>
 loop (T := (Int × Unit)) (0, ()) w0 fun (again17 : (Int × Unit) → World → Prop) (s18 : (Int × Unit)) w19 => ∀ _ : Nat → Value,
 br (decide (s18.1 < ((l_n : Nat) : Int))) (rdp Try.prog (Instr.indexAt 22 (.slice l_a l_n l_c) (.int .i64 s18.1)) (.one .addr) fun (x20 : Addr) =>
 rd Try.prog (Instr.loadAt 3 (.pointer (some x20))) (.one (.int .i64)) w19 fun (x21 : Int) =>
 br (decide (x21 < x_)) (z (IntKind.wrap .i64 (s18.1 + 1)) fun (z22 : Int) =>
 again17 (z22, ()) w19)
 (K1 (s18.1, ()) w19))
 (K1 (s18.1, ()) w19)
def H32 : Hints := ⟨[(2, 0, [(5, (.one (.int .i64)))]), (1, 0, [(5, (.one (.int .i64)))]), (0, 32, [])], [], [], []⟩
set_option maxRecDepth 100000 in
theorem S32_eq (l_a : Option Addr) (l_n : Nat) (l_c : Nat) (x_ : Int) (w0 : World) (R : Value → World → Prop) : vcFn Try.prog H32 Try.f32 [(.slice l_a l_n l_c), (.int .i64 x_)] w0 R = S32 l_a l_n l_c x_ w0 R := by kernel_rfl
set_option maxRecDepth 100000 in
theorem S32_calls (l_a : Option Addr) (l_n : Nat) (l_c : Nat) (x_ : Int) (w0 : World) (R : Value → World → Prop) (h : S32 l_a l_n l_c x_ w0 R) : Calls Try.prog 32 #[(.slice l_a l_n l_c), (.int .i64 x_)] w0 (ret R) := by
  rw [← S32_eq] at h; exact vcFn_sound follows_ Try.func32 h

/-- (*querylab/querylabfield.Tape).Order -/
def S17 (t_ : (Option Addr)) (n_ : Int) (w0 : World) (R : Value → World → Prop) : Prop :=
 loop (T := ((Option Addr × Nat × Nat) × Int × Unit)) ((none, 0, 0), 0, ()) w0 fun (again1 : ((Option Addr × Nat × Nat) × Int × Unit) → World → Prop) (s2 : ((Option Addr × Nat × Nat) × Int × Unit)) w3 => ∀ _ : Nat → Value,
 br (decide (s2.2.1 < n_)) (z (IntKind.wrap .i64 (((s2.1.2.1 : Nat) : Int) + 1)) fun (z4 : Int) =>
 call Try.prog 18 [(.pointer t_), (.int .i64 z4)] (.one (.one (.int .i64))) w3 fun (x5 : Int) (w6 : World) =>
 wr Try.prog (Instr.buildSlice 22 1 #[(0, (.int .i64 s2.2.1))]) (.one .slice) w6 fun (x7 : (Option Addr × Nat × Nat)) (w8 : World) =>
 rdp Try.prog (Instr.sliceAt 22 (.slice s2.1.1 s2.1.2.1 s2.1.2.2) (some (.int .i64 x5)) none none) (.one .slice) fun (x9 : (Option Addr × Nat × Nat)) =>
 wr Try.prog (Builtin.append_ #[22, 22] 22 #[(.slice x7.1 x7.2.1 x7.2.2), (.slice x9.1 x9.2.1 x9.2.2)]) (.one .slice) w8 fun (x10 : (Option Addr × Nat × Nat)) (w11 : World) =>
 rdp Try.prog (Instr.sliceAt 22 (.slice s2.1.1 s2.1.2.1 s2.1.2.2) none (some (.int .i64 x5)) (some (.int .i64 x5))) (.one .slice) fun (x12 : (Option Addr × Nat × Nat)) =>
 wr Try.prog (Builtin.append_ #[22, 22] 22 #[(.slice x12.1 x12.2.1 x12.2.2), (.slice x10.1 x10.2.1 x10.2.2)]) (.one .slice) w11 fun (x13 : (Option Addr × Nat × Nat)) (w14 : World) =>
 z (IntKind.wrap .i64 (s2.2.1 + 1)) fun (z15 : Int) =>
 again1 ((x13.1, x13.2.1, x13.2.2), z15, ()) w14)
 (R (.slice s2.1.1 s2.1.2.1 s2.1.2.2) w3)
def H17 : Hints := ⟨[(2, 0, [(5, (.one .slice)), (6, (.one (.int .i64)))])], [], [], []⟩
set_option maxRecDepth 100000 in
theorem S17_eq (t_ : (Option Addr)) (n_ : Int) (w0 : World) (R : Value → World → Prop) : vcFn Try.prog H17 Try.f17 [(.pointer t_), (.int .i64 n_)] w0 R = S17 t_ n_ w0 R := by kernel_rfl
set_option maxRecDepth 100000 in
theorem S17_calls (t_ : (Option Addr)) (n_ : Int) (w0 : World) (R : Value → World → Prop) (h : S17 t_ n_ w0 R) : Calls Try.prog 17 #[(.pointer t_), (.int .i64 n_)] w0 (ret R) := by
  rw [← S17_eq] at h; exact vcFn_sound follows_ Try.func17 h

/-- querylab/querylablaw31.matrix -/
def S9 (s_ : (Option Addr)) (rows_ : Int) (columns_ : Int) (w0 : World) (R : Value → World → Prop) : Prop :=
 z (IntKind.wrap .i64 (columns_ + 1)) fun (z1 : Int) =>
 call Try.prog 18 [(.pointer s_), (.int .i64 z1)] (.one (.one (.int .i64))) w0 fun (x2 : Int) (w3 : World) =>
 call Try.prog 33 [(.pointer s_), (.int .i64 2), (.int .i64 5)] (.one (.one (.int .i64))) w3 fun (x4 : Int) (w5 : World) =>
 z (IntKind.wrap .i64 (rows_ + 1)) fun (z6 : Int) =>
 call Try.prog 18 [(.pointer s_), (.int .i64 z6)] (.one (.one (.int .i64))) w5 fun (x7 : Int) (w8 : World) =>
 loop (T := ((Option Addr × Nat × Nat) × Int × Unit)) ((none, 0, 0), x7, ()) w8 fun (again9 : ((Option Addr × Nat × Nat) × Int × Unit) → World → Prop) (s10 : ((Option Addr × Nat × Nat) × Int × Unit)) w11 => ∀ _ : Nat → Value,
 br (decide (s10.2.1 > 0)) (wr Try.prog (Instr.makeSlice 35 (.int .i64 x2) (.int .i64 x2)) (.one .slice) w11 fun (x12 : (Option Addr × Nat × Nat)) (w13 : World) =>
 loop (T := (Int × Unit)) (0, ()) w13 fun (again14 : (Int × Unit) → World → Prop) (s15 : (Int × Unit)) w16 => ∀ _ : Nat → Value,
 br (decide (s15.1 < ((x12.2.1 : Nat) : Int))) (call Try.prog 18 [(.pointer s_), (.int .i64 x4)] (.one (.one (.int .i64))) w16 fun (x17 : Int) (w18 : World) =>
 rdp Try.prog (Instr.indexAt 35 (.slice x12.1 x12.2.1 x12.2.2) (.int .i64 s15.1)) (.one .addr) fun (x19 : Addr) =>
 wu Try.prog (Instr.storeAt 4 (.pointer (some x19)) (.bool (x17 == 1))) w18 fun (w20 : World) =>
 z (IntKind.wrap .i64 (s15.1 + 1)) fun (z21 : Int) =>
 again14 (z21, ()) w20)
 (wr Try.prog (Instr.buildSlice 25 1 #[(0, (.slice x12.1 x12.2.1 x12.2.2))]) (.one .slice) w16 fun (x22 : (Option Addr × Nat × Nat)) (w23 : World) =>
 wr Try.prog (Builtin.append_ #[25, 25] 25 #[(.slice s10.1.1 s10.1.2.1 s10.1.2.2), (.slice x22.1 x22.2.1 x22.2.2)]) (.one .slice) w23 fun (x24 : (Option Addr × Nat × Nat)) (w25 : World) =>
 z (IntKind.wrap .i64 (s10.2.1 - 1)) fun (z26 : Int) =>
 again9 ((x24.1, x24.2.1, x24.2.2), z26, ()) w25))
 (R (.slice s10.1.1 s10.1.2.1 s10.1.2.2) w11)
def H9 : Hints := ⟨[(2, 0, [(7, (.one .slice)), (10, (.one (.int .i64)))]), (2, 2, [(31, (.one (.int .i64)))])], [], [], []⟩
set_option maxRecDepth 100000 in
theorem S9_eq (s_ : (Option Addr)) (rows_ : Int) (columns_ : Int) (w0 : World) (R : Value → World → Prop) : vcFn Try.prog H9 Try.f9 [(.pointer s_), (.int .i64 rows_), (.int .i64 columns_)] w0 R = S9 s_ rows_ columns_ w0 R := by kernel_rfl
set_option maxRecDepth 100000 in
theorem S9_calls (s_ : (Option Addr)) (rows_ : Int) (columns_ : Int) (w0 : World) (R : Value → World → Prop) (h : S9 s_ rows_ columns_ w0 R) : Calls Try.prog 9 #[(.pointer s_), (.int .i64 rows_), (.int .i64 columns_)] w0 (ret R) := by
  rw [← S9_eq] at h; exact vcFn_sound follows_ Try.func9 h

/-- querylab/querylablaw31.awake -/
def S16  (w0 : World) (R : Value → World → Prop) : Prop :=
 wr Try.prog (Instr.buildSlice 35 3 #[(0, (.bool true)), (1, (.bool true)), (2, (.bool false))]) (.one .slice) w0 fun (x1 : (Option Addr × Nat × Nat)) (w2 : World) =>
 wr Try.prog (Instr.buildSlice 35 3 #[(0, (.bool false)), (1, (.bool true)), (2, (.bool true))]) (.one .slice) w2 fun (x3 : (Option Addr × Nat × Nat)) (w4 : World) =>
 wr Try.prog (Instr.buildSlice 35 3 #[(0, (.bool true)), (1, (.bool false)), (2, (.bool true))]) (.one .slice) w4 fun (x5 : (Option Addr × Nat × Nat)) (w6 : World) =>
 wr Try.prog (Instr.buildSlice 25 3 #[(0, (.slice x1.1 x1.2.1 x1.2.2)), (1, (.slice x3.1 x3.2.1 x3.2.2)), (2, (.slice x5.1 x5.2.1 x5.2.2))]) (.one .slice) w6 fun (x7 : (Option Addr × Nat × Nat)) (w8 : World) =>
 call Try.prog 10 [(.slice x7.1 x7.2.1 x7.2.2)] (.many [(.one .slice), (.one (.int .i64))]) w8 fun (x9 : ((Option Addr × Nat × Nat) × Int × Unit)) (w10 : World) =>
 call Try.prog 11 [(.slice x7.1 x7.2.1 x7.2.2)] (.many [(.one .slice), (.one (.int .i64))]) w10 fun (x11 : ((Option Addr × Nat × Nat) × Int × Unit)) (w12 : World) =>
 call Try.prog 12 [(.slice x7.1 x7.2.1 x7.2.2)] (.many [(.one .slice), (.one (.int .i64))]) w12 fun (x13 : ((Option Addr × Nat × Nat) × Int × Unit)) (w14 : World) =>
 call Try.prog 13 [(.slice x7.1 x7.2.1 x7.2.2)] (.many [(.one .slice), (.one (.int .i64))]) w14 fun (x15 : ((Option Addr × Nat × Nat) × Int × Unit)) (w16 : World) =>
 br (x9.2.1 == 0) (br (x11.2.1 == 0) (br (x13.2.1 == 0) (br (x15.2.1 == 0) (wr Try.prog (Instr.buildSlice 22 2 #[(0, (.int .i64 0)), (1, (.int .i64 1))]) (.one .slice) w16 fun (x17 : (Option Addr × Nat × Nat)) (w18 : World) =>
 call Try.prog 19 [(.slice x9.1.1 x9.1.2.1 x9.1.2.2), (.slice x17.1 x17.2.1 x17.2.2)] (.one (.one .bool)) w18 fun (x19 : Bool) (w20 : World) =>
 br x19 (wr Try.prog (Instr.buildSlice 22 2 #[(0, (.int .i64 0)), (1, (.int .i64 1))]) (.one .slice) w20 fun (x21 : (Option Addr × Nat × Nat)) (w22 : World) =>
 call Try.prog 19 [(.slice x11.1.1 x11.1.2.1 x11.1.2.2), (.slice x21.1 x21.2.1 x21.2.2)] (.one (.one .bool)) w22 fun (x23 : Bool) (w24 : World) =>
 br x23 (br (((x13.1.2.1 : Nat) : Int) == 1) (br (((x15.1.2.1 : Nat) : Int) == 0) (call Try.prog 14 [(.slice x7.1 x7.2.1 x7.2.2), (.slice x9.1.1 x9.1.2.1 x9.1.2.2)] (.one (.one .bool)) w24 fun (x25 : Bool) (w26 : World) =>
 R (.bool x25) w26)
 (R (.bool false) w24))
 (R (.bool false) w24))
 (R (.bool false) w24))
 (R (.bool false) w20))
 (R (.bool false) w16))
 (R (.bool false) w16))
 (R (.bool false) w16))
 (R (.bool false) w16)
def H16 : Hints := ⟨[], [], [], []⟩
set_option maxRecDepth 100000 in
theorem S16_eq  (w0 : World) (R : Value → World → Prop) : vcFn Try.prog H16 Try.f16 [] w0 R = S16  w0 R := by kernel_rfl
set_option maxRecDepth 100000 in
theorem S16_calls  (w0 : World) (R : Value → World → Prop) (h : S16  w0 R) : Calls Try.prog 16 #[] w0 (ret R) := by
  rw [← S16_eq] at h; exact vcFn_sound follows_ Try.func16 h

/-- querylab/querylablaw31.SuiteLeast -/
def S3 (t_a : Option Addr) (t_n : Nat) (t_c : Nat) (w0 : World) (R : Value → World → Prop) : Prop :=
 call Try.prog 8 [(.slice t_a t_n t_c)] (.one (.one .ptr)) w0 fun (x1 : (Option Addr)) (w2 : World) =>
 call Try.prog 9 [(.pointer x1), (.int .i64 7), (.int .i64 20)] (.one (.one .slice)) w2 fun (x3 : (Option Addr × Nat × Nat)) (w4 : World) =>
 call Try.prog 10 [(.slice x3.1 x3.2.1 x3.2.2)] (.many [(.one .slice), (.one (.int .i64))]) w4 fun (x5 : ((Option Addr × Nat × Nat) × Int × Unit)) (w6 : World) =>
 call Try.prog 11 [(.slice x3.1 x3.2.1 x3.2.2)] (.many [(.one .slice), (.one (.int .i64))]) w6 fun (x7 : ((Option Addr × Nat × Nat) × Int × Unit)) (w8 : World) =>
 call Try.prog 12 [(.slice x3.1 x3.2.1 x3.2.2)] (.many [(.one .slice), (.one (.int .i64))]) w8 fun (x9 : ((Option Addr × Nat × Nat) × Int × Unit)) (w10 : World) =>
 call Try.prog 13 [(.slice x3.1 x3.2.1 x3.2.2)] (.many [(.one .slice), (.one (.int .i64))]) w10 fun (x11 : ((Option Addr × Nat × Nat) × Int × Unit)) (w12 : World) =>
 br (x5.2.1 != 0) (R (.bool false) w12)
 (br (x7.2.1 != 0) (R (.bool false) w12)
 (br (x9.2.1 != 0) (R (.bool false) w12)
 (br (x11.2.1 != 0) (R (.bool false) w12)
 (call Try.prog 14 [(.slice x3.1 x3.2.1 x3.2.2), (.slice x5.1.1 x5.1.2.1 x5.1.2.2)] (.one (.one .bool)) w12 fun (x13 : Bool) (w14 : World) =>
 br (!x13) (R (.bool false) w14)
 (br (decide (((x9.1.2.1 : Nat) : Int) > ((x5.1.2.1 : Nat) : Int))) (R (.bool false) w14)
 (br (decide (((x5.1.2.1 : Nat) : Int) > ((x7.1.2.1 : Nat) : Int))) (R (.bool false) w14)
 (loop (T := (Int × Unit)) (0, ()) w14 fun (again15 : (Int × Unit) → World → Prop) (s16 : (Int × Unit)) w17 => ∀ _ : Nat → Value,
 br (decide (s16.1 < ((x11.1.2.1 : Nat) : Int))) (rdp Try.prog (Instr.indexAt 22 (.slice x11.1.1 x11.1.2.1 x11.1.2.2) (.int .i64 s16.1)) (.one .addr) fun (x18 : Addr) =>
 rd Try.prog (Instr.loadAt 3 (.pointer (some x18))) (.one (.int .i64)) w17 fun (x19 : Int) =>
 call Try.prog 15 [(.slice x5.1.1 x5.1.2.1 x5.1.2.2), (.int .i64 x19)] (.one (.one .bool)) w17 fun (x20 : Bool) (w21 : World) =>
 br (!x20) (R (.bool false) w21)
 (z (IntKind.wrap .i64 (s16.1 + 1)) fun (z22 : Int) =>
 again15 (z22, ()) w21))
 (loop (T := (Int × Unit)) (0, ()) w17 fun (again23 : (Int × Unit) → World → Prop) (s24 : (Int × Unit)) w25 => ∀ _ : Nat → Value,
 z (IntKind.wrap .u64 ((x3.2.1 : Nat) : Int)) fun (z26 : Int) =>
 rdp Try.prog (cmpS .shl 3 (.const (.int .i64 1)) (.tmp 90) (.int .i64 1) (.int .u64 z26)) (.one (.int .i64)) fun (x27 : Int) =>
 br (decide (s24.1 < x27)) (join (T := (Unit)) (fun (_s29 : (Unit)) w30 => ∀ _ : Nat → Value,
 z (IntKind.wrap .i64 (s24.1 + 1)) fun (z31 : Int) =>
 again23 (z31, ()) w30)
  fun (K28 : (Unit) → World → Prop) =>
 loop (T := ((Option Addr × Nat × Nat) × Int × Unit)) ((none, 0, 0), 0, ()) w25 fun (again32 : ((Option Addr × Nat × Nat) × Int × Unit) → World → Prop) (s33 : ((Option Addr × Nat × Nat) × Int × Unit)) w34 => ∀ _ : Nat → Value,
 br (decide (s33.2.1 < ((x3.2.1 : Nat) : Int))) (join (T := ((Option Addr × Nat × Nat) × Unit)) (fun (s36 : ((Option Addr × Nat × Nat) × Unit)) w37 => ∀ _ : Nat → Value,
 z (IntKind.wrap .i64 (s33.2.1 + 1)) fun (z38 : Int) =>
 again32 ((s36.1.1, s36.1.2.1, s36.1.2.2), z38, ()) w37)
  fun (K35 : ((Option Addr × Nat × Nat) × Unit) → World → Prop) =>
 z (IntKind.wrap .u64 s33.2.1) fun (z39 : Int) =>
 rdp Try.prog (cmpS .shr 3 (.tmp 100) (.tmp 102) (.int .i64 s24.1) (.int .u64 z39)) (.one (.int .i64)) fun (x40 : Int) =>
 z (iand .i64 x40 1) fun (z41 : Int) =>
 br (z41 == 1) (wr Try.prog (Instr.buildSlice 22 1 #[(0, (.int .i64 s33.2.1))]) (.one .slice) w34 fun (x42 : (Option Addr × Nat × Nat)) (w43 : World) =>
 wr Try.prog (Builtin.append_ #[22, 22] 22 #[(.slice s33.1.1 s33.1.2.1 s33.1.2.2), (.slice x42.1 x42.2.1 x42.2.2)]) (.one .slice) w43 fun (x44 : (Option Addr × Nat × Nat)) (w45 : World) =>
 K35 ((x44.1, x44.2.1, x44.2.2), ()) w45)
 (K35 ((s33.1.1, s33.1.2.1, s33.1.2.2), ()) w34))
 (br (decide (((s33.1.2.1 : Nat) : Int) < ((x5.1.2.1 : Nat) : Int))) (call Try.prog 14 [(.slice x3.1 x3.2.1 x3.2.2), (.slice s33.1.1 s33.1.2.1 s33.1.2.2)] (.one (.one .bool)) w34 fun (x46 : Bool) (w47 : World) =>
 br x46 (R (.bool false) w47)
 (K28 (()) w47))
 (K28 (()) w34)))
 (call Try.prog 16 [] (.one (.one .bool)) w25 fun (x48 : Bool) (w49 : World) =>
 R (.bool x48) w49)))))))))
def H3 : Hints := ⟨[(2, 0, [(78, (.one (.int .i64)))]), (2, 2, [(15, (.one (.int .i64)))]), (2, 4, [(16, (.one .slice)), (97, (.one (.int .i64)))]), (1, 5, [(16, (.one .slice))]), (1, 3, [])], [], [], []⟩
set_option maxRecDepth 100000 in
theorem S3_eq (t_a : Option Addr) (t_n : Nat) (t_c : Nat) (w0 : World) (R : Value → World → Prop) : vcFn Try.prog H3 Try.f3 [(.slice t_a t_n t_c)] w0 R = S3 t_a t_n t_c w0 R := by kernel_rfl
set_option maxRecDepth 100000 in
theorem S3_calls (t_a : Option Addr) (t_n : Nat) (t_c : Nat) (w0 : World) (R : Value → World → Prop) (h : S3 t_a t_n t_c w0 R) : Calls Try.prog 3 #[(.slice t_a t_n t_c)] w0 (ret R) := by
  rw [← S3_eq] at h; exact vcFn_sound follows_ Try.func3 h

/-- querylab/querylablaw31.SuiteApart -/
def S5 (t_a : Option Addr) (t_n : Nat) (t_c : Nat) (w0 : World) (R : Value → World → Prop) : Prop :=
 call Try.prog 8 [(.slice t_a t_n t_c)] (.one (.one .ptr)) w0 fun (x1 : (Option Addr)) (w2 : World) =>
 call Try.prog 9 [(.pointer x1), (.int .i64 7), (.int .i64 16)] (.one (.one .slice)) w2 fun (x3 : (Option Addr × Nat × Nat)) (w4 : World) =>
 call Try.prog 12 [(.slice x3.1 x3.2.1 x3.2.2)] (.many [(.one .slice), (.one (.int .i64))]) w4 fun (x5 : ((Option Addr × Nat × Nat) × Int × Unit)) (w6 : World) =>
 br (x5.2.1 != 0) (R (.bool false) w6)
 (br (((x3.2.1 : Nat) : Int) == 0) (br (((x5.1.2.1 : Nat) : Int) == 0) (call Try.prog 16 [] (.one (.one .bool)) w6 fun (x7 : Bool) (w8 : World) =>
 R (.bool x7) w8)
 (R (.bool false) w6))
 (rdp Try.prog (Instr.indexAt 25 (.slice x3.1 x3.2.1 x3.2.2) (.int .i64 0)) (.one .addr) fun (x9 : Addr) =>
 rd Try.prog (Instr.loadAt 35 (.pointer (some x9))) (.one .slice) w6 fun (x10 : (Option Addr × Nat × Nat)) =>
 loop (T := (Int × Unit)) (0, ()) w6 fun (again11 : (Int × Unit) → World → Prop) (s12 : (Int × Unit)) w13 => ∀ _ : Nat → Value,
 br (decide (s12.1 < ((x10.2.1 : Nat) : Int))) (join (T := (Unit)) (fun (_s15 : (Unit)) w16 => ∀ _ : Nat → Value,
 z (IntKind.wrap .i64 (s12.1 + 1)) fun (z17 : Int) =>
 again11 (z17, ()) w16)
  fun (K14 : (Unit) → World → Prop) =>
 loop (T := (Bool × Bool × Int × Unit)) (false, true, 0, ()) w13 fun (again18 : (Bool × Bool × Int × Unit) → World → Prop) (s19 : (Bool × Bool × Int × Unit)) w20 => ∀ _ : Nat → Value,
 br (decide (s19.2.2.1 < ((x3.2.1 : Nat) : Int))) (rdp Try.prog (Instr.indexAt 25 (.slice x3.1 x3.2.1 x3.2.2) (.int .i64 s19.2.2.1)) (.one .addr) fun (x21 : Addr) =>
 rd Try.prog (Instr.loadAt 35 (.pointer (some x21))) (.one .slice) w20 fun (x22 : (Option Addr × Nat × Nat)) =>
 join (T := (Bool × Unit)) (fun (s24 : (Bool × Unit)) w25 => ∀ _ : Nat → Value,
 loop (T := (Bool × Int × Unit)) (s19.2.1, 0, ()) w25 fun (again26 : (Bool × Int × Unit) → World → Prop) (s27 : (Bool × Int × Unit)) w28 => ∀ _ : Nat → Value,
 br (decide (s27.2.1 < ((x5.1.2.1 : Nat) : Int))) (rdp Try.prog (Instr.indexAt 22 (.slice x5.1.1 x5.1.2.1 x5.1.2.2) (.int .i64 s27.2.1)) (.one .addr) fun (x29 : Addr) =>
 rd Try.prog (Instr.loadAt 3 (.pointer (some x29))) (.one (.int .i64)) w28 fun (x30 : Int) =>
 br s27.1 (rdp Try.prog (Instr.indexAt 35 (.slice x22.1 x22.2.1 x22.2.2) (.int .i64 s12.1)) (.one .addr) fun (x31 : Addr) =>
 rd Try.prog (Instr.loadAt 4 (.pointer (some x31))) (.one .bool) w28 fun (x32 : Bool) =>
 br x32 (br (x30 != s12.1) (br (decide (x30 ≥ 0)) (br (decide (x30 < ((x22.2.1 : Nat) : Int))) (rdp Try.prog (Instr.indexAt 35 (.slice x22.1 x22.2.1 x22.2.2) (.int .i64 x30)) (.one .addr) fun (x33 : Addr) =>
 rd Try.prog (Instr.loadAt 4 (.pointer (some x33))) (.one .bool) w28 fun (x34 : Bool) =>
 z (IntKind.wrap .i64 (s27.2.1 + 1)) fun (z35 : Int) =>
 again26 ((!x34), z35, ()) w28)
 (z (IntKind.wrap .i64 (s27.2.1 + 1)) fun (z36 : Int) =>
 again26 ((!false), z36, ()) w28))
 (z (IntKind.wrap .i64 (s27.2.1 + 1)) fun (z37 : Int) =>
 again26 ((!false), z37, ()) w28))
 (z (IntKind.wrap .i64 (s27.2.1 + 1)) fun (z38 : Int) =>
 again26 ((!false), z38, ()) w28))
 (z (IntKind.wrap .i64 (s27.2.1 + 1)) fun (z39 : Int) =>
 again26 ((!false), z39, ()) w28))
 (z (IntKind.wrap .i64 (s27.2.1 + 1)) fun (z40 : Int) =>
 again26 (false, z40, ()) w28))
 (z (IntKind.wrap .i64 (s19.2.2.1 + 1)) fun (z41 : Int) =>
 again18 (s24.1, s27.1, z41, ()) w28))
  fun (K23 : (Bool × Unit) → World → Prop) =>
 br s19.1 (K23 (true, ()) w20)
 (rdp Try.prog (Instr.indexAt 35 (.slice x22.1 x22.2.1 x22.2.2) (.int .i64 s12.1)) (.one .addr) fun (x42 : Addr) =>
 rd Try.prog (Instr.loadAt 4 (.pointer (some x42))) (.one .bool) w20 fun (x43 : Bool) =>
 K23 (x43, ()) w20))
 (join (T := (Bool × Unit)) (fun (s45 : (Bool × Unit)) w46 => ∀ _ : Nat → Value,
 br s45.1 (R (.bool false) w46)
 (K14 (()) w46))
  fun (K44 : (Bool × Unit) → World → Prop) =>
 call Try.prog 15 [(.slice x5.1.1 x5.1.2.1 x5.1.2.2), (.int .i64 s12.1)] (.one (.one .bool)) w20 fun (x47 : Bool) (w48 : World) =>
 br x47 (br (!s19.1) (K44 (true, ()) w48)
 (br (!s19.2.1) (K44 (true, ()) w48)
 (call Try.prog 15 [(.slice x5.1.1 x5.1.2.1 x5.1.2.2), (.int .i64 s12.1)] (.one (.one .bool)) w48 fun (x49 : Bool) (w50 : World) =>
 br (!x49) (br s19.1 (K44 (s19.2.1, ()) w50)
 (K44 (false, ()) w50))
 (K44 (false, ()) w50))))
 (call Try.prog 15 [(.slice x5.1.1 x5.1.2.1 x5.1.2.2), (.int .i64 s12.1)] (.one (.one .bool)) w48 fun (x51 : Bool) (w52 : World) =>
 br (!x51) (br s19.1 (K44 (s19.2.1, ()) w52)
 (K44 (false, ()) w52))
 (K44 (false, ()) w52))))
 (call Try.prog 16 [] (.one (.one .bool)) w13 fun (x53 : Bool) (w54 : World) =>
 R (.bool x53) w54)))
def H5 : Hints := ⟨[(2, 0, [(38, (.one (.int .i64)))]), (2, 2, [(8, (.one .bool)), (9, (.one .bool)), (43, (.one (.int .i64)))]), (3, 15, [(8, (.one .bool))]), (2, 4, [(9, (.one .bool)), (56, (.one (.int .i64)))]), (3, 22, [(113, (.one .bool))]), (1, 1, [])], [], [], []⟩
set_option maxRecDepth 100000 in
theorem S5_eq (t_a : Option Addr) (t_n : Nat) (t_c : Nat) (w0 : World) (R : Value → World → Prop) : vcFn Try.prog H5 Try.f5 [(.slice t_a t_n t_c)] w0 R = S5 t_a t_n t_c w0 R := by kernel_rfl
set_option maxRecDepth 100000 in
theorem S5_calls (t_a : Option Addr) (t_n : Nat) (t_c : Nat) (w0 : World) (R : Value → World → Prop) (h : S5 t_a t_n t_c w0 R) : Calls Try.prog 5 #[(.slice t_a t_n t_c)] w0 (ret R) := by
  rw [← S5_eq] at h; exact vcFn_sound follows_ Try.func5 h

/-- querylab/querylablaw31.SuiteSurvives -/
def S7 (t_a : Option Addr) (t_n : Nat) (t_c : Nat) (w0 : World) (R : Value → World → Prop) : Prop :=
 call Try.prog 8 [(.slice t_a t_n t_c)] (.one (.one .ptr)) w0 fun (x1 : (Option Addr)) (w2 : World) =>
 call Try.prog 9 [(.pointer x1), (.int .i64 7), (.int .i64 20)] (.one (.one .slice)) w2 fun (x3 : (Option Addr × Nat × Nat)) (w4 : World) =>
 loop (T := ((Option Addr × Nat × Nat) × (Option Addr × Nat × Nat) × Int × Unit)) ((none, 0, 0), (none, 0, 0), 0, ()) w4 fun (again5 : ((Option Addr × Nat × Nat) × (Option Addr × Nat × Nat) × Int × Unit) → World → Prop) (s6 : ((Option Addr × Nat × Nat) × (Option Addr × Nat × Nat) × Int × Unit)) w7 => ∀ _ : Nat → Value,
 br (decide (s6.2.2.1 < ((x3.2.1 : Nat) : Int))) (join (T := ((Option Addr × Nat × Nat) × (Option Addr × Nat × Nat) × Unit)) (fun (s9 : ((Option Addr × Nat × Nat) × (Option Addr × Nat × Nat) × Unit)) w10 => ∀ _ : Nat → Value,
 z (IntKind.wrap .i64 (s6.2.2.1 + 1)) fun (z11 : Int) =>
 again5 ((s9.1.1, s9.1.2.1, s9.1.2.2), (s9.2.1.1, s9.2.1.2.1, s9.2.1.2.2), z11, ()) w10)
  fun (K8 : ((Option Addr × Nat × Nat) × (Option Addr × Nat × Nat) × Unit) → World → Prop) =>
 wr Try.prog (Instr.buildSlice 22 1 #[(0, (.int .i64 s6.2.2.1))]) (.one .slice) w7 fun (x12 : (Option Addr × Nat × Nat)) (w13 : World) =>
 wr Try.prog (Builtin.append_ #[22, 22] 22 #[(.slice s6.2.1.1 s6.2.1.2.1 s6.2.1.2.2), (.slice x12.1 x12.2.1 x12.2.2)]) (.one .slice) w13 fun (x14 : (Option Addr × Nat × Nat)) (w15 : World) =>
 call Try.prog 18 [(.pointer x1), (.int .i64 2)] (.one (.one (.int .i64))) w15 fun (x16 : Int) (w17 : World) =>
 br (x16 == 1) (wr Try.prog (Instr.buildSlice 22 1 #[(0, (.int .i64 s6.2.2.1))]) (.one .slice) w17 fun (x18 : (Option Addr × Nat × Nat)) (w19 : World) =>
 wr Try.prog (Builtin.append_ #[22, 22] 22 #[(.slice s6.1.1 s6.1.2.1 s6.1.2.2), (.slice x18.1 x18.2.1 x18.2.2)]) (.one .slice) w19 fun (x20 : (Option Addr × Nat × Nat)) (w21 : World) =>
 K8 ((x20.1, x20.2.1, x20.2.2), (x14.1, x14.2.1, x14.2.2), ()) w21)
 (K8 ((s6.1.1, s6.1.2.1, s6.1.2.2), (x14.1, x14.2.1, x14.2.2), ()) w17))
 (call Try.prog 29 [(.slice x3.1 x3.2.1 x3.2.2), (.slice s6.1.1 s6.1.2.1 s6.1.2.2)] (.many [(.one .slice), (.one (.int .i64))]) w7 fun (x22 : ((Option Addr × Nat × Nat) × Int × Unit)) (w23 : World) =>
 call Try.prog 29 [(.slice x3.1 x3.2.1 x3.2.2), (.slice s6.2.1.1 s6.2.1.2.1 s6.2.1.2.2)] (.many [(.one .slice), (.one (.int .i64))]) w23 fun (x24 : ((Option Addr × Nat × Nat) × Int × Unit)) (w25 : World) =>
 join (T := ((Option Addr × Nat × Nat) × Unit)) (fun (s27 : ((Option Addr × Nat × Nat) × Unit)) w28 => ∀ _ : Nat → Value,
 call Try.prog 29 [(.slice x3.1 x3.2.1 x3.2.2), (.slice s27.1.1 s27.1.2.1 s27.1.2.2)] (.many [(.one .slice), (.one (.int .i64))]) w28 fun (x29 : ((Option Addr × Nat × Nat) × Int × Unit)) (w30 : World) =>
 br (x22.2.1 != 0) (R (.bool false) w30)
 (br (x24.2.1 != 0) (R (.bool false) w30)
 (br (x29.2.1 != 0) (R (.bool false) w30)
 (call Try.prog 14 [(.slice x3.1 x3.2.1 x3.2.2), (.slice s6.1.1 s6.1.2.1 s6.1.2.2)] (.one (.one .bool)) w30 fun (x31 : Bool) (w32 : World) =>
 br (!(x31 == (((x22.1.2.1 : Nat) : Int) == ((x24.1.2.1 : Nat) : Int)))) (R (.bool false) w32)
 (loop (T := (Int × Unit)) (0, ()) w32 fun (again33 : (Int × Unit) → World → Prop) (s34 : (Int × Unit)) w35 => ∀ _ : Nat → Value,
 br (decide (s34.1 < ((x29.1.2.1 : Nat) : Int))) (rdp Try.prog (Instr.indexAt 22 (.slice x29.1.1 x29.1.2.1 x29.1.2.2) (.int .i64 s34.1)) (.one .addr) fun (x36 : Addr) =>
 rd Try.prog (Instr.loadAt 3 (.pointer (some x36))) (.one (.int .i64)) w35 fun (x37 : Int) =>
 call Try.prog 15 [(.slice x22.1.1 x22.1.2.1 x22.1.2.2), (.int .i64 x37)] (.one (.one .bool)) w35 fun (x38 : Bool) (w39 : World) =>
 br (!x38) (R (.bool false) w39)
 (z (IntKind.wrap .i64 (s34.1 + 1)) fun (z40 : Int) =>
 again33 (z40, ()) w39))
 (loop (T := (Int × Unit)) (0, ()) w35 fun (again41 : (Int × Unit) → World → Prop) (s42 : (Int × Unit)) w43 => ∀ _ : Nat → Value,
 br (decide (s42.1 < ((x24.1.2.1 : Nat) : Int))) (rdp Try.prog (Instr.indexAt 22 (.slice x24.1.1 x24.1.2.1 x24.1.2.2) (.int .i64 s42.1)) (.one .addr) fun (x44 : Addr) =>
 rd Try.prog (Instr.loadAt 3 (.pointer (some x44))) (.one (.int .i64)) w43 fun (x45 : Int) =>
 call Try.prog 15 [(.slice x22.1.1 x22.1.2.1 x22.1.2.2), (.int .i64 x45)] (.one (.one .bool)) w43 fun (x46 : Bool) (w47 : World) =>
 br (!x46) (R (.bool false) w47)
 (z (IntKind.wrap .i64 (s42.1 + 1)) fun (z48 : Int) =>
 again41 (z48, ()) w47))
 (call Try.prog 16 [] (.one (.one .bool)) w43 fun (x49 : Bool) (w50 : World) =>
 R (.bool x49) w50)))))))
  fun (K26 : ((Option Addr × Nat × Nat) × Unit) → World → Prop) =>
 br (decide (((x3.2.1 : Nat) : Int) > 0)) (call Try.prog 18 [(.pointer x1), (.int .i64 ((x3.2.1 : Nat) : Int))] (.one (.one (.int .i64))) w25 fun (x51 : Int) (w52 : World) =>
 call Try.prog 32 [(.slice s6.1.1 s6.1.2.1 s6.1.2.2), (.int .i64 x51)] (.one (.one .slice)) w52 fun (x53 : (Option Addr × Nat × Nat)) (w54 : World) =>
 K26 ((x53.1, x53.2.1, x53.2.2), ()) w54)
 (K26 ((s6.1.1, s6.1.2.1, s6.1.2.2), ()) w25))
def H7 : Hints := ⟨[(2, 0, [(5, (.one .slice)), (6, (.one .slice)), (25, (.one (.int .i64)))]), (1, 1, [(5, (.one .slice)), (6, (.one .slice))]), (0, 55, [(12, (.one .slice))]), (2, 2, [(91, (.one (.int .i64)))]), (2, 4, [(102, (.one (.int .i64)))])], [], [], []⟩
set_option maxRecDepth 100000 in
theorem S7_eq (t_a : Option Addr) (t_n : Nat) (t_c : Nat) (w0 : World) (R : Value → World → Prop) : vcFn Try.prog H7 Try.f7 [(.slice t_a t_n t_c)] w0 R = S7 t_a t_n t_c w0 R := by kernel_rfl
set_option maxRecDepth 100000 in
theorem S7_calls (t_a : Option Addr) (t_n : Nat) (t_c : Nat) (w0 : World) (R : Value → World → Prop) (h : S7 t_a t_n t_c w0 R) : Calls Try.prog 7 #[(.slice t_a t_n t_c)] w0 (ret R) := by
  rw [← S7_eq] at h; exact vcFn_sound follows_ Try.func7 h

/-- querylab/querylablaw31.SuiteOrder -/
def S4 (t_a : Option Addr) (t_n : Nat) (t_c : Nat) (w0 : World) (R : Value → World → Prop) : Prop :=
 call Try.prog 8 [(.slice t_a t_n t_c)] (.one (.one .ptr)) w0 fun (x1 : (Option Addr)) (w2 : World) =>
 call Try.prog 9 [(.pointer x1), (.int .i64 6), (.int .i64 12)] (.one (.one .slice)) w2 fun (x3 : (Option Addr × Nat × Nat)) (w4 : World) =>
 br (((x3.2.1 : Nat) : Int) == 0) (call Try.prog 16 [] (.one (.one .bool)) w4 fun (x5 : Bool) (w6 : World) =>
 R (.bool x5) w6)
 (rdp Try.prog (Instr.indexAt 25 (.slice x3.1 x3.2.1 x3.2.2) (.int .i64 0)) (.one .addr) fun (x7 : Addr) =>
 rd Try.prog (Instr.loadAt 35 (.pointer (some x7))) (.one .slice) w4 fun (x8 : (Option Addr × Nat × Nat)) =>
 br (((x8.2.1 : Nat) : Int) == 0) (call Try.prog 16 [] (.one (.one .bool)) w4 fun (x9 : Bool) (w10 : World) =>
 R (.bool x9) w10)
 (rdp Try.prog (Instr.indexAt 25 (.slice x3.1 x3.2.1 x3.2.2) (.int .i64 0)) (.one .addr) fun (x11 : Addr) =>
 rd Try.prog (Instr.loadAt 35 (.pointer (some x11))) (.one .slice) w4 fun (x12 : (Option Addr × Nat × Nat)) =>
 call Try.prog 17 [(.pointer x1), (.int .i64 ((x12.2.1 : Nat) : Int))] (.one (.one .slice)) w4 fun (x13 : (Option Addr × Nat × Nat)) (w14 : World) =>
 rdp Try.prog (Instr.indexAt 25 (.slice x3.1 x3.2.1 x3.2.2) (.int .i64 0)) (.one .addr) fun (x15 : Addr) =>
 rd Try.prog (Instr.loadAt 35 (.pointer (some x15))) (.one .slice) w14 fun (x16 : (Option Addr × Nat × Nat)) =>
 call Try.prog 18 [(.pointer x1), (.int .i64 ((x16.2.1 : Nat) : Int))] (.one (.one (.int .i64))) w14 fun (x17 : Int) (w18 : World) =>
 loop (T := ((Option Addr × Nat × Nat) × (Option Addr × Nat × Nat) × Int × Unit)) ((none, 0, 0), (none, 0, 0), 0, ()) w18 fun (again19 : ((Option Addr × Nat × Nat) × (Option Addr × Nat × Nat) × Int × Unit) → World → Prop) (s20 : ((Option Addr × Nat × Nat) × (Option Addr × Nat × Nat) × Int × Unit)) w21 => ∀ _ : Nat → Value,
 br (decide (s20.2.2.1 < ((x3.2.1 : Nat) : Int))) (rdp Try.prog (Instr.indexAt 25 (.slice x3.1 x3.2.1 x3.2.2) (.int .i64 s20.2.2.1)) (.one .addr) fun (x22 : Addr) =>
 rd Try.prog (Instr.loadAt 35 (.pointer (some x22))) (.one .slice) w21 fun (x23 : (Option Addr × Nat × Nat)) =>
 wr Try.prog (Instr.makeSlice 35 (.int .i64 ((x23.2.1 : Nat) : Int)) (.int .i64 ((x23.2.1 : Nat) : Int))) (.one .slice) w21 fun (x24 : (Option Addr × Nat × Nat)) (w25 : World) =>
 loop (T := (Int × Unit)) (0, ()) w25 fun (again26 : (Int × Unit) → World → Prop) (s27 : (Int × Unit)) w28 => ∀ _ : Nat → Value,
 br (decide (s27.1 < ((x13.2.1 : Nat) : Int))) (rdp Try.prog (Instr.indexAt 22 (.slice x13.1 x13.2.1 x13.2.2) (.int .i64 s27.1)) (.one .addr) fun (x29 : Addr) =>
 rd Try.prog (Instr.loadAt 3 (.pointer (some x29))) (.one (.int .i64)) w28 fun (x30 : Int) =>
 rdp Try.prog (Instr.indexAt 35 (.slice x23.1 x23.2.1 x23.2.2) (.int .i64 x30)) (.one .addr) fun (x31 : Addr) =>
 rd Try.prog (Instr.loadAt 4 (.pointer (some x31))) (.one .bool) w28 fun (x32 : Bool) =>
 rdp Try.prog (Instr.indexAt 35 (.slice x24.1 x24.2.1 x24.2.2) (.int .i64 s27.1)) (.one .addr) fun (x33 : Addr) =>
 wu Try.prog (Instr.storeAt 4 (.pointer (some x33)) (.bool x32)) w28 fun (w34 : World) =>
 z (IntKind.wrap .i64 (s27.1 + 1)) fun (z35 : Int) =>
 again26 (z35, ()) w34)
 (wr Try.prog (Instr.buildSlice 25 1 #[(0, (.slice x24.1 x24.2.1 x24.2.2))]) (.one .slice) w28 fun (x36 : (Option Addr × Nat × Nat)) (w37 : World) =>
 wr Try.prog (Builtin.append_ #[25, 25] 25 #[(.slice s20.1.1 s20.1.2.1 s20.1.2.2), (.slice x36.1 x36.2.1 x36.2.2)]) (.one .slice) w37 fun (x38 : (Option Addr × Nat × Nat)) (w39 : World) =>
 drw w39 fun w40 => flEx fun F41 =>
 flc bel w40 (fun _w43 => True) (fun (w42 : World) =>
   wr Try.prog (Instr.buildSlice 35 0 #[]) (.one .slice) w42 fun (x44 : (Option Addr × Nat × Nat)) (w45 : World) =>
 (bel w42 w45 ∧ F41 1 [] (.slice x44.1 x44.2.1 x44.2.2) w45))
  fun (x46 : (Option Addr × Nat × Nat)) =>
 flc bel w40 (fun w48 => F41 1 [] (.slice x46.1 x46.2.1 x46.2.2) w48 ∧ True) (fun (w47 : World) =>
   wr Try.prog (Builtin.append_ #[35, 35] 35 #[(.slice x46.1 x46.2.1 x46.2.2), (.slice x23.1 x23.2.1 x23.2.2)]) (.one .slice) w47 fun (x49 : (Option Addr × Nat × Nat)) (w50 : World) =>
 (bel w47 w50 ∧ F41 3 [(.slice x46.1 x46.2.1 x46.2.2), (.slice x23.1 x23.2.1 x23.2.2)] (.slice x49.1 x49.2.1 x49.2.2) w50))
  fun (x51 : (Option Addr × Nat × Nat)) =>
 rdp Try.prog (Instr.indexAt 35 (.slice x23.1 x23.2.1 x23.2.2) (.int .i64 x17)) (.one .addr) fun (x52 : Addr) =>
 rd Try.prog (Instr.loadAt 4 (.pointer (some x52))) (.one .bool) w40 fun (x53 : Bool) =>
 flc bel w40 (fun _w55 => True) (fun (w54 : World) =>
   wr Try.prog (Instr.buildSlice 35 2 #[(0, (.bool x53)), (1, (.bool false))]) (.one .slice) w54 fun (x56 : (Option Addr × Nat × Nat)) (w57 : World) =>
 (bel w54 w57 ∧ F41 8 [] (.slice x56.1 x56.2.1 x56.2.2) w57))
  fun (x58 : (Option Addr × Nat × Nat)) =>
 flend bel w40 (fun w60 => F41 8 [] (.slice x58.1 x58.2.1 x58.2.2) w60 ∧ F41 3 [(.slice x46.1 x46.2.1 x46.2.2), (.slice x23.1 x23.2.1 x23.2.2)] (.slice x51.1 x51.2.1 x51.2.2) w60 ∧ F41 1 [] (.slice x46.1 x46.2.1 x46.2.2) w60 ∧ True) fun w59 =>
 wr Try.prog (Builtin.append_ #[35, 35] 35 #[(.slice x51.1 x51.2.1 x51.2.2), (.slice x58.1 x58.2.1 x58.2.2)]) (.one .slice) w59 fun (x61 : (Option Addr × Nat × Nat)) (w62 : World) =>
 wr Try.prog (Instr.buildSlice 25 1 #[(0, (.slice x61.1 x61.2.1 x61.2.2))]) (.one .slice) w62 fun (x63 : (Option Addr × Nat × Nat)) (w64 : World) =>
 wr Try.prog (Builtin.append_ #[25, 25] 25 #[(.slice s20.2.1.1 s20.2.1.2.1 s20.2.1.2.2), (.slice x63.1 x63.2.1 x63.2.2)]) (.one .slice) w64 fun (x65 : (Option Addr × Nat × Nat)) (w66 : World) =>
 z (IntKind.wrap .i64 (s20.2.2.1 + 1)) fun (z67 : Int) =>
 again19 ((x38.1, x38.2.1, x38.2.2), (x65.1, x65.2.1, x65.2.2), z67, ()) w66))
 (call Try.prog 10 [(.slice x3.1 x3.2.1 x3.2.2)] (.many [(.one .slice), (.one (.int .i64))]) w21 fun (x68 : ((Option Addr × Nat × Nat) × Int × Unit)) (w69 : World) =>
 call Try.prog 10 [(.slice s20.1.1 s20.1.2.1 s20.1.2.2)] (.many [(.one .slice), (.one (.int .i64))]) w69 fun (x70 : ((Option Addr × Nat × Nat) × Int × Unit)) (w71 : World) =>
 call Try.prog 10 [(.slice s20.2.1.1 s20.2.1.2.1 s20.2.1.2.2)] (.many [(.one .slice), (.one (.int .i64))]) w71 fun (x72 : ((Option Addr × Nat × Nat) × Int × Unit)) (w73 : World) =>
 call Try.prog 13 [(.slice x3.1 x3.2.1 x3.2.2)] (.many [(.one .slice), (.one (.int .i64))]) w73 fun (x74 : ((Option Addr × Nat × Nat) × Int × Unit)) (w75 : World) =>
 call Try.prog 13 [(.slice s20.1.1 s20.1.2.1 s20.1.2.2)] (.many [(.one .slice), (.one (.int .i64))]) w75 fun (x76 : ((Option Addr × Nat × Nat) × Int × Unit)) (w77 : World) =>
 br (x68.2.1 == 0) (br (x70.2.1 == 0) (br (x72.2.1 == 0) (br (x74.2.1 == 0) (br (x76.2.1 == 0) (call Try.prog 19 [(.slice x68.1.1 x68.1.2.1 x68.1.2.2), (.slice x70.1.1 x70.1.2.1 x70.1.2.2)] (.one (.one .bool)) w77 fun (x78 : Bool) (w79 : World) =>
 br x78 (call Try.prog 19 [(.slice x68.1.1 x68.1.2.1 x68.1.2.2), (.slice x72.1.1 x72.1.2.1 x72.1.2.2)] (.one (.one .bool)) w79 fun (x80 : Bool) (w81 : World) =>
 br x80 (call Try.prog 19 [(.slice x74.1.1 x74.1.2.1 x74.1.2.2), (.slice x76.1.1 x76.1.2.1 x76.1.2.2)] (.one (.one .bool)) w81 fun (x82 : Bool) (w83 : World) =>
 br x82 (call Try.prog 16 [] (.one (.one .bool)) w83 fun (x84 : Bool) (w85 : World) =>
 R (.bool x84) w85)
 (R (.bool false) w83))
 (R (.bool false) w81))
 (R (.bool false) w79))
 (R (.bool false) w77))
 (R (.bool false) w77))
 (R (.bool false) w77))
 (R (.bool false) w77))
 (R (.bool false) w77))))
def H4 : Hints := ⟨[(2, 0, [(7, (.one .slice)), (8, (.one .slice)), (53, (.one (.int .i64)))]), (2, 2, [(62, (.one (.int .i64)))])], [(18, 9)], [], []⟩
set_option maxRecDepth 100000 in
theorem S4_eq (t_a : Option Addr) (t_n : Nat) (t_c : Nat) (w0 : World) (R : Value → World → Prop) : vcFn Try.prog H4 Try.f4 [(.slice t_a t_n t_c)] w0 R = S4 t_a t_n t_c w0 R := by kernel_rfl
set_option maxRecDepth 100000 in
theorem S4_calls (t_a : Option Addr) (t_n : Nat) (t_c : Nat) (w0 : World) (R : Value → World → Prop) (h : S4 t_a t_n t_c w0 R) : Calls Try.prog 4 #[(.slice t_a t_n t_c)] w0 (ret R) := by
  rw [← S4_eq] at h; exact vcFn_sound follows_ Try.func4 h

end Go.Proofs

/- The tape, matrices that are made, lists that are compared, the example. -/


namespace Go.Proofs.Ytaomejbaocehnaa
open Go.RowKit Go.Q Go.V

theorem Sl.pre {w : World} {a : Option Addr} {n c m : Nat} {xs : List Value} (S : Sl w a n c 1 xs) (hm : m ≤ n) : Sl w a m c 1 (xs.take m) := by
  have hl := S.len
  have hc := S.cap
  refine ⟨by rw [List.length_take]; omega, by omega, S.most, fun e => by have := S.nil' e; omega, fun j u hu => ?_⟩
  rw [List.getElem?_take] at hu
  split at hu
  · exact S.at' j u hu
  · cases hu
structure Tape (w : World) (tb : Addr) (l : Hdr) (L : List Int) (p : Nat) : Prop where
  box : Box w tb [.slice l.1 l.2.1 l.2.2, .int .i64 (p : Int)]
  sl : SlI w l L
  old : ∀ ad, l.1 = some ad → L ≠ [] → ad.block < tb.block
  i64 : ∀ x ∈ L, I64 x
  le : p ≤ L.length
  len : L.length ≤ 2000
theorem Tape.up {w w' : World} {tb : Addr} {l : Hdr} {L : List Int} {p : Nat} (h : Tape w tb l L p) (hb : bel w w') : Tape w' tb l L p := ⟨h.box.up hb, Sl.up h.sl hb, h.old, h.i64, h.le, h.len⟩
theorem Tape.put {w w' : World} {tb : Addr} {l : Hdr} {L : List Int} {p : Nat} {o : Option Nat} (h : Tape w tb l L p) (hg : w.grownBy w' o) (ho : ∀ k, o = some k → tb.block < k) : Tape w' tb l L p :=
  ⟨h.box.grown hg (fun e => by have := ho _ e.symm; omega), h.sl.grown hg (fun ad ha hx e => by have := h.old ad ha (by rintro rfl; exact hx rfl); have := ho _ e.symm; omega), h.old, h.i64, h.le, h.len⟩
theorem newF (l : Hdr) (L : List Int) (w : World) (H : SlI w l L) (hI : ∀ x ∈ L, I64 x) :
    call Try.prog 8 [.slice l.1 l.2.1 l.2.2] (.one (.one .ptr)) w (fun (x : Option Addr) w' => ∃ tb l' L', x = some tb ∧ tb.block = w.heap.size ∧ Tape w' tb l' L' 0 ∧ bel w w') := by
  refine call_of (S8_calls l.1 l.2.1 l.2.2 w _ ?_)
  unfold S8
  have hl := H.int
  have hcap := H.cap
  have hlt := H.lt
  refine z_eq (m := ((min l.2.1 2000 : Nat) : Int)) (by split <;> omega) ?_
  refine sl_to tyI (m := min l.2.1 2000) rfl (by omega) ?_
  refine wr_box fun tb w4 X h4 etb _ => ?_
  have S4 := Sl.pre (m := min l.2.1 2000) (H.up h4) (by omega)
  have et : List.take (min l.2.1 2000) (ints .i64 L) = ints .i64 (L.take (min l.2.1 2000)) := by simp [ints, List.map_take]
  rw [et] at S4
  exact ⟨some tb, rfl, tb, (l.1, min l.2.1 2000, l.2.2), L.take (min l.2.1 2000), rfl, etb, ⟨X, S4, fun ad ha hx => by have := hlt ad ha (by rintro e; cases L with | nil => simp at hx | cons y L => cases e); omega, fun x hx => hI x (List.mem_of_mem_take hx), Nat.zero_le _, by rw [List.length_take]; omega⟩, h4⟩
theorem rawF {w : World} {tb : Addr} {l : Hdr} {L : List Int} {p : Nat} (h : Tape w tb l L p) :
    call Try.prog 42 [.pointer (some tb)] (.one (.one (.int .i64))) w (fun (x : Int) w' => I64 x ∧ (∃ p', Tape w' tb l L p') ∧ w.grownBy w' (some tb.block)) := by
  refine call_of (S42_calls (some tb) w _ ?_)
  unfold S42
  have hl := h.sl.int
  have h2000 := h.len
  refine drw_mk fun w1 h1 _ => ?_
  replace h := h.up h1
  refine nn_mk rfl ?_
  refine rd_box (by kernel_rfl) h.box (i := 1) rfl rfl ?_
  refine nn_mk rfl ?_
  refine rd_box0 (by kernel_rfl) h.box rfl rfl ?_
  refine br_dec (fun e => ⟨(0 : Int), rfl, by omega, ⟨p, h⟩, grown_of_bel h1 _⟩) (fun e => ?_)
  dsimp only at e
  refine nn_mk rfl ?_
  refine rd_box (by kernel_rfl) h.box (i := 1) rfl rfl ?_
  refine z_i64 (by omega) ?_
  refine nn_mk rfl ?_
  refine wu_boxi h.box (by kernel_rfl) (by simp) rfl fun w10 X hg _ => ?_
  have X' : Box w10 tb [.slice l.1 l.2.1 l.2.2, .int .i64 ((p + 1 : Nat) : Int)] := X
  have h10 : Tape w10 tb l L (p + 1) := ⟨X', Sl.xg h.sl hg (fun ad ha hx => by have := h.old ad ha (by rintro rfl; exact hx rfl); omega), h.old, h.i64, by omega, h.len⟩
  refine drw_mk fun w11 h11 _ => ?_
  replace h10 := h10.up h11
  refine nn_mk rfl ?_
  refine rd_box0 (by kernel_rfl) h10.box rfl rfl ?_
  refine nn_mk rfl ?_
  refine rd_box (by kernel_rfl) h10.box (i := 1) rfl rfl ?_
  refine z_i64 (by omega) ?_
  refine at_int tyI (by kernel_rfl) h10.sl (j := p) (by omega) (by omega) fun x hx => ?_
  exact ⟨x, rfl, h.i64 x (List.mem_of_getElem? hx), ⟨_, h10⟩, ((grown_of_bel h1 _).trans hg).trans (grown_of_bel h11 _)⟩
theorem modF (x n : Int) (w : World) (hn : 1 ≤ n ∧ n ≤ 9223372036854775807) :
    call Try.prog 41 [.int .i64 x, .int .i64 n] (.one (.one (.int .i64))) w (fun (y : Int) w' => (0 ≤ y ∧ y < n) ∧ bel w w') := by
  refine call_of (S41_calls x n w _ ?_)
  unfold S41
  refine br_dec (fun e => by omega) (fun _ => ?_)
  refine rdp_rem (by omega) ?_
  have b1 := Int.tmod_lt_of_pos x (show 0 < n by omega)
  have b2 := Int.lt_tmod_of_pos x (show 0 < n by omega)
  refine br_dec (fun e2 => ?_) (fun e2 => ⟨_, rfl, ⟨by omega, by omega⟩, bel.refl _⟩)
  refine z_i64 (by omega) ?_
  exact ⟨_, rfl, ⟨by omega, by omega⟩, bel.refl _⟩
theorem nF {w : World} {tb : Addr} {l : Hdr} {L : List Int} {p : Nat} (n : Int) (h : Tape w tb l L p) (hn : 1 ≤ n ∧ n ≤ 9223372036854775807) :
    call Try.prog 18 [.pointer (some tb), .int .i64 n] (.one (.one (.int .i64))) w (fun (x : Int) w' => (0 ≤ x ∧ x < n) ∧ (∃ p', Tape w' tb l L p') ∧ w.grownBy w' (some tb.block)) := by
  refine call_of (S18_calls (some tb) n w _ ?_)
  unfold S18
  refine call_mono (rawF h) ?_
  rintro (x1 : Int) w2 ⟨_, ⟨p', h'⟩, g2⟩
  refine call_mono (modF x1 n w2 hn) ?_
  rintro (x3 : Int) w4 ⟨hx3, h4⟩
  exact ⟨x3, rfl, hx3, ⟨p', h'.up h4⟩, g2.trans (grown_of_bel h4 _)⟩
theorem rangeF {w : World} {tb : Addr} {l : Hdr} {L : List Int} {p : Nat} (lo hi : Int) (h : Tape w tb l L p) (hn : -1000000 ≤ lo ∧ lo ≤ hi ∧ hi ≤ 1000000) :
    call Try.prog 33 [.pointer (some tb), .int .i64 lo, .int .i64 hi] (.one (.one (.int .i64))) w (fun (x : Int) w' => (lo ≤ x ∧ x ≤ hi) ∧ (∃ p', Tape w' tb l L p') ∧ w.grownBy w' (some tb.block)) := by
  refine call_of (S33_calls (some tb) lo hi w _ ?_)
  unfold S33
  refine z_i64 (by omega) ?_
  refine z_i64 (by omega) ?_
  refine call_mono (nF (hi - lo + 1) h (by omega)) ?_
  rintro (x3 : Int) w4 ⟨hx, ht, g4⟩
  refine z_i64 (by omega) ?_
  exact ⟨_, rfl, by omega, ht, g4⟩
/-! ### tables of bools that one owns -/
structure OT (w : World) (b0 : Nat) (h : Hdr) (hs : List Hdr) (T : List (List Bool)) : Prop where
  th : Own w b0 35 1 h.1 h.2.1 h.2.2 (hs.map hv)
  len : hs.length = T.length
  rows : ∀ (i : Nat) (x : Hdr) (r : List Bool), hs[i]? = some x → T[i]? = some r → Own w b0 4 1 x.1 x.2.1 x.2.2 (Go.Q.bools r)
section
variable {w w' : World} {b0 : Nat} {h : Hdr} {hs : List Hdr} {T : List (List Bool)}
theorem OT.tab (H : OT w b0 h hs T) : TabB w h T := ⟨⟨hs, H.th.sl, H.len, fun i x r hx hr => (H.rows i x r hx hr).sl⟩⟩
theorem OT.hl (H : OT w b0 h hs T) : T.length = h.2.1 := H.tab.len
theorem OT.up (H : OT w b0 h hs T) (hb : bel w w') : OT w' b0 h hs T := ⟨Own.kept H.th hb, H.len, fun i x r hx hr => Own.kept (H.rows i x r hx hr) hb⟩
theorem OT.xg {b : Nat} (H : OT w b0 h hs T) (hg : w.grownBy w' (some b)) (hb : b < b0) : OT w' b0 h hs T := ⟨Own.xg H.th hg hb, H.len, fun i x r hx hr => Own.xg (H.rows i x r hx hr) hg hb⟩
theorem OT.row (H : OT w b0 h hs T) {i : Nat} {x : Hdr} (hx : hs[i]? = some x) : ∃ r, T[i]? = some r ∧ Own w b0 4 1 x.1 x.2.1 x.2.2 (Go.Q.bools r) := by
  have hi : i < T.length := by rw [← H.len]; exact (List.getElem?_eq_some_iff.1 hx).1
  exact ⟨T[i], List.getElem?_eq_getElem hi, H.rows i x _ hx (List.getElem?_eq_getElem hi)⟩
theorem OT.keptBy {o : Option Nat} (H : OT w b0 h hs T) (hg : w.grownBy w' o) (hh : ∀ k, blk h.1 = some k → o ≠ some k) (hr : ∀ (i : Nat) (x : Hdr) (k : Nat), hs[i]? = some x → blk x.1 = some k → o ≠ some k) : OT w' b0 h hs T :=
  ⟨own_keep H.th hg hh, H.len, fun i x r hx hr' => own_keep (H.rows i x r hx hr') hg fun k hk => hr i x k hx hk⟩
end
theorem snoc_at {α : Type} {l : List α} {a x : α} {i : Nat} (h : (l ++ [a])[i]? = some x) : (i < l.length ∧ l[i]? = some x) ∨ (i = l.length ∧ x = a) := by
  rcases Nat.lt_or_ge i l.length with z | z
  · rw [List.getElem?_append_left z] at h; exact .inl ⟨z, h⟩
  · rw [List.getElem?_append_right z] at h
    have e : i - l.length = 0 := by
      rcases Nat.eq_zero_or_pos (i - l.length) with e | e
      · exact e
      · rw [List.getElem?_eq_none (by simp; omega)] at h; cases h
    rw [e] at h; cases h
    exact .inr ⟨by omega, rfl⟩
/-- a row is laid behind a table -/
theorem OT.push {w : World} {b0 : Nat} {h x : Hdr} {hs : List Hdr} {T : List (List Bool)} {r : List Bool} (H : OT w b0 h hs T) (O : Own w b0 4 1 x.1 x.2.1 x.2.2 (Go.Q.bools r)) (hb : b0 ≤ w.heap.size) (hl : T.length ≤ 1000) {K : Hdr → World → Prop}
    (hK : ∀ h' w', OT w' b0 h' (hs ++ [x]) (T ++ [r]) → w.grownBy w' (blk h.1) → (blk h'.1 = blk h.1 ∨ ∀ b, blk h'.1 = some b → w.heap.size ≤ b) → K h' w') :
    wr Try.prog (Instr.buildSlice 25 1 #[(0, .slice x.1 x.2.1 x.2.2)]) (.one .slice) w fun (y : Hdr) w1 => wr Try.prog (Builtin.append_ #[25, 25] 25 #[.slice h.1 h.2.1 h.2.2, .slice y.1 y.2.1 y.2.2]) (.one .slice) w1 K := by
  have hl' := H.hl
  refine wr_app1 tyM H.th hb rfl (by omega) (by omega) rfl rfl (by omega) (by unfold maxLen; omega) fun a' c' w' O' hg hnew _ => ?_
  refine hK (a', h.2.1 + 1, c') w' ⟨by rw [List.map_append]; exact O', by simp [H.len], fun i y q hy hq => ?_⟩ hg hnew
  rcases snoc_at hy with ⟨z, hy⟩ | ⟨z, qy⟩
  · rw [List.getElem?_append_left (by rw [← H.len]; exact z)] at hq
    have Q := H.rows i y q hy hq
    exact own_keep Q hg (fun k hk e => Own.apart H.th Q (by decide) k e hk)
  · rw [z, H.len, List.getElem?_append_right (Nat.le_refl _), Nat.sub_self] at hq
    cases hq
    rw [qy]
    exact own_keep O hg (fun k hk e => Own.apart H.th O (by decide) k e hk)
theorem made_bool (n : Nat) : (madeCells (Value.bool false).cells (n * 1)).toList = Go.Q.bools (List.replicate n false) := by
  rw [Nat.mul_one]
  apply List.ext_getElem
  · simp [madeCells, Go.Q.bools]
  · intro i h1 h2
    simp [madeCells, Go.Q.bools, Nat.mod_one, Value.cells]
/-- what matrix returns -/
def MatR (rows columns : Nat) (w : World) (tb : Addr) (l : Hdr) (L : List Int) (x : Hdr) (w' : World) : Prop :=
  ∃ M hs n, OT w' w.heap.size x hs M ∧ M.length ≤ rows ∧ n ≤ columns ∧ (∀ r ∈ M, r.length = n) ∧ (∃ p', Tape w' tb l L p') ∧ w.grownBy w' (some tb.block)
set_option maxHeartbeats 1600000 in
theorem matrixF {w : World} {tb : Addr} {l : Hdr} {L : List Int} {p : Nat} (rows columns : Nat) (ht : Tape w tb l L p) (hr : rows ≤ 14) (hc : columns ≤ 400) :
    call Try.prog 9 [.pointer (some tb), .int .i64 (rows : Int), .int .i64 (columns : Int)] (.one (.one .slice)) w (MatR rows columns w tb l L) := by
  refine call_of (S9_calls (some tb) (rows : Int) (columns : Int) w _ ?_)
  unfold S9
  have htb := ht.box.lt
  refine z_i64 (by omega) ?_
  refine call_mono (nF ((columns : Int) + 1) ht (by omega)) ?_
  rintro (x2 : Int) w3 ⟨hx2, ⟨p2, ht⟩, g3⟩
  refine call_mono (rangeF 2 5 ht (by omega)) ?_
  rintro (x4 : Int) w5 ⟨hx4, ⟨p4, ht⟩, g5⟩
  refine z_i64 (by omega) ?_
  refine call_mono (nF ((rows : Int) + 1) ht (by omega)) ?_
  rintro (x7 : Int) w8 ⟨hx7, ⟨p7, ht⟩, g8⟩
  obtain ⟨n, rfl⟩ : ∃ n : Nat, x2 = (n : Int) := ⟨x2.toNat, by omega⟩
  obtain ⟨K, rfl⟩ : ∃ n : Nat, x7 = (n : Int) := ⟨x7.toNat, by omega⟩
  have g08 := (g3.trans g5).trans g8
  refine loop_gh (G := Nat) (fun k s w' => s.2 = ((k : Int), ()) ∧ k ≤ K ∧ (∃ M hs, OT w' w.heap.size s.1 hs M ∧ M.length + k = K ∧ ∀ r ∈ M, r.length = n) ∧ (∃ p', Tape w' tb l L p') ∧ w.grownBy w' (some tb.block)) (fun k => k) K
    ⟨rfl, Nat.le_refl _, ⟨[], [], ⟨Own.nil _ _ _ _, rfl, fun i x r hx => by simp at hx⟩, by simp, by simp⟩, ⟨p7, ht⟩, g08⟩ ?_
  rintro k ⟨q, s⟩ w11 ⟨rfl, hk, ⟨M, hs, HM, hMl, hMr⟩, ⟨p', ht⟩, hg⟩ again hag _
  dsimp only at HM hag
  refine br_dec (fun e => ?_) (fun e => ?_)
  · dsimp only at e
    have s11 := hg.size
    refine wr_make tyB n rfl rfl (by omega) (by unfold maxLen; omega) fun cd w13 O h13 ecd _ => ?_
    replace O := O w11.heap.size (Nat.le_refl _)
    rw [made_bool] at O
    have hM13 := HM.up h13
    have lM : ∀ c, blk q.1 = some c → c < w11.heap.size := fun c hc => (HM.th.lt c hc).2
    have lMr : ∀ (i : Nat) (x : Hdr) (c : Nat), hs[i]? = some x → blk x.1 = some c → c < w11.heap.size := fun i x c hx hc => by obtain ⟨r, _, q⟩ := HM.row hx; exact (q.lt c hc).2
    have s13 := h13.size
    refine loop_up n (fun i w' => (∃ r : List Bool, r.length = n ∧ Own w' w11.heap.size 4 1 (some cd) n n (Go.Q.bools r)) ∧ OT w' w.heap.size q hs M ∧ (∃ p', Tape w' tb l L p') ∧ w.grownBy w' (some tb.block)) ⟨⟨_, by simp, O⟩, hM13, ⟨p', ht.up h13⟩, hg.trans (grown_of_bel h13 _)⟩ fun i w16 hi ⟨⟨r, hr', O⟩, HM, ⟨p', ht⟩, hg⟩ again2 hag2 _ => ?_
    refine br_dec (fun e1 => ?_) (fun e1 => ?_)
    · dsimp only at e1
      have hin : i < n := by omega
      refine call_mono (nF x4 ht (by omega)) ?_
      rintro (x17 : Int) w18 ⟨_, ⟨p'', ht⟩, g18⟩
      have O18 : Own w18 w11.heap.size 4 1 (some cd) n n (Go.Q.bools r) := Own.xg O g18 (by omega)
      refine set_mk tyB O18 rfl hin rfl fun w20 O20 g20 _ => ?_
      rw [bools_set] at O20
      refine z_i64 (by dsimp only; omega) ?_
      exact hag2 _ hin ⟨⟨r.set i (x17 == 1), by simp [hr'], O20⟩, ((HM.xg g18 htb).keptBy g20 (fun c hc e => by have := blk_eq e; have := lM c hc; omega) (fun j x c hx hc e => by have := blk_eq e; have := lMr j x c hx hc; omega)), ⟨p'', ht.put g20 (fun c hc => by have := blk_eq hc; omega)⟩, xg_put (hg.trans g18) g20 (fun c hc => .inl (by have := blk_eq hc; omega))⟩
    · dsimp only at e1
      have hin : i = n := by omega
      subst hin
      have s16 := hg.size
      refine OT.push HM (x := (some cd, i, i)) (own_base O (by omega)) (by omega) (by omega) fun h' w25 H25 g25 _ => ?_
      refine z_i64 (by dsimp only; omega) ?_
      have hq : ∀ c, blk q.1 = some c → w.heap.size ≤ c := fun c hc => (HM.th.lt c hc).1
      obtain ⟨k, rfl⟩ : ∃ k', k = k' + 1 := ⟨k - 1, by omega⟩
      refine hag k _ _ ⟨by show ((((k + 1 : Nat) : Int) - 1, ()) : Int × Unit) = _; congr 1; omega, by omega, ⟨_, _, H25, by simp; omega, fun q' hq' => ?_⟩, ⟨p', ht.put g25 (fun c hc => by have := hq c hc; omega)⟩, grown_put hg g25 (fun c hc => .inl (hq c hc))⟩ (by omega)
      rcases List.mem_append.1 hq' with z | z
      · exact hMr q' z
      · simp at z; subst z; exact hr'
  · dsimp only at e
    have : k = 0 := by omega
    subst this
    exact ⟨q, rfl, M, hs, n, HM, by omega, by omega, hMr, ⟨p', ht⟩, hg⟩
end Go.Proofs.Ytaomejbaocehnaa

/- Lists that are compared; the example. -/

namespace Go.Proofs.Ytaomejbaocehnaa
open Go.RowKit Go.Q Go.V

theorem intsF (a b : Hdr) (xs ys : List Nat) (w : World) (H1 : SlN w a xs) (H2 : SlN w b ys) :
    call Try.prog 19 [.slice a.1 a.2.1 a.2.2, .slice b.1 b.2.1 b.2.2] (.one (.one .bool)) w (fun (x : Bool) w' => (x = true ↔ xs = ys) ∧ bel w w') := by
  refine call_of (S19_calls a.1 a.2.1 a.2.2 b.1 b.2.1 b.2.2 w _ ?_)
  unfold S19
  have h1 := H1.nat
  have h2 := H2.nat
  have hle := H1.le
  have no : ∀ {w' : World}, bel w w' → xs ≠ ys → ∃ x : Bool, Value.bool false = (RS.one (.one .bool)).val x ∧ (x = true ↔ xs = ys) ∧ bel w w' := fun hb q => ⟨false, rfl, ⟨(fun e => by cases e), fun e => absurd e q⟩, hb⟩
  refine br_ne (fun e => no (bel.refl _) fun q => e (by rw [← h1, ← h2, q])) (fun e => ?_)
  refine loop_up xs.length (fun i w' => bel w w' ∧ ∀ j, j < i → xs[j]? = ys[j]?) ⟨bel.refl _, fun j hj => by omega⟩ fun i w3 hi ⟨hb, hp⟩ again hag _ => ?_
  refine br_dec (fun e1 => ?_) (fun e1 => ?_)
  · dsimp only at e1
    refine drw_mk fun w4 h4 _ => ?_
    replace hb := hb.trans h4
    refine nat_mk (H1.up hb) rfl (by omega) fun x hx => ?_
    refine nat_mk (H2.up hb) rfl (by omega) fun y hy => ?_
    refine br_ne (fun e2 => no hb fun q => ?_) (fun e2 => ?_)
    · rw [q, hy] at hx; injection hx with hx; omega
    · refine z_i64 (by dsimp only; omega) ?_
      refine hag _ (by omega) ⟨hb, fun j hj => ?_⟩
      rcases Nat.lt_or_ge j i with z | z
      · exact hp j z
      · have : j = i := by omega
        subst this
        rw [hx, hy]; congr 1; omega
  · dsimp only at e1
    refine ⟨true, rfl, ⟨fun _ => List.ext_getElem? fun j => ?_, fun _ => rfl⟩, hb⟩
    rcases Nat.lt_or_ge j xs.length with z | z
    · exact hp j (by omega)
    · rw [List.getElem?_eq_none z, List.getElem?_eq_none (by omega)]
theorem inF (a : Hdr) (xs : List Nat) (v : Int) (w : World) (H1 : SlN w a xs) :
    call Try.prog 15 [.slice a.1 a.2.1 a.2.2, .int .i64 v] (.one (.one .bool)) w (fun (x : Bool) w' => (x = true ↔ ∃ k ∈ xs, (k : Int) = v) ∧ bel w w') := by
  refine call_of (S15_calls a.1 a.2.1 a.2.2 v w _ ?_)
  unfold S15
  have h1 := H1.nat
  have hle := H1.le
  refine loop_up xs.length (fun i w' => bel w w' ∧ ∀ j, j < i → ∀ y, xs[j]? = some y → ¬ (y : Int) = v) ⟨bel.refl _, fun j hj => by omega⟩ fun i w3 hi ⟨hb, hp⟩ again hag _ => ?_
  refine br_dec (fun e1 => ?_) (fun e1 => ?_)
  · dsimp only at e1
    refine nat_mk (H1.up hb) rfl (by omega) fun x hx => ?_
    refine br_eq (fun e2 => ⟨true, rfl, ⟨fun _ => ⟨x, List.mem_of_getElem? hx, e2⟩, fun _ => rfl⟩, hb⟩) (fun e2 => ?_)
    refine z_i64 (by dsimp only; omega) ?_
    exact hag _ (by omega) ⟨hb, pre_step hp hx e2⟩
  · dsimp only at e1
    refine ⟨false, rfl, ⟨(fun e => by cases e), fun ⟨k, hk, e⟩ => ?_⟩, hb⟩
    exact absurd e (pre_all (p := fun y : Nat => ¬ (y : Int) = v) hp (by omega) k hk)
def exM : List (List Bool) := [[true, true, false], [false, true, true], [true, false, true]]
theorem exV : ValidM exM := ⟨by decide, by decide⟩
theorem ex_masks : masks exM = [5, 3, 6] := by decide
theorem ex_least : least (covC (masks exM)) exM.length = [0, 1] := by rw [ex_masks]; decide
theorem ex_greedy : greedy (masks exM) exM.length (exM.length + 1) 0 = [0, 1] := by rw [ex_masks]; decide
theorem ex_apart : (aprt (masks exM) 0 (2 ^ exM.length - 1)).length = 1 := by rw [ex_masks]; decide
theorem ex_needed : needN (masks exM) exM.length = [] := by rw [ex_masks]; decide
theorem ex_cov : covB (masks exM) (bitsOf [0, 1]) = true := by rw [ex_masks]; decide
theorem fill3 (a b c : Bool) : Instr.fill (fun i => some (i * 1, 1)) ((Array.range (3 * 1)).map ((Value.bool false).cells[· % (Value.bool false).cells.size]!)) (#[(0, .bool a), (1, .bool b), (2, .bool c)] : Array (Nat × Value)).toList = some #[.bool a, .bool b, .bool c] := by kernel_rfl
theorem fill3h (a b c : Hdr) : Instr.fill (fun i => some (i * 1, 1)) ((Array.range (3 * 1)).map ((Value.slice none 0 0).cells[· % (Value.slice none 0 0).cells.size]!)) (#[(0, .slice a.1 a.2.1 a.2.2), (1, .slice b.1 b.2.1 b.2.2), (2, .slice c.1 c.2.1 c.2.2)] : Array (Nat × Value)).toList = some #[.slice a.1 a.2.1 a.2.2, .slice b.1 b.2.1 b.2.2, .slice c.1 c.2.1 c.2.2] := by kernel_rfl
theorem fill2 : Instr.fill (fun i => some (i * 1, 1)) ((Array.range (2 * 1)).map ((Value.int .i64 0).cells[· % (Value.int .i64 0).cells.size]!)) (#[(0, .int .i64 0), (1, .int .i64 1)] : Array (Nat × Value)).toList = some #[.int .i64 0, .int .i64 1] := by kernel_rfl
set_option maxHeartbeats 1600000 in
theorem awakeF (w : World) : call Try.prog 16 [] (.one (.one .bool)) w (fun (x : Bool) w' => x = true ∧ bel w w') := by
  refine call_of (S16_calls w _ ?_)
  unfold S16
  refine wr_lit tyB #[.bool true, .bool true, .bool false] (fill3 true true false) (by omega) (by omega) rfl (by unfold maxLen; omega) fun a1 w2 O1 h2 _ _ => ?_
  refine wr_lit tyB #[.bool false, .bool true, .bool true] (fill3 false true true) (by omega) (by omega) rfl (by unfold maxLen; omega) fun a3 w4 O3 h4 _ _ => ?_
  refine wr_lit tyB #[.bool true, .bool false, .bool true] (fill3 true false true) (by omega) (by omega) rfl (by unfold maxLen; omega) fun a5 w6 O5 h6 _ _ => ?_
  refine wr_lit tyM _ (fill3h (some a1, 3, 3) (some a3, 3, 3) (some a5, 3, 3)) (by omega) (by omega) rfl (by unfold maxLen; omega) fun a7 w8 O7 h8 _ _ => ?_
  have H : TabB w8 (some a7, 3, 3) exM := by
    refine ⟨⟨[(some a1, 3, 3), (some a3, 3, 3), (some a5, 3, 3)], (O7 w6.heap.size (Nat.le_refl _)).sl, rfl, fun i x r hx hr => ?_⟩⟩
    match i, hx, hr with
    | 0, hx, hr => cases hx; cases hr; exact (((O1 w.heap.size (Nat.le_refl _)).sl.up h4).up h6).up h8
    | 1, hx, hr => cases hx; cases hr; exact ((O3 w2.heap.size (Nat.le_refl _)).sl.up h6).up h8
    | 2, hx, hr => cases hx; cases hr; exact (O5 w4.heap.size (Nat.le_refl _)).sl.up h8
    | i + 3, hx, hr => simp at hx
  have hb := ((h2.trans h4).trans h6).trans h8
  have get : ∀ {f : List Nat} {w0 : World} {x : HI} {w : World}, ListR exM f w0 x w → x.2.1 = 0 ∧ OwnN w w0.heap.size x.1 f := fun h => by
    rcases h with ⟨_, q1, q2⟩ | ⟨q, _⟩
    · exact ⟨q1, q2⟩
    · exact absurd exV q
  refine call_mono (LeastF (some a7, 3, 3) exM w8 H) ?_
  rintro (x9 : HI) w10 ⟨R9, h10⟩
  obtain ⟨e9, P9⟩ := get R9
  replace H := H.up h10; replace hb := hb.trans h10
  refine call_mono (GreedyF (some a7, 3, 3) exM w10 H) ?_
  rintro (x11 : HI) w12 ⟨R11, h12⟩
  obtain ⟨e11, P11⟩ := get R11
  replace H := H.up h12; replace hb := hb.trans h12
  refine call_mono (ApartF (some a7, 3, 3) exM w12 H) ?_
  rintro (x13 : HI) w14 ⟨R13, h14⟩
  obtain ⟨e13, P13⟩ := get R13
  replace H := H.up h14; replace hb := hb.trans h14
  refine call_mono (NeededF (some a7, 3, 3) exM w14 H) ?_
  rintro (x15 : HI) w16 ⟨R15, h16⟩
  obtain ⟨e15, P15⟩ := get R15
  replace H := H.up h16; replace hb := hb.trans h16
  rw [ex_least] at P9
  rw [ex_greedy] at P11
  rw [ex_needed] at P15
  refine br_eq (fun _ => ?_) (fun q => absurd e9 q)
  refine br_eq (fun _ => ?_) (fun q => absurd e11 q)
  refine br_eq (fun _ => ?_) (fun q => absurd e13 q)
  refine br_eq (fun _ => ?_) (fun q => absurd e15 q)
  have S9 : SlN w16 x9.1 [0, 1] := (((Own.sl P9).up h12).up h14).up h16
  have S11 : SlN w16 x11.1 [0, 1] := ((Own.sl P11).up h14).up h16
  refine wr_lit tyI _ fill2 (by omega) (by omega) rfl (by unfold maxLen; omega) fun a17 w18 O17 h18 _ _ => ?_
  refine call_mono (intsF x9.1 (some a17, 2, 2) [0, 1] [0, 1] w18 (S9.up h18) (O17 w16.heap.size (Nat.le_refl _)).sl) ?_
  rintro (x19 : Bool) w20 ⟨hx, h20⟩
  refine br_t (hx.2 rfl) ?_
  refine wr_lit tyI _ fill2 (by omega) (by omega) rfl (by unfold maxLen; omega) fun a21 w22 O21 h22 _ _ => ?_
  have hb22 := (h18.trans h20).trans h22
  refine call_mono (intsF x11.1 (some a21, 2, 2) [0, 1] [0, 1] w22 (S11.up hb22) (O21 w20.heap.size (Nat.le_refl _)).sl) ?_
  rintro (x23 : Bool) w24 ⟨hx, h24⟩
  refine br_t (hx.2 rfl) ?_
  have l13 := P13.sl.nat
  rw [ex_apart] at l13
  have l15 := P15.sl.nat
  refine br_eq (fun _ => ?_) (fun q => absurd (by omega) q)
  refine br_eq (fun _ => ?_) (fun q => absurd (by simp at l15; omega) q)
  have hb24 := hb22.trans h24
  have S9' : SlI w24 x9.1 [0, 1] := S9.up hb24
  refine call_mono (CoversF (some a7, 3, 3) x9.1 exM [0, 1] w24 (H.up hb24) S9') ?_
  rintro (x25 : Bool) w26 ⟨hx, h26⟩
  exact ⟨x25, rfl, hx.2 ⟨exV, [0, 1], rfl, ⟨by omega, by decide, by omega, by decide, trivial⟩, ex_cov⟩, (hb.trans hb24).trans h26⟩
end Go.Proofs.Ytaomejbaocehnaa

/- The walk of SuiteLeast. -/

namespace Go.Proofs.Ytaomejbaocehnaa
open Go.RowKit Go.Q Go.V

/-- how many of the first rows a list has -/
theorem in_len (n : Nat) : ∀ a : List Nat, ((List.range n).filter fun i => decide (i ∈ a)).length ≤ a.length
  | [] => by simp
  | x :: a => by
    have ih := in_len n a
    have h1 : ∀ l : List Nat, l.Nodup → (l.filter fun i => decide (i ∈ x :: a)).length ≤ (l.filter fun i => decide (i ∈ a)).length + 1 := by
      intro l
      induction l with
      | nil => intro _; simp
      | cons b l ih =>
        intro hn
        obtain ⟨hb, hl⟩ := List.nodup_cons.1 hn
        have i1 := ih hl
        by_cases hbx : b = x
        · subst hbx
          have : l.filter (fun i => decide (i ∈ b :: a)) = l.filter fun i => decide (i ∈ a) := by
            refine List.filter_congr fun i hi => ?_
            have : i ≠ b := fun e => hb (e ▸ hi)
            simp [this]
          rw [List.filter_cons, List.filter_cons, this]
          split <;> split <;> (try simp only [List.length_cons]) <;> omega
        · have e : decide (b ∈ x :: a) = decide (b ∈ a) := by simp [hbx]
          rw [List.filter_cons, List.filter_cons, e]
          split <;> (try simp only [List.length_cons]) <;> omega
    have := h1 (List.range n) List.nodup_range
    simp only [List.length_cons]
    omega
theorem asc_filter (n : Nat) (p : Nat → Bool) : Asc n 0 ((List.range n).filter p) := by
  have key : ∀ (k a : Nat), a + k ≤ n → Asc n a ((List.range' a k).filter p) := by
    intro k
    induction k with
    | zero => intro a _; trivial
    | succ k ih =>
      intro a ha
      rw [List.range'_succ, List.filter_cons]
      have := ih (a + 1) (by omega)
      split
      · exact ⟨Nat.le_refl _, by omega, this⟩
      · exact this.mono (by omega)
  have := key n 0 (by omega)
  rwa [← List.range_eq_range'] at this
section
variable {M : List (List Bool)}
/-- nothing that covers is shorter -/
theorem least_min {ys : List Nat} (ha : Asc M.length 0 ys) (hc : covC (masks M) ys = true) : (least (covC (masks M)) M.length).length ≤ ys.length := by
  obtain ⟨k, hk, hs, hn⟩ := least_spec (cov_all M)
  obtain ⟨zs, z1, z2, z3, z4⟩ := choose_some _ _ _ _ hs
  rw [List.nil_append] at z1
  rw [z1, z2]
  rcases Nat.lt_or_ge ys.length k with q | q
  · have := choose_none _ _ _ (hn ys.length q) ys rfl ha
    rw [List.nil_append, hc] at this; cases this
  · exact q
theorem least_asc : Asc M.length 0 (least (covC (masks M)) M.length) ∧ covC (masks M) (least (covC (masks M)) M.length) = true := by
  obtain ⟨k, hk, hs, hn⟩ := least_spec (cov_all M)
  obtain ⟨zs, z1, z2, z3, z4⟩ := choose_some _ _ _ _ hs
  rw [List.nil_append] at z1
  rw [z1] at z4 ⊢
  exact ⟨z3, z4⟩
theorem bits_eq (xs : List Nat) {n : Nat} (h : ∀ x ∈ xs, x < n) : ∀ i, (bitsOf xs).testBit i = true → (bitsOf ((List.range n).filter fun i => decide (i ∈ xs))).testBit i = true := by
  intro i hi
  rw [bits_bit] at hi ⊢
  have hi : i ∈ xs := by simpa using hi
  simp [hi, h i hi]
theorem greedy_lt {L : List Nat} {n : Nat} (hn : 0 < n ∨ L = []) : ∀ (f s : Nat), ∀ x ∈ greedy L n f s, x < n
  | 0, _, x, hx => by cases hx
  | f + 1, s, x, hx => by
    simp only [greedy] at hx
    split at hx
    · cases hx
    · rename_i hc
      rcases List.mem_cons.1 hx with rfl | hx
      · rcases hn with q | q
        · exact bst_lt q
        · subst q; exact absurd rfl hc
      · exact greedy_lt hn f _ x hx
theorem greedy_cov {L : List Nat} {n : Nat} (hL : ∀ c ∈ L, c < 2 ^ n) : ∀ (f s : Nat), free s n < f → covB L (s ||| bitsOf (greedy L n f s)) = true
  | 0, _, h => by omega
  | f + 1, s, h => by
    simp only [greedy]
    split
    · rename_i hc
      exact covB_mono (fun i hi => by rw [Nat.testBit_or, hi]; rfl) hc
    · rename_i hc
      have hc' : covB L s = false := by simpa using hc
      obtain ⟨b1, b2, _⟩ := best_new hL hc'
      have hf := free_step b1 b2
      have ih := greedy_cov hL f (s ||| 2 ^ (bst L s n).1) (by omega)
      refine covB_mono (fun i hi => ?_) ih
      rw [Nat.testBit_or, Nat.testBit_or, Nat.testBit_two_pow, bits_bit] at hi
      rw [Nat.testBit_or, bits_bit]
      simp at hi ⊢
      rcases hi with (q | q) | q
      · exact .inl q
      · exact .inr (.inl q.symm)
      · exact .inr (.inr q)
theorem least_greedy : (least (covC (masks M)) M.length).length ≤ (greedy (masks M) M.length (M.length + 1) 0).length := by
  have hL := masks_lt (M := M)
  have hg := greedy_cov hL (M.length + 1) 0 (by have := free_le 0 M.length; omega)
  rw [Nat.zero_or] at hg
  have hn : 0 < M.length ∨ masks M = [] := by
    rcases Nat.eq_zero_or_pos M.length with q | q
    · have : M = [] := List.eq_nil_of_length_eq_zero q
      subst this; exact .inr rfl
    · exact .inl q
  have hlt := greedy_lt hn (M.length + 1) 0
  generalize greedy (masks M) M.length (M.length + 1) 0 = g at *
  have h1 := least_min (M := M) (asc_filter M.length fun i => decide (i ∈ g)) (covB_mono (bits_eq g hlt) hg)
  have h2 := in_len M.length g
  omega
theorem apart_least (V : ValidM M) : (aprt (masks M) 0 (2 ^ M.length - 1)).length ≤ (least (covC (masks M)) M.length).length := by
  have hL := masks_lt (M := M)
  have p0 := Nat.two_pow_pos M.length
  obtain ⟨_, hc⟩ := least_asc (M := M)
  rw [aprt_len]
  generalize least (covC (masks M)) M.length = a at *
  have h1 := fam_cover V.n hL (show 2 ^ M.length - 1 < 2 ^ M.length by omega) (sel_fam (masks M) (2 ^ M.length - 1)) (sel_len _ _) hc
  have h2 : pc ((2 ^ M.length - 1) &&& bitsOf a) M.length ≤ ((List.range M.length).filter fun i => decide (i ∈ a)).length := by
    unfold pc
    have key : ∀ l : List Nat, (l.filter fun i => ((2 ^ M.length - 1) &&& bitsOf a).testBit i).length ≤ (l.filter fun i => decide (i ∈ a)).length := by
      intro l
      induction l with
      | nil => simp
      | cons b l ih =>
        rw [List.filter_cons, List.filter_cons]
        have : ((2 ^ M.length - 1) &&& bitsOf a).testBit b = true → decide (b ∈ a) = true := fun h => by
          rw [Nat.testBit_and, bits_bit] at h
          simp at h ⊢; exact h.2
        split
        · rename_i h; rw [if_pos (this h)]; simp only [List.length_cons]; omega
        · split <;> (try simp only [List.length_cons]) <;> omega
    exact key _
  have h3 := in_len M.length a
  omega
theorem need_least {x : Nat} (h : x ∈ needN (masks M) M.length) : x ∈ least (covC (masks M)) M.length := by
  obtain ⟨_, hc⟩ := least_asc (M := M)
  unfold needN at h
  obtain ⟨_, h⟩ := List.mem_filter.1 h
  have hm : 2 ^ x ∈ masks M := by simpa using h
  have h0 : 2 ^ x ≠ 0 := by have := Nat.two_pow_pos x; omega
  obtain ⟨i, h1, h2⟩ := and_ne.1 (covB_iff.1 hc _ hm h0)
  rw [Nat.testBit_two_pow] at h1
  rw [bits_bit] at h2
  have : x = i := by simpa using h1
  subst this
  simpa using h2
end
theorem MatR.valid {rows columns : Nat} {M : List (List Bool)} {n : Nat} (h1 : M.length ≤ rows) (h2 : n ≤ columns) (h3 : ∀ r ∈ M, r.length = n) (hr : rows ≤ 14) (hc : columns ≤ 400) : ValidM M := by
  refine ⟨by omega, fun r hr' => ⟨?_, by rw [h3 r hr']; omega⟩⟩
  cases M with
  | nil => cases hr'
  | cons q M => rw [h3 r hr', width_at (r := q) rfl, h3 q (by simp)]
theorem ListR.get {M : List (List Bool)} {f : List Nat} {w0 : World} {x : HI} {w : World} (h : ListR M f w0 x w) (V : ValidM M) : x.2.1 = 0 ∧ OwnN w w0.heap.size x.1 f := by
  rcases h with ⟨_, q1, q2⟩ | ⟨q, _⟩
  · exact ⟨q1, q2⟩
  · exact absurd V q
theorem shr_bit (s k : Nat) : s / 2 ^ k % 2 = if s.testBit k then 1 else 0 := by
  have h := Nat.testBit_eq_decide_div_mod_eq (x := s) (i := k)
  have : s / 2 ^ k % 2 < 2 := Nat.mod_lt _ (by omega)
  rw [h]
  by_cases e : s / 2 ^ k % 2 = 1
  · simp [e]
  · simp [e]; omega
set_option maxHeartbeats 3200000 in
theorem suLeast (l : Hdr) (L : List Int) (w : World) (HL : SlI w l L) (hI : ∀ x ∈ L, I64 x) :
    Calls Try.prog 3 #[.slice l.1 l.2.1 l.2.2] w (fun e w' => e = .returned (.bool true) ∧ Below w.heap.size w w') := by
  refine Calls.mono (S3_calls l.1 l.2.1 l.2.2 w (fun v w' => v = .bool true ∧ bel w w') ?_) (by rintro e w' ⟨v, rfl, rfl, hb⟩; exact ⟨rfl, hb⟩)
  unfold S3
  refine call_mono (newF l L w HL hI) ?_
  rintro _ w2 ⟨tb, l', L', rfl, etb, ht, h2⟩
  refine call_mono (matrixF 7 20 ht (by omega) (by omega)) ?_
  rintro (x3 : Hdr) w4 ⟨M, hs, n, HM, hM1, hM2, hM3, _, g4⟩
  have V := MatR.valid hM1 hM2 hM3 (by omega) (by omega)
  have h : bel w w4 := h2.grownAt g4 (by omega)
  replace HM := HM.tab
  have hl := HM.len
  refine call_mono (LeastF x3 M w4 HM) ?_
  rintro (x5 : HI) w6 ⟨R5, h'⟩
  obtain ⟨e5, P5⟩ := R5.get V
  replace HM := HM.up h'; replace h := h.trans h'
  refine call_mono (GreedyF x3 M w6 HM) ?_
  rintro (x7 : HI) w8 ⟨R7, h'⟩
  obtain ⟨e7, P7⟩ := R7.get V
  have S5 := (Own.sl P5).up h'
  replace HM := HM.up h'; replace h := h.trans h'
  refine call_mono (ApartF x3 M w8 HM) ?_
  rintro (x9 : HI) w10 ⟨R9, h'⟩
  obtain ⟨e9, P9⟩ := R9.get V
  replace S5 := S5.up h'
  have S7 := (Own.sl P7).up h'
  replace HM := HM.up h'; replace h := h.trans h'
  refine call_mono (NeededF x3 M w10 HM) ?_
  rintro (x11 : HI) w12 ⟨R11, h'⟩
  obtain ⟨e11, P11⟩ := R11.get V
  replace S5 := S5.up h'
  replace S7 := S7.up h'
  have S9 := (Own.sl P9).up h'
  have S11 := Own.sl P11
  replace HM := HM.up h'; replace h := h.trans h'
  refine br_ne (fun q => absurd e5 q) (fun _ => ?_)
  refine br_ne (fun q => absurd e7 q) (fun _ => ?_)
  refine br_ne (fun q => absurd e9 q) (fun _ => ?_)
  refine br_ne (fun q => absurd e11 q) (fun _ => ?_)
  obtain ⟨a1, a2⟩ := least_asc (M := M)
  have SI5 : SlI w12 x5.1 ((least (covC (masks M)) M.length).map fun k : Nat => (k : Int)) := by
    show Sl _ _ _ _ _ (ints .i64 _)
    rw [← nats_ints]; exact S5
  refine call_mono (CoversF x3 x5.1 M _ w12 HM SI5) ?_
  rintro (x13 : Bool) w14 ⟨hx, h'⟩
  replace S5 := S5.up h'; replace S11 := S11.up h'
  have l5 := S5.nat
  have l7 := S7.nat
  have l9 := S9.nat
  have l11 := S11.nat
  replace HM := HM.up h'; replace h := h.trans h'
  refine br_not (fun q => ?_) (fun _ => ?_)
  · rw [hx.2 ⟨V, _, rfl, a1, a2⟩] at q; cases q
  have c1 := apart_least V
  have c2 := least_greedy (M := M)
  have c3 := @least_min M
  have c4 := @need_least M
  have v1 := V.n
  generalize hA : least (covC (masks M)) M.length = A at *
  refine br_dec (fun q => absurd q (by omega)) (fun _ => ?_)
  refine br_dec (fun q => absurd q (by omega)) (fun _ => ?_)
  have hnl := needN_len (masks M) M.length
  generalize hN : needN (masks M) M.length = N at *
  refine loop_up N.length (fun i w' => bel w14 w') (bel.refl _) fun i w17 hi hb again hag _ => ?_
  refine br_dec (fun e => ?_) (fun e => ?_)
  · dsimp only at e
    refine nat_mk (S11.up hb) rfl (by omega) fun x hx => ?_
    refine call_mono (inF x5.1 A (x : Int) w17 (S5.up hb)) ?_
    rintro (x20 : Bool) w21 ⟨hx20, h21⟩
    refine br_not (fun q => ?_) (fun _ => ?_)
    · rw [hx20.2 ⟨x, c4 (List.mem_of_getElem? hx), rfl⟩] at q; cases q
    · refine z_i64 (by dsimp only; omega) ?_
      exact hag _ (by omega) (hb.trans h21)
  clear hag again e
  have p14 := pow14 v1
  replace HM := HM.up hb; replace h := h.trans hb
  refine loop_up (2 ^ M.length) (fun s w' => bel w17 w') (bel.refl _) fun s w25 hs hb again hag _ => ?_
  refine z_u64 (by omega) ?_
  refine shl1 M.length (by omega) (by omega) ?_
  refine br_dec (fun e => ?_) (fun e => ?_)
  · dsimp only at e
    have hsn : s < 2 ^ M.length := by omega
    have s1725 := hb.size
    refine join_mk (fun _ w' => bel w17 w') (fun K hK => ?_) (fun _ w30 hJ _ => ?_)
    · refine loop_upA M.length (fun k q w' => bel w17 w' ∧ bel w25 w' ∧ OwnN w' w25.heap.size q ((List.range k).filter fun i => s.testBit i)) ⟨hb, bel.refl _, Own.nil _ _ _ _⟩ fun k q w34 hk ⟨hb, hb25, O⟩ again2 hag2 _ => ?_
      have lq := O.sl.nat
      have hfl := List.length_filter_le (fun i => s.testBit i) (List.range k)
      rw [List.length_range] at hfl
      refine br_dec (fun e1 => ?_) (fun e1 => ?_)
      · dsimp only at e1
        have hkn : k < M.length := by omega
        refine join_mk (fun t w' => bel w17 w' ∧ bel w25 w' ∧ OwnN w' w25.heap.size t.1 ((List.range (k + 1)).filter fun i => s.testBit i)) (fun K2 hK2 => ?_) (fun t w37 hJ _ => ?_)
        · refine z_u64 (by dsimp only; omega) ?_
          refine rdp_shr k rfl (by show k ≤ 64; omega) ?_
          have ed : (s : Int) / 2 ^ k = ((s / 2 ^ k : Nat) : Int) := by
            rw [Int.natCast_ediv]; congr 1
          dsimp only
          rw [ed]
          have hdl : s / 2 ^ k ≤ s := Nat.div_le_self _ _
          refine z_and (a := s / 2 ^ k) (b := 1) rfl rfl (by omega) (by omega) ?_
          rw [Nat.and_one_is_mod, shr_bit]
          have hst : (List.range (k + 1)).filter (fun i => s.testBit i) = if s.testBit k then (List.range k).filter (fun i => s.testBit i) ++ [k] else (List.range k).filter fun i => s.testBit i := by
            rw [List.range_succ, List.filter_append]
            cases hsk : s.testBit k <;> simp [hsk]
          refine br_eq (fun e2 => ?_) (fun e2 => ?_)
          · have hsk : s.testBit k = true := by
              cases q : s.testBit k with
              | true => rfl
              | false => rw [q] at e2; simp at e2
            rw [hsk, if_pos rfl] at hst
            have := hb25.size
            refine wr_app1 tyI O (by omega) rfl (by omega) (by omega) rfl rfl (by omega) (by unfold maxLen; omega) fun a' c' w45 O45 g45 _ _ => ?_
            have hlt := O.lt
            refine hK2 _ _ ⟨hb.grown g45 fun b hb' => ?_, hb25.grown g45 fun b hb' => (hlt b hb').1, ?_⟩
            · have := (hlt b hb').1; omega
            · show Own w45 _ _ 1 a' (q.2.1 + 1) c' (nats .i64 _)
              rw [hst, nats_snoc]; exact O45
          · have hsk : s.testBit k = false := by
              cases q : s.testBit k with
              | false => rfl
              | true => rw [q] at e2; simp at e2
            rw [hsk] at hst
            refine hK2 _ _ ⟨hb, hb25, ?_⟩
            show OwnN w34 _ q _
            rw [hst]; exact O
        · obtain ⟨tq, _⟩ := t
          refine z_i64 (by dsimp only; omega) ?_
          exact hag2 _ _ hkn hJ
      · dsimp only at e1
        have hkn : k = M.length := by omega
        subst hkn
        refine br_dec (fun e2 => ?_) (fun _ => hK () _ hb)
        dsimp only at e2
        have SI : SlI w34 q (((List.range M.length).filter fun i => s.testBit i).map fun k : Nat => (k : Int)) := by
          show Sl _ _ _ _ _ (ints .i64 _)
          rw [← nats_ints]; exact O.sl
        refine call_mono (CoversF x3 q M _ w34 (HM.up hb) SI) ?_
        rintro (x46 : Bool) w47 ⟨hx, h47⟩
        refine br_mk (fun q => ?_) (fun _ => hK () _ (hb.trans h47))
        obtain ⟨_, ys, y1, y2, y3⟩ := hx.1 q
        have : (List.range M.length).filter (fun i => s.testBit i) = ys := map_inj y1
        have c5 := c3 y2 y3
        rw [← this] at c5
        omega
    · refine z_i64 (by dsimp only; omega) ?_
      exact hag _ hsn hJ
  · refine call_mono (awakeF w25) ?_
    rintro (x48 : Bool) w49 ⟨hx, h49⟩
    exact ⟨by rw [hx], (h.trans hb).trans h49⟩
end Go.Proofs.Ytaomejbaocehnaa

/- The walk of SuiteApart. -/

namespace Go.Proofs.Ytaomejbaocehnaa
open Go.RowKit Go.Q Go.V

def FamP (l : List Nat) (R : Nat) (b : List Bool) : Prop :=
  (∀ (i c : Nat), b[i]? = some true → l[i]? = some c → c ≠ 0 ∧ ∀ t, c.testBit t = true → R.testBit t = true) ∧ ∀ (i j c d : Nat), i ≠ j → b[i]? = some true → b[j]? = some true → l[i]? = some c → l[j]? = some d → ∀ t, c.testBit t = true → d.testBit t = false
theorem fam_iff {n : Nat} (hn : n ≤ 14) : ∀ {l : List Nat} {R : Nat} {b : List Bool}, (∀ c ∈ l, c < 2 ^ n) → R < 2 ^ n → b.length = l.length → (Fam l R b ↔ FamP l R b)
  | [], R, b, _, _, hb => by
    have : b = [] := List.eq_nil_of_length_eq_zero hb
    subst this
    exact ⟨fun _ => ⟨fun i c h => by simp at h, fun i j c d _ h => by simp at h⟩, fun _ => trivial⟩
  | c :: l, R, [], _, _, hb => by simp at hb
  | c :: l, R, false :: b, hl, hR, hb => by
    have ih := fam_iff hn (l := l) (R := R) (b := b) (fun d hd => hl d (by simp [hd])) hR (by simpa using hb)
    show Fam l R b ↔ _
    rw [ih]
    constructor
    · rintro ⟨h1, h2⟩
      refine ⟨fun i d hi hd => ?_, fun i j d e hij hi hj hd he => ?_⟩
      · cases i with
        | zero => simp at hi
        | succ i => exact h1 i d (by simpa using hi) (by simpa using hd)
      · cases i with
        | zero => simp at hi
        | succ i => cases j with
          | zero => simp at hj
          | succ j => exact h2 i j d e (by omega) (by simpa using hi) (by simpa using hj) (by simpa using hd) (by simpa using he)
    · rintro ⟨h1, h2⟩
      exact ⟨fun i d hi hd => h1 (i + 1) d (by simpa using hi) (by simpa using hd), fun i j d e hij hi hj hd he => h2 (i + 1) (j + 1) d e (by omega) (by simpa using hi) (by simpa using hj) (by simpa using hd) (by simpa using he)⟩
  | c :: l, R, true :: b, hl, hR, hb => by
    have hc := hl c (by simp)
    have ih := fam_iff hn (l := l) (R := dif R c) (b := b) (fun d hd => hl d (by simp [hd])) (dif_lt hR) (by simpa using hb)
    show (c ≠ 0 ∧ dif c R = 0 ∧ Fam l (dif R c) b) ↔ _
    rw [ih, dif_eq0 (lt64 hc hn) (lt64 hR hn)]
    have hbit := fun t => dif_bit (a := R) (lt64 hc hn) t
    constructor
    · rintro ⟨h0, hs, h1, h2⟩
      refine ⟨fun i d hi hd => ?_, fun i j d e hij hi hj hd he => ?_⟩
      · cases i with
        | zero => simp at hd; subst hd; exact ⟨h0, hs⟩
        | succ i =>
          obtain ⟨q1, q2⟩ := h1 i d (by simpa using hi) (by simpa using hd)
          refine ⟨q1, fun t ht => ?_⟩
          have := q2 t ht
          rw [hbit] at this
          simp at this; exact this.1
      · cases i with
        | zero =>
          simp at hd; subst hd
          cases j with
          | zero => exact absurd rfl hij
          | succ j =>
            obtain ⟨_, q2⟩ := h1 j e (by simpa using hj) (by simpa using he)
            intro t ht
            cases het : e.testBit t with
            | false => rfl
            | true =>
              have := q2 t het
              rw [hbit, ht] at this
              simp at this
        | succ i => cases j with
          | zero =>
            simp at he; subst he
            obtain ⟨_, q2⟩ := h1 i d (by simpa using hi) (by simpa using hd)
            intro t ht
            have := q2 t ht
            rw [hbit] at this
            simp at this; exact this.2.2
          | succ j => exact h2 i j d e (by omega) (by simpa using hi) (by simpa using hj) (by simpa using hd) (by simpa using he)
    · rintro ⟨h1, h2⟩
      obtain ⟨q1, q2⟩ := h1 0 c (by simp) (by simp)
      refine ⟨q1, q2, fun i d hi hd => ?_, fun i j d e hij hi hj hd he => h2 (i + 1) (j + 1) d e (by omega) (by simpa using hi) (by simpa using hj) (by simpa using hd) (by simpa using he)⟩
      obtain ⟨r1, r2⟩ := h1 (i + 1) d (by simpa using hi) (by simpa using hd)
      refine ⟨r1, fun t ht => ?_⟩
      have r3 := h2 (i + 1) 0 d c (by omega) (by simpa using hi) (by simp) (by simpa using hd) (by simp) t ht
      have h64 : t < 64 := by
        rcases Nat.lt_or_ge t 64 with q | q
        · exact q
        · have := r2 t ht
          rw [bit_out (lt64 hR hn) q] at this; cases this
      rw [hbit, r2 t ht, r3]; simp [h64]
theorem nT_set : ∀ {b : List Bool} {k : Nat}, b[k]? = some false → nT (b.set k true) = nT b + 1
  | [], k, h => by simp at h
  | x :: b, 0, h => by
    have : x = false := by simpa using h
    subst this; simp [nT]
  | x :: b, k + 1, h => by
    have ih := nT_set (b := b) (k := k) (by simpa using h)
    rw [List.set_cons_succ]
    unfold nT at ih ⊢
    rw [List.filter_cons, List.filter_cons]
    split <;> (try simp only [List.length_cons]) <;> omega
/-- the law of Apart -/
theorem apart_law {n : Nat} (hn : n ≤ 14) {L : List Nat} (hL : ∀ c ∈ L, c < 2 ^ n) {k c : Nat} (hk : L[k]? = some c) :
    k ∈ aprt L 0 (2 ^ n - 1) ↔ c ≠ 0 ∧ ∀ x ∈ aprt L 0 (2 ^ n - 1), x ≠ k → ∀ d, L[x]? = some d → ∀ t, c.testBit t = true → d.testBit t = false := by
  have p0 := Nat.two_pow_pos n
  have hR : 2 ^ n - 1 < 2 ^ n := by omega
  have hm : ∀ x, x ∈ aprt L 0 (2 ^ n - 1) ↔ (sel L (2 ^ n - 1))[x]? = some true := fun x => by
    rw [aprt_sel]; simp
  have hf := (fam_iff hn hL hR (sel_len L _)).1 (sel_fam L (2 ^ n - 1))
  have hmax := sel_max hn hL hR
  generalize hb : sel L (2 ^ n - 1) = b at *
  have hbl : b.length = L.length := by rw [← hb]; exact sel_len _ _
  rw [hm]
  constructor
  · intro h
    exact ⟨(hf.1 k c h hk).1, fun x hx hne d hd => hf.2 k x c d (fun e => hne e.symm) h ((hm x).1 hx) hk hd⟩
  · rintro ⟨h0, hdis⟩
    have hkl : k < L.length := (List.getElem?_eq_some_iff.1 hk).1
    cases hbk : b[k]? with
    | none => rw [List.getElem?_eq_none_iff] at hbk; omega
    | some v =>
      cases v with
      | true => rfl
      | false =>
        exfalso
        have hset : ∀ x, (b.set k true)[x]? = some true → x = k ∨ b[x]? = some true := fun x hx => by
          rw [List.getElem?_set] at hx
          split at hx
          · rename_i e; exact .inl e.symm
          · exact .inr hx
        have hcR : ∀ t, c.testBit t = true → (2 ^ n - 1).testBit t = true := fun t ht => by
          rw [Nat.testBit_two_pow_sub_one]
          rcases Nat.lt_or_ge t n with q | q
          · simp [q]
          · rw [bit_out (hL c (List.mem_of_getElem? hk)) q] at ht; cases ht
        have hF : FamP L (2 ^ n - 1) (b.set k true) := by
          refine ⟨fun i d hi hd => ?_, fun i j d e hij hi hj hd he => ?_⟩
          · rcases hset i hi with rfl | q
            · rw [hk] at hd; injection hd with hd; subst hd; exact ⟨h0, hcR⟩
            · exact hf.1 i d q hd
          · rcases hset i hi with rfl | q
            · rcases hset j hj with rfl | q'
              · exact absurd rfl hij
              · rw [hk] at hd; injection hd with hd; subst hd
                exact hdis j ((hm j).2 q') (fun z => hij z.symm) e he
            · rcases hset j hj with rfl | q'
              · rw [hk] at he; injection he with he; subst he
                intro t ht
                cases hct : c.testBit t with
                | false => rfl
                | true =>
                  have := hdis i ((hm i).2 q) hij d hd t hct
                  rw [ht] at this; cases this
              · exact hf.2 i j d e hij q q' hd he
        have h1 := fam_le hn hL hR (by rw [List.length_set]; exact hbl) ((fam_iff hn hL hR (by rw [List.length_set]; exact hbl)).2 hF)
        rw [nT_set hbk] at h1
        omega
def smB (M : List (List Bool)) (k : Nat) : Nat → Bool
  | 0 => false
  | i + 1 => smB M k i || bm M i k
def hit (M : List (List Bool)) (k i x : Nat) : Bool := bm M i k && (decide (x ≠ k) && bm M i x)
def frB (M : List (List Bool)) (A : List Nat) (k : Nat) : Nat → Bool
  | 0 => true
  | i + 1 => frB M A k i && A.all fun x => !hit M k i x
theorem smB_iff {M : List (List Bool)} {k n : Nat} : smB M k n = true ↔ ∃ i, i < n ∧ bm M i k = true := by
  induction n with
  | zero => simp [smB]
  | succ n ih =>
    simp only [smB, Bool.or_eq_true]
    rw [ih]
    constructor
    · rintro (⟨i, h1, h2⟩ | h)
      · exact ⟨i, by omega, h2⟩
      · exact ⟨n, by omega, h⟩
    · rintro ⟨i, h1, h2⟩
      rcases Nat.lt_or_ge i n with q | q
      · exact .inl ⟨i, q, h2⟩
      · have : i = n := by omega
        subst this; exact .inr h2
theorem frB_iff {M : List (List Bool)} {A : List Nat} {k n : Nat} : frB M A k n = true ↔ ∀ i, i < n → ∀ x ∈ A, x ≠ k → bm M i k = true → bm M i x = false := by
  induction n with
  | zero => simp [frB]
  | succ n ih =>
    simp only [frB, Bool.and_eq_true]
    rw [ih, List.all_eq_true]
    constructor
    · rintro ⟨h1, h2⟩ i hi x hx hne hb
      rcases Nat.lt_or_ge i n with q | q
      · exact h1 i q x hx hne hb
      · have : i = n := by omega
        subst this
        have := h2 x hx
        unfold hit at this
        simp [hb, hne] at this
        exact this
    · intro h
      refine ⟨fun i hi => h i (by omega), fun x hx => ?_⟩
      unfold hit
      by_cases hne : x = k
      · simp [hne]
      · cases hb : bm M n k with
        | false => simp
        | true =>
          have := h n (by omega) x hx hne hb
          simp [this]
theorem apart_iff {M : List (List Bool)} (V : ValidM M) {k : Nat} (hk : k < width M) : k ∈ aprt (masks M) 0 (2 ^ M.length - 1) ↔ (smB M k M.length && frB M (aprt (masks M) 0 (2 ^ M.length - 1)) k M.length) = true := by
  rw [apart_law V.n masks_lt (masks_at hk), Bool.and_eq_true, smB_iff, frB_iff]
  have hA : ∀ x ∈ aprt (masks M) 0 (2 ^ M.length - 1), x < width M := fun x hx => by
    rw [aprt_sel] at hx
    have := (List.getElem?_eq_some_iff.1 hx.2).1
    rw [sel_len, masks_len] at this
    omega
  refine and_congr ?_ ?_
  · rw [ne_zero_bit]
    constructor
    · rintro ⟨i, hi⟩
      rw [msk_bit] at hi
      simp at hi
      exact ⟨i, hi.1, hi.2⟩
    · rintro ⟨i, h1, h2⟩
      exact ⟨i, by rw [msk_bit]; simp [h1, h2]⟩
  · constructor
    · intro h i hi x hx hne hb
      have := h x hx hne _ (masks_at (hA x hx)) i (by rw [msk_bit]; simp [hi, hb])
      rw [msk_bit] at this
      simp [hi] at this
      exact this
    · intro h x hx hne d hd t ht
      rw [masks_at (hA x hx)] at hd
      injection hd with hd
      subst hd
      rw [msk_bit] at ht ⊢
      simp at ht ⊢
      intro _
      exact h t ht.1 x hx hne ht.2
set_option maxHeartbeats 3200000 in
theorem suApart (l : Hdr) (L : List Int) (w : World) (HL : SlI w l L) (hI : ∀ x ∈ L, I64 x) :
    Calls Try.prog 5 #[.slice l.1 l.2.1 l.2.2] w (fun e w' => e = .returned (.bool true) ∧ Below w.heap.size w w') := by
  refine Calls.mono (S5_calls l.1 l.2.1 l.2.2 w (fun v w' => v = .bool true ∧ bel w w') ?_) (by rintro e w' ⟨v, rfl, rfl, hb⟩; exact ⟨rfl, hb⟩)
  unfold S5
  refine call_mono (newF l L w HL hI) ?_
  rintro _ w2 ⟨tb, l', L', rfl, etb, ht, h2⟩
  refine call_mono (matrixF 7 16 ht (by omega) (by omega)) ?_
  rintro (x3 : Hdr) w4 ⟨M, hs, n, HM, hM1, hM2, hM3, _, g4⟩
  have V := MatR.valid hM1 hM2 hM3 (by omega) (by omega)
  have h : bel w w4 := h2.grownAt g4 (by omega)
  replace HM := HM.tab
  have hl := HM.len
  refine call_mono (ApartF x3 M w4 HM) ?_
  rintro (x5 : HI) w6 ⟨R5, h'⟩
  obtain ⟨e5, P5⟩ := R5.get V
  have S5 := Own.sl P5
  have l5 := S5.nat
  replace HM := HM.up h'; replace h := h.trans h'
  refine br_ne (fun q => absurd e5 q) (fun _ => ?_)
  refine nat_eq0 (fun e0 => ?_) (fun e0 => ?_)
  · have : M = [] := List.eq_nil_of_length_eq_zero (by omega)
    subst this
    refine nat_eq0 (fun _ => ?_) (fun q => absurd (by rw [← l5]; rfl) q)
    refine call_mono (awakeF w6) ?_
    rintro (x7 : Bool) w8 ⟨hx, h8⟩
    exact ⟨by rw [hx], h.trans h8⟩
  refine row_up HM (bel.refl _) (i := 0) rfl (by omega) fun x10 r0 hr0 S10 => ?_
  have l10 := S10.bool
  have hw := width_at hr0
  have v2 := V.w400
  have v1 := V.n
  have law := fun k (hk : k < width M) => apart_iff V hk
  have hA : ∀ x ∈ aprt (masks M) 0 (2 ^ M.length - 1), x < width M := fun x hx => by
    rw [aprt_sel] at hx
    have := (List.getElem?_eq_some_iff.1 hx.2).1
    rw [sel_len, masks_len] at this
    omega
  have hAl : (aprt (masks M) 0 (2 ^ M.length - 1)).length ≤ 100000 := by
    rw [aprt_len]
    have := sel_max v1 (masks_lt (M := M)) (show 2 ^ M.length - 1 < 2 ^ M.length by have := Nat.two_pow_pos M.length; omega)
    have := mst_le v1 (masks_lt (M := M)) (show 2 ^ M.length - 1 < 2 ^ M.length by have := Nat.two_pow_pos M.length; omega)
    have := pc_le (2 ^ M.length - 1) M.length
    omega
  generalize aprt (masks M) 0 (2 ^ M.length - 1) = A at *
  refine loop_up (width M) (fun k w' => bel w6 w') (bel.refl _) fun k w13 hk hb again hag _ => ?_
  refine br_dec (fun e => ?_) (fun e => ?_)
  · dsimp only at e
    have hkw : k < width M := by omega
    refine join_mk (fun _ w' => bel w6 w') (fun K hK => ?_) (fun _ w16 hJ _ => ?_)
    · refine loop_gh (G := Nat) (fun i s w' => s = (smB M k i, frB M A k i, (i : Int), ()) ∧ i ≤ M.length ∧ w13 = w') (fun i => M.length - i) 0 ⟨rfl, Nat.zero_le _, rfl⟩ ?_
      rintro i s w20 ⟨rfl, hi, rfl⟩ again2 hag2 _
      refine br_dec (fun e1 => ?_) (fun e1 => ?_)
      · dsimp only at e1
        have hin : i < M.length := by omega
        refine row_up HM hb rfl hin fun x22 r hr S22 => ?_
        have l22 := S22.bool
        have lr := (V.row r (mem_at hr)).1
        have rdb : ∀ {x : Nat} {xx : Int} {K : Bool → Prop}, xx = (x : Int) → x < width M → K (bm M i x) → rdp Try.prog (Instr.indexAt 35 (.slice x22.1 x22.2.1 x22.2.2) (.int .i64 xx)) (.one .addr) fun b => rd Try.prog (Instr.loadAt 4 (.pointer (some b))) (.one .bool) w13 K := fun {x xx K} hxx hx hK =>
          at_bool tyB (by kernel_rfl) (S22.up hb) hxx (by omega) fun b hbb => by rw [← bm_at hr hbb]; exact hK
        refine join_mk (fun s w' => s.1 = smB M k (i + 1) ∧ w13 = w') (fun K2 hK2 => ?_) (fun s w25 hJ _ => ?_)
        · refine br_mk (fun q => hK2 _ _ ⟨by dsimp only at q ⊢; simp [smB, q], rfl⟩) (fun q => ?_)
          refine rdb rfl hkw ?_
          exact hK2 _ _ ⟨by dsimp only at q ⊢; simp [smB, q], rfl⟩
        · obtain ⟨hs1, rfl⟩ := hJ
          obtain ⟨sv, _⟩ := s
          dsimp only at hs1
          subst hs1
          have stp : ∀ {j x : Nat}, A[j]? = some x → (A.take (j + 1)).all (fun x => !hit M k i x) = ((A.take j).all (fun x => !hit M k i x) && !hit M k i x) := fun {j x} hx => by
            rw [List.take_add_one, hx]
            show (A.take j ++ [x]).all _ = _
            rw [List.all_append]; simp
          refine loop_upA A.length (fun j a w' => a = (frB M A k i && (A.take j).all fun x => !hit M k i x) ∧ w13 = w') ⟨by simp, rfl⟩ fun j a w28 hj ⟨ha, hw28⟩ again3 hag3 _ => ?_
          subst hw28
          refine br_dec (fun e2 => ?_) (fun e2 => ?_)
          · dsimp only at e2
            have hjA : j < A.length := by omega
            refine nat_mk (S5.up hb) rfl hjA fun x hx => ?_
            have hxw := hA x (List.mem_of_getElem? hx)
            have hst := stp hx
            have fin : ∀ {v : Bool}, v = (a && !hit M k i x) → z (IntKind.wrap .i64 ((j : Int) + 1)) fun z40 => again3 (v, z40, ()) w13 := fun {v} hv => by
              refine z_i64 (by omega) ?_
              refine hag3 v w13 hjA ⟨?_, rfl⟩
              rw [hv, ha, hst, Bool.and_assoc]
            refine br_mk (fun qa => ?_) (fun qa => fin (by dsimp only at qa; rw [qa]; rfl))
            dsimp only at qa
            refine rdb rfl hkw ?_
            refine br_mk (fun qb => ?_) (fun qb => fin (by rw [qa]; unfold hit; rw [qb]; rfl))
            refine br_ne (fun qc => ?_) (fun qc => fin (by rw [qa]; unfold hit; rw [decide_eq_false (by simp; omega)]; simp))
            refine br_dec (fun _ => ?_) (fun q => absurd q (by omega))
            refine br_dec (fun _ => ?_) (fun q => absurd q (by omega))
            refine rdb rfl hxw ?_
            refine fin ?_
            rw [qa]; unfold hit
            rw [qb, decide_eq_true (show x ≠ k from fun q => qc (by rw [q]))]
            simp
          · dsimp only at e2
            have hjA : j = A.length := by omega
            subst hjA
            refine z_i64 (by dsimp only; omega) ?_
            refine hag2 (i + 1) _ _ ⟨?_, by omega, rfl⟩ (by omega)
            rw [ha, List.take_length]; rfl
      · dsimp only at e1
        have hin : i = M.length := by omega
        subst hin
        have lw := law k hkw
        generalize smB M k M.length = sm at *
        generalize frB M A k M.length = fr at *
        refine join_mk (fun s w' => s.1 = false ∧ bel w6 w') (fun K2 hK2 => ?_) (fun s w46 hJ _ => ?_)
        · have sk := S5.up hb
          refine call_mono (inF x5.1 A (k : Int) w13 sk) ?_
          rintro (x47 : Bool) w48 ⟨hx, h48⟩
          have hin2 : (∃ y ∈ A, (y : Int) = (k : Int)) ↔ k ∈ A := by
            constructor
            · rintro ⟨y, h1, h2⟩
              have : y = k := by omega
              subst this; exact h1
            · intro h; exact ⟨k, h, rfl⟩
          rw [hin2, lw] at hx
          refine br_mk (fun q => ?_) (fun q => ?_)
          · have hq := hx.1 q
            rw [Bool.and_eq_true] at hq
            obtain ⟨rfl, rfl⟩ := hq
            refine br_not (fun z => by cases z) (fun _ => ?_)
            refine br_not (fun z => by cases z) (fun _ => ?_)
            refine call_mono (inF x5.1 A (k : Int) w48 (sk.up h48)) ?_
            rintro (x49 : Bool) w50 ⟨hx2, h50⟩
            rw [hin2, lw] at hx2
            refine br_not (fun z => ?_) (fun _ => hK2 _ _ ⟨rfl, (hb.trans h48).trans h50⟩)
            rw [hx2.2 rfl] at z; cases z
          · refine call_mono (inF x5.1 A (k : Int) w48 (sk.up h48)) ?_
            rintro (x51 : Bool) w52 ⟨_, h52⟩
            have hb52 := (hb.trans h48).trans h52
            refine br_not (fun _ => ?_) (fun _ => hK2 _ _ ⟨rfl, hb52⟩)
            refine br_mk (fun z => hK2 _ _ ⟨?_, hb52⟩) (fun _ => hK2 _ _ ⟨rfl, hb52⟩)
            dsimp only at z ⊢
            subst z
            cases fr with
            | false => rfl
            | true => rw [hx.2 rfl] at q; cases q
        · obtain ⟨h1, h2⟩ := hJ
          obtain ⟨sv, _⟩ := s
          dsimp only at h1
          subst h1
          exact br_f rfl (hK () _ h2)
    · refine z_i64 (by dsimp only; omega) ?_
      exact hag _ hkw hJ
  · refine call_mono (awakeF w13) ?_
    rintro (x48 : Bool) w49 ⟨hx, h49⟩
    exact ⟨by rw [hx], (h.trans hb).trans h49⟩
end Go.Proofs.Ytaomejbaocehnaa

/- Arguments of the statements about suites. -/

namespace Go.Proofs.Ytaomejbaocehnaa
open Go.RowKit Go.Q Go.V

theorem bounds_i64 {n : Int} (h : (Lit.int .i64 n).wf = true) : I64 n := by
  simp only [Lit.wf, Bool.and_eq_true, decide_eq_true_eq] at h
  exact ⟨h.1, h.2⟩
set_option maxRecDepth 100000 in
theorem argTape {w : World} {v : Value} (h : Go.Q.Arg Try.prog w 22 v) : ∃ x xs, v = hv x ∧ SlI w x xs ∧ ∀ n ∈ xs, I64 n := by
  obtain ⟨a, n, c, rfl, h⟩ := Go.V.Arg.slice Try.underlying22 h
  obtain ⟨a1, n1, c1, xs, q1, _, s1, b1⟩ := Go.V.Read.ints Try.underlying22 Try.underlying3 (by kernel_rfl) h
  cases q1
  exact ⟨(a, n, c), xs, rfl, s1, fun x hx => bounds_i64 (b1 x hx)⟩
end Go.Proofs.Ytaomejbaocehnaa

/- Put and Order. -/

namespace Go.Proofs.Ytaomejbaocehnaa
open Go.RowKit Go.Q Go.V

/-- an append to what one only reads, beyond its room -/
theorem wr_appS {t e : TypeId} {z : Value} {bytes : Nat} (T : TyS Try.prog t e z 1 bytes) {w : World} {sa : Option Addr} {n c : Nat} {xs : List Value} (S : Sl w sa n c 1 xs) {ty : TypeId} {ad : Addr} {m mc : Nat} {ys : List Value} (H : Sl w (some ad) m mc 1 ys) {k : (Option Addr × Nat × Nat) → World → Prop}
    (hz : z.cells.size = 1) (hb : (n + m) * bytes ≤ 140737488355328) (hn : n + m ≤ maxLen) (hc : c < n + m)
    (hk : ∀ a' c' w', Own w' w.heap.size e 1 a' (n + m) c' (xs ++ ys) → bel w w' → k (a', n + m, c') w') :
    wr Try.prog (Builtin.append_ #[t, t] ty #[.slice sa n c, .slice (some ad) m mc]) (.one .slice) w k := by
  have hy : ∀ j u, ys[j]? = some u → w.cell? (ad.add j) = some u := fun j u hj => by
    obtain ⟨ad', q1, q2, _⟩ := H.at' j u hj
    cases q1; exact q2
  obtain ⟨i, hi0, hz0, hz1, hz2⟩ := info_parts T.hi
  have hlx := S.len
  have hly := H.len
  have hcm := grownCap_le_maxLen w (n + m) c e hn
  have hge := grownCap_ge w (n + m) c e
  have hA : ∀ cs, bel w (w.drew.alloc (.cells cs e)) := fun cs => ⟨rfl, rfl, rfl, by simp, fun k hk => Go.RowKit.Below.heap_alloc w.drew _ k hk⟩
  have hO : ∀ olds : List Value, olds = xs → Own (w.drew.alloc (.cells (olds.toArray ++ ys.toArray ++ Builtin.zeroCells z.cells (grownCap w (n + m) c e - (n + m))) e)) w.heap.size e 1 (some ⟨w.heap.size, 0, none⟩) (n + m) (grownCap w (n + m) c e) (xs ++ ys) := by
    intro olds ho
    subst ho
    have hlen : (olds ++ ys).length = (n + m) * 1 := by rw [List.length_append]; omega
    refine ⟨hlen, .inr ⟨w.heap.size, _, _, rfl, Nat.le_refl _, heap_alloc_new w.drew _, hge, hcm, ?_, ?_⟩⟩
    · simp only [Array.size_append, List.size_toArray, size_zeroCells, hz]
      omega
    · simp only [Array.toList_append, List.append_assoc]
      rw [← List.append_assoc, ← hlen]
      exact List.take_left
  cases sa with
  | none =>
    obtain ⟨n0, c0⟩ := S.nil' rfl
    subst n0 c0
    have hx : xs = [] := List.eq_nil_of_length_eq_zero (by omega)
    have hr := run_append_nil (P := Try.prog) w t ty e i z T.ht hi0 hz0 ad m mc ys (by rw [hz1]; exact hly) hy (by omega) (by unfold maxLen at hn; omega) (by rw [hz2]; rw [Nat.zero_add] at hb; omega)
    have hO' := hO [] hx.symm
    simp only [Array.empty_append, Nat.zero_add] at hO'
    refine ⟨(some ⟨w.heap.size, 0, none⟩, 0 + m, grownCap w m 0 e), _, ?_, hk _ _ _ (by simpa using hO') (hA _)⟩
    rw [Nat.zero_add]; exact hr
  | some b =>
    have hx : ∀ j u, xs[j]? = some u → w.cell? (b.add j) = some u := fun j u hj => by
      obtain ⟨ad', q1, q2, _⟩ := S.at' j u hj
      cases q1; exact q2
    have hr := run_append_grow (P := Try.prog) w t ty e i z T.ht hi0 hz0 b n c xs (by rw [hz1]; exact hlx) hx ad m mc ys (by rw [hz1]; exact hly) hy hc (by unfold maxLen at hn; omega) (growslice_fits hc (by rw [hz2]; exact hb))
    exact ⟨(some ⟨w.heap.size, 0, none⟩, n + m, grownCap w (n + m) c e), _, hr, hk _ _ _ (hO xs rfl) (hA _)⟩
/-- nothing is laid behind -/
theorem wr_app0 {t e : TypeId} {z : Value} {bytes : Nat} (T : TyS Try.prog t e z 1 bytes) {w : World} {sa : Option Addr} {n c : Nat} {ty : TypeId} {k : (Option Addr × Nat × Nat) → World → Prop} (hc : n ≤ c) (hk : k (sa, n, c) w) :
    wr Try.prog (Builtin.append_ #[t, t] ty #[.slice sa n c, .slice none 0 0]) (.one .slice) w k := by
  obtain ⟨i, hi0, hz0, hz1, hz2⟩ := info_parts T.hi
  refine ⟨(sa, n, c), w, ?_, hk⟩
  cases sa <;> simp [Builtin.append_, run_underlying T.ht, sizeOf, typeInfo, hi0, Builtin.lenOf, Builtin.firstCells, hc, storeCells] <;> rfl
theorem sl_hm {t e : TypeId} {z : Value} {bytes : Nat} (T : TyS Try.prog t e z 1 bytes) {a : Option Addr} {n c m : Nat} {i : Int} {K : Hdr → Prop} (hi : i = (m : Int)) (hm : m ≤ c) (hk : K (a, m, m)) :
    rdp Try.prog (Instr.sliceAt t (.slice a n c) none (some (.int .i64 i)) (some (.int .i64 i))) (.one .slice) K := by
  subst hi
  refine ⟨(a, m, m), fun w => ?_, hk⟩
  have ht : Try.prog.underlying t = some (.slice (Try.prog.elem t)) := by rw [T.elem]; exact T.ht
  rw [run_sliceAt_slice _ _ _ _ _ _ ht, run_slice_hm _ _ _ _ _ ht _ _ _ _ (by omega) (Int.le_refl _) (by omega), T.elem, T.size]
  simp only [Result.andThen_ok, sliced, Int.toNat_natCast, Nat.sub_zero, Nat.zero_mul]
  cases a with
  | none => simp [VS.val, Sh.val]
  | some ad => simp [VS.val, Sh.val, Go.Q.add_zero]
/-- a number is laid into a list -/
theorem insF {q : Hdr} {xs : List Nat} {w : World} (S : SlN w q xs) {x k : Nat} {xi ki : Int} (hx : xi = (x : Int)) (hk : ki = (k : Int)) (hkl : k ≤ xs.length) (hl : xs.length ≤ 1000000) {K : Hdr → World → Prop}
    (hK : ∀ q' w', OwnN w' w.heap.size q' (xs.take k ++ x :: xs.drop k) → bel w w' → K q' w') :
    wr Try.prog (Instr.buildSlice 22 1 #[(0, .int .i64 xi)]) (.one .slice) w fun (x7 : Hdr) w8 =>
    rdp Try.prog (Instr.sliceAt 22 (.slice q.1 q.2.1 q.2.2) (some (.int .i64 ki)) none none) (.one .slice) fun (x9 : Hdr) =>
    wr Try.prog (Builtin.append_ #[22, 22] 22 #[.slice x7.1 x7.2.1 x7.2.2, .slice x9.1 x9.2.1 x9.2.2]) (.one .slice) w8 fun (x10 : Hdr) w11 =>
    rdp Try.prog (Instr.sliceAt 22 (.slice q.1 q.2.1 q.2.2) none (some (.int .i64 ki)) (some (.int .i64 ki))) (.one .slice) fun (x12 : Hdr) =>
    wr Try.prog (Builtin.append_ #[22, 22] 22 #[.slice x12.1 x12.2.1 x12.2.2, .slice x10.1 x10.2.1 x10.2.2]) (.one .slice) w11 K := by
  subst hx hk
  have ln := S.nat
  have hcap := S.cap
  refine wr_lit tyI #[.int .i64 (x : Int)] (fill_one 1 (.int .i64 (x : Int)) _ rfl (by simp)) (by omega) (by omega) rfl (by unfold maxLen; omega) fun ad w8 O h8 _ _ => ?_
  replace O := O w.heap.size (Nat.le_refl _)
  refine sl_from tyI (m := k) rfl (by omega) fun x9 l9 hsl => ?_
  have S9 := hsl w8 _ (S.up h8)
  have e9 : List.drop k (nats .i64 xs) = nats .i64 (xs.drop k) := by simp [nats, List.map_drop]
  rw [e9] at S9
  have last : ∀ (x10 : Hdr) (w11 : World), OwnN w11 w.heap.size x10 (x :: xs.drop k) → bel w w11 →
      rdp Try.prog (Instr.sliceAt 22 (.slice q.1 q.2.1 q.2.2) none (some (.int .i64 (k : Int))) (some (.int .i64 (k : Int)))) (.one .slice) fun (x12 : Hdr) =>
      wr Try.prog (Builtin.append_ #[22, 22] 22 #[.slice x12.1 x12.2.1 x12.2.2, .slice x10.1 x10.2.1 x10.2.2]) (.one .slice) w11 K := by
    intro x10 w11 O10 h11
    refine sl_hm tyI (m := k) rfl (by omega) ?_
    have S12 : Sl w11 q.1 k k 1 (nats .i64 (xs.take k)) := by
      have S0 := Sl.pre (m := k) (S.up h11) (by omega)
      have e : List.take k (nats .i64 xs) = nats .i64 (xs.take k) := by simp [nats, List.map_take]
      rw [e] at S0
      have c1 := S0.cap
      have c2 := S0.most
      exact ⟨S0.len, Nat.le_refl _, by omega, fun e => ⟨(S0.nil' e).1, (S0.nil' e).1⟩, S0.at'⟩
    obtain ⟨a10, n10, c10⟩ := x10
    have l10 := O10.sl.nat
    have l10 : (x :: xs.drop k).length = n10 := l10
    cases a10 with
    | none => have := (O10.sl.nil' rfl).1; simp at l10; dsimp only at this; omega
    | some ad10 =>
      simp at l10
      have S10 : Sl w11 (some ad10) n10 c10 1 (nats .i64 (x :: xs.drop k)) := O10.sl
      refine wr_appS tyI S12 S10 rfl (by omega) (by unfold maxLen; omega) (by omega) fun a' c' w' O' hb' => ?_
      refine hK (a', k + n10, c') w' ?_ (h11.trans hb')
      show Own w' _ _ 1 a' (k + n10) c' (nats .i64 (xs.take k ++ x :: xs.drop k))
      rw [nats_app]
      exact own_base O' h11.size
  obtain ⟨a9, n9, c9⟩ := x9
  cases a9 with
  | none =>
    obtain ⟨z1, z2⟩ := S9.nil' rfl
    dsimp only at z1 z2
    subst z1 z2
    have l0 := S9.nat
    have hd : xs.drop k = [] := List.eq_nil_of_length_eq_zero l0
    refine wr_app0 tyI (Nat.le_refl 1) ?_
    refine last (some ad, 1, 1) w8 ?_ h8
    rw [hd]; exact O
  | some ad9 =>
    have l0 : (xs.drop k).length = n9 := S9.nat
    rw [List.length_drop] at l0
    refine wr_app tyI O S9 h8.size rfl (by omega) (plain_nats _) (by omega) (by unfold maxLen; omega) fun a' c' w11 O' hg _ _ => ?_
    exact last (a', 1 + n9, c') w11 O' (h8.grown hg fun b hb => (O.lt b hb).1)
theorem asc_take {n : Nat} : ∀ {a : Nat} {xs : List Nat} (k : Nat), Asc n a xs → Asc n a (xs.take k)
  | _, [], k, _ => by simp [Asc]
  | a, x :: xs, 0, _ => trivial
  | a, x :: xs, k + 1, h => ⟨h.1, h.2.1, asc_take k h.2.2⟩
theorem asc_drop {n : Nat} : ∀ {a : Nat} {xs : List Nat} {k y : Nat}, Asc n a xs → xs[k]? = some y → Asc n y (xs.drop k)
  | a, x :: xs, 0, y, h, hy => by
    simp at hy; subst hy
    exact ⟨Nat.le_refl _, h.2⟩
  | a, x :: xs, k + 1, y, h, hy => by
    rw [List.drop_succ_cons]
    exact asc_drop h.2.2 (by simpa using hy)
/-- what Put returns -/
theorem putF (q : Hdr) (xs : List Nat) (x n : Nat) (w : World) (S : SlN w q xs) (hA : Asc n 0 xs) (hx : x < n) (hn : n ≤ 1000) :
    call Try.prog 32 [.slice q.1 q.2.1 q.2.2, .int .i64 (x : Int)] (.one (.one .slice)) w (fun (r : Hdr) w' => ∃ ys, SlN w' r ys ∧ Asc n 0 ys ∧ (∀ z ∈ xs, z ∈ ys) ∧ bel w w') := by
  refine call_of (S32_calls q.1 q.2.1 q.2.2 (x : Int) w _ ?_)
  unfold S32
  have hl := S.nat
  have hle := S.le
  have hal := hA.len (Nat.zero_le _)
  refine join_mk (fun s w' => ∃ k : Nat, s.1 = (k : Int) ∧ k ≤ xs.length ∧ (∀ j, j < k → ∀ y, xs[j]? = some y → y < x) ∧ (∀ y, xs[k]? = some y → x ≤ y) ∧ w = w') (fun K hK => ?_) (fun s w3 hJ _ => ?_)
  · refine loop_up xs.length (fun i w' => w = w' ∧ ∀ j, j < i → ∀ y, xs[j]? = some y → y < x) ⟨rfl, fun j hj => by omega⟩ fun i w19 hi ⟨hw, hp⟩ again hag _ => ?_
    subst hw
    refine br_dec (fun e => ?_) (fun e => ?_)
    · dsimp only at e
      refine nat_mk S rfl (by omega) fun y hy => ?_
      refine br_dec (fun e1 => ?_) (fun e1 => ?_)
      · refine z_i64 (by dsimp only; omega) ?_
        exact hag _ (by omega) ⟨rfl, pre_step hp hy (by omega)⟩
      · exact hK _ _ ⟨i, rfl, by omega, hp, fun z hz => by rw [hy] at hz; injection hz with hz; omega, rfl⟩
    · dsimp only at e
      exact hK _ _ ⟨i, rfl, hi, hp, fun z hz => by have := (List.getElem?_eq_some_iff.1 hz).1; omega, rfl⟩
  · obtain ⟨k, hs, hk, hp, hge, rfl⟩ := hJ
    obtain ⟨sv, _⟩ := s
    dsimp only at hs
    subst hs
    refine join_mk (fun _ w' => (∀ y, xs[k]? = some y → x < y) ∧ w = w') (fun K hK => ?_) (fun _ w6 hJ _ => ?_)
    · refine br_dec (fun e => ?_) (fun e => hK () _ ⟨fun y hy => by have := (List.getElem?_eq_some_iff.1 hy).1; dsimp only at e; omega, rfl⟩)
      dsimp only at e
      refine nat_mk S rfl (by omega) fun y hy => ?_
      refine br_eq (fun e1 => ?_) (fun e1 => hK () _ ⟨fun y' hy' => by rw [hy] at hy'; injection hy' with hy'; have := hge y hy; omega, rfl⟩)
      exact ⟨q, rfl, xs, S, hA, fun _ h => h, bel.refl _⟩
    · obtain ⟨hgt, rfl⟩ := hJ
      refine insF S (x := x) (k := k) rfl rfl hk (by omega) fun q' w' O' hb => ?_
      refine ⟨q', rfl, _, O'.sl, ?_, fun z hz => ?_, hb⟩
      · refine asc_app (b := x) (asc_take k hA) (fun y hy => ?_) (Nat.zero_le _) ⟨Nat.le_refl _, hx, ?_⟩
        · obtain ⟨j, hj, rfl⟩ := List.mem_iff_getElem.1 hy
          rw [List.getElem_take]
          rw [List.length_take] at hj
          exact hp j (by omega) _ (List.getElem?_eq_getElem (by omega))
        · cases hky : xs[k]? with
          | none =>
            rw [List.getElem?_eq_none_iff] at hky
            rw [List.drop_of_length_le hky]; trivial
          | some y =>
            exact (asc_drop hA hky).mono (hgt y hky)
      · rw [← List.take_append_drop k xs] at hz
        rcases List.mem_append.1 hz with h | h
        · exact List.mem_append.2 (.inl h)
        · exact List.mem_append.2 (.inr (List.mem_cons_of_mem _ h))
/-- what Order returns -/
theorem orderF {w : World} {tb : Addr} {l : Hdr} {L : List Int} {p : Nat} (n : Nat) (ht : Tape w tb l L p) (hn : n ≤ 1000) :
    call Try.prog 17 [.pointer (some tb), .int .i64 (n : Int)] (.one (.one .slice)) w (fun (r : Hdr) w' => ∃ ys, OwnN w' w.heap.size r ys ∧ ys.length = n ∧ (∀ z, z ∈ ys ↔ z < n) ∧ (∃ p', Tape w' tb l L p') ∧ w.grownBy w' (some tb.block)) := by
  refine call_of (S17_calls (some tb) (n : Int) w _ ?_)
  unfold S17
  have htb := ht.box.lt
  refine loop_upA n (fun i q w' => ∃ ys, OwnN w' w.heap.size q ys ∧ ys.length = i ∧ (∀ z, z ∈ ys ↔ z < i) ∧ (∃ p', Tape w' tb l L p') ∧ w.grownBy w' (some tb.block)) ⟨[], Own.nil _ _ _ _, rfl, by simp, ⟨p, ht⟩, grown_refl _ _⟩ fun i q w3 hi ⟨ys, O, hyl, hym, ⟨p', ht⟩, hg⟩ again hag _ => ?_
  have lq := O.sl.nat
  refine br_dec (fun e => ?_) (fun e => ?_)
  · dsimp only at e
    refine z_i64 (by dsimp only; omega) ?_
    refine call_mono (nF (((q.2.1 : Nat) : Int) + 1) ht (by omega)) ?_
    rintro (x5 : Int) w6 ⟨hx5, ⟨p'', ht⟩, g6⟩
    have O6 : OwnN w6 w.heap.size q ys := Own.xg O g6 htb
    have s6 := (hg.trans g6).size
    refine insF (Own.sl O6) (x := i) (k := x5.toNat) rfl (by omega) (by omega) (by omega) fun q' w' O' hb => ?_
    refine z_i64 (by dsimp only; omega) ?_
    refine hag q' _ (by omega) ⟨_, own_base O' s6, by simp; omega, fun z => ?_, ⟨p'', ht.up hb⟩, (hg.trans g6).trans (grown_of_bel hb _)⟩
    have hmem : z ∈ ys.take x5.toNat ++ i :: ys.drop x5.toNat ↔ z = i ∨ z ∈ ys := by
      conv => rhs; rw [← List.take_append_drop x5.toNat ys]
      simp only [List.mem_append, List.mem_cons]
      constructor
      · rintro (h | h | h)
        · exact .inr (.inl h)
        · exact .inl h
        · exact .inr (.inr h)
      · rintro (h | h | h)
        · exact .inr (.inl h)
        · exact .inl h
        · exact .inr (.inr h)
    rw [hmem, hym]; omega
  · dsimp only at e
    have hin : i = n := by omega
    subst hin
    exact ⟨q, rfl, ys, O, hyl, hym, ⟨p', ht⟩, hg⟩
end Go.Proofs.Ytaomejbaocehnaa

/- The walk of SuiteSurvives. -/

namespace Go.Proofs.Ytaomejbaocehnaa
open Go.RowKit Go.Q Go.V

theorem surv_mem {L : List Nat} {s k : Nat} : k ∈ surv L s ↔ k < L.length ∧ (L.getD k 0) &&& s = 0 := by
  unfold surv
  rw [List.mem_filter, List.mem_range]
  simp
theorem surv_sub {L : List Nat} {s t : Nat} (h : ∀ i, s.testBit i = true → t.testBit i = true) {k : Nat} (hk : k ∈ surv L t) : k ∈ surv L s := by
  rw [surv_mem] at hk ⊢
  refine ⟨hk.1, and_eq0.2 fun i hi => ?_⟩
  have := and_eq0.1 hk.2 i hi
  cases hs : s.testBit i with
  | false => rfl
  | true => rw [h i hs] at this; cases this
/-- a choice covers exactly if as many columns survive it as survive all rows -/
theorem surv_cov {L : List Nat} {n s a : Nat} (hL : ∀ c ∈ L, c < 2 ^ n) (ha : ∀ i, i < n → a.testBit i = true) : covB L s = true ↔ (surv L s).length = (surv L a).length := by
  have hsub : ∀ k ∈ List.range L.length, ((L.getD k 0) &&& a == 0) = true → ((L.getD k 0) &&& s == 0) = true := fun k _ h => by
    simp at h ⊢
    refine and_eq0.2 fun i hi => ?_
    have hin : i < n := by
      rcases Nat.lt_or_ge i n with q | q
      · exact q
      · have hc : (L[k]?.getD 0) < 2 ^ n := by
          cases hk : L[k]? with
          | none => exact Nat.two_pow_pos n
          | some c => exact hL c (List.mem_of_getElem? hk)
        rw [bit_out hc q] at hi; cases hi
    have := and_eq0.1 h i hi
    rw [ha i hin] at this; cases this
  constructor
  · intro hc
    unfold surv
    congr 1
    refine List.filter_congr fun k hk => ?_
    have hk := List.mem_range.1 hk
    have hg : L.getD k 0 = L[k] := by rw [List.getD_eq_getElem?_getD, List.getElem?_eq_getElem hk]; rfl
    have hm : L[k] ∈ L := List.getElem_mem hk
    rw [hg]
    by_cases h0 : L[k] = 0
    · simp [h0]
    · have h1 := covB_iff.1 hc _ hm h0
      have h2 : L[k] &&& a ≠ 0 := by
        obtain ⟨i, hi⟩ := ne_zero_bit.1 h0
        have hin : i < n := by
          rcases Nat.lt_or_ge i n with q | q
          · exact q
          · rw [bit_out (hL _ hm) q] at hi; cases hi
        exact and_ne.2 ⟨i, hi, ha i hin⟩
      rw [beq_eq_false_iff_ne.2 h1, beq_eq_false_iff_ne.2 h2]
  · intro hlen
    apply Classical.byContradiction
    intro hc
    have h1 : ∃ c ∈ L, c ≠ 0 ∧ c &&& s = 0 := by
      apply Classical.byContradiction
      intro q
      exact hc (covB_iff.2 fun c hm h0 e => q ⟨c, hm, h0, e⟩)
    obtain ⟨c, hm, h0, hcs⟩ := h1
    obtain ⟨k, hk, rfl⟩ := List.mem_iff_getElem.1 hm
    have hg : L.getD k 0 = L[k] := by rw [List.getD_eq_getElem?_getD, List.getElem?_eq_getElem hk]; rfl
    have := filter_lt hsub ⟨k, List.mem_range.2 hk, by rw [hg]; simp [hcs], by
      rw [hg]
      obtain ⟨i, hi⟩ := ne_zero_bit.1 h0
      have hin : i < n := by
        rcases Nat.lt_or_ge i n with q | q
        · exact q
        · rw [bit_out (hL _ hm) q] at hi; cases hi
      exact beq_eq_false_iff_ne.2 (and_ne.2 ⟨i, hi, ha i hin⟩)⟩
    unfold surv at hlen
    omega
theorem SurvR.get {M : List (List Bool)} {ys : List Nat} {w0 : World} {x : HI} {w : World} (h : SurvR M (ys.map fun k : Nat => (k : Int)) w0 x w) (V : ValidM M) (hA : Asc M.length 0 ys) : x.2.1 = 0 ∧ OwnN w w0.heap.size x.1 (surv (masks M) (bitsOf ys)) := by
  rcases h with ⟨q1, _, zs, z1, z2, z3⟩ | ⟨_, _, q⟩
  · rw [map_inj z1]; exact ⟨q1, z3⟩
  · exact absurd ⟨V, ys, rfl, hA⟩ q
theorem slI_of {w : World} {h : Hdr} {xs : List Nat} (S : SlN w h xs) : SlI w h (xs.map fun k : Nat => (k : Int)) := by
  show Sl _ _ _ _ _ (ints .i64 _)
  rw [← nats_ints]; exact S
/-- all of a list are in another one -/
theorem all_in {x29 x22 : Hdr} {A B : List Nat} {w32 : World} (S29 : SlN w32 x29 A) (S22 : SlN w32 x22 B) (hAB : ∀ k ∈ A, k ∈ B) {K : World → Prop} {R : Value → World → Prop} (hK : ∀ w', bel w32 w' → K w') :
    loop (T := (Int × Unit)) (0, ()) w32 fun (again33 : (Int × Unit) → World → Prop) (s34 : (Int × Unit)) w35 => ∀ _ : Nat → Value,
      br (decide (s34.1 < ((x29.2.1 : Nat) : Int))) (rdp Try.prog (Instr.indexAt 22 (.slice x29.1 x29.2.1 x29.2.2) (.int .i64 s34.1)) (.one .addr) fun (x36 : Addr) =>
      rd Try.prog (Instr.loadAt 3 (.pointer (some x36))) (.one (.int .i64)) w35 fun (x37 : Int) =>
      call Try.prog 15 [.slice x22.1 x22.2.1 x22.2.2, .int .i64 x37] (.one (.one .bool)) w35 fun (x38 : Bool) (w39 : World) =>
      br (!x38) (R (.bool false) w39)
      (z (IntKind.wrap .i64 (s34.1 + 1)) fun (z40 : Int) =>
      again33 (z40, ()) w39))
      (K w35) := by
  have hl := S29.nat
  have hle := S29.le
  refine loop_up A.length (fun i w' => bel w32 w') (bel.refl _) fun i w35 hi hb again hag _ => ?_
  refine br_dec (fun e => ?_) (fun e => hK _ hb)
  dsimp only at e
  refine nat_mk (S29.up hb) rfl (by omega) fun x hx => ?_
  refine call_mono (inF x22 B (x : Int) w35 (S22.up hb)) ?_
  rintro (x38 : Bool) w39 ⟨hx38, h39⟩
  refine br_not (fun q => ?_) (fun _ => ?_)
  · rw [hx38.2 ⟨x, hAB x (List.mem_of_getElem? hx), rfl⟩] at q; cases q
  · refine z_i64 (by dsimp only; omega) ?_
    exact hag _ (by omega) (hb.trans h39)
set_option maxHeartbeats 3200000 in
theorem suSurvives (l : Hdr) (L : List Int) (w : World) (HL : SlI w l L) (hI : ∀ x ∈ L, I64 x) :
    Calls Try.prog 7 #[.slice l.1 l.2.1 l.2.2] w (fun e w' => e = .returned (.bool true) ∧ Below w.heap.size w w') := by
  refine Calls.mono (S7_calls l.1 l.2.1 l.2.2 w (fun v w' => v = .bool true ∧ bel w w') ?_) (by rintro e w' ⟨v, rfl, rfl, hb⟩; exact ⟨rfl, hb⟩)
  unfold S7
  refine call_mono (newF l L w HL hI) ?_
  rintro _ w2 ⟨tb, l', L', rfl, etb, ht, h2⟩
  have htb2 := ht.box.lt
  refine call_mono (matrixF 7 20 ht (by omega) (by omega)) ?_
  rintro (x3 : Hdr) w4 ⟨M, hs, n, HM, hM1, hM2, hM3, ⟨p4, ht⟩, g4⟩
  have V := MatR.valid hM1 hM2 hM3 (by omega) (by omega)
  have h4 : bel w w4 := h2.grownAt g4 (by omega)
  have v1 := V.n
  have hl := HM.hl
  have s24 := g4.size
  refine loop_gh (G := Nat × List Nat) (fun g s w' => s.2.2 = ((g.1 : Int), ()) ∧ g.1 ≤ M.length ∧ OwnN w' w4.heap.size s.1 g.2 ∧ OwnN w' w4.heap.size s.2.1 (List.range g.1) ∧ (∀ k, blk s.1.1 = some k → blk s.2.1.1 ≠ some k) ∧ Asc M.length 0 g.2 ∧ (∀ x ∈ g.2, x < g.1) ∧ (∃ p', Tape w' tb l' L' p') ∧ w4.grownBy w' (some tb.block)) (fun g => M.length - g.1) (0, [])
    ⟨rfl, Nat.zero_le _, Own.nil _ _ _ _, Own.nil _ _ _ _, (fun k hk => by cases hk), trivial, by simp, ⟨p4, ht⟩, grown_refl _ _⟩ ?_
  rintro ⟨k, ys⟩ ⟨ql, qa, s⟩ w7 ⟨rfl, hk, Ol, Oa, hap, hasc, hlt, ⟨p', ht⟩, hg⟩ again hag _
  dsimp only at hk Ol Oa hap hasc hlt hag
  have ll := Ol.sl.nat
  have la := Oa.sl.nat
  rw [List.length_range] at la
  have hal := hasc.len (Nat.zero_le _)
  have s7 := hg.size
  refine br_dec (fun e => ?_) (fun e => ?_)
  · dsimp only at e
    have hkM : k < M.length := by omega
    refine join_mk (fun s w' => ∃ ys', OwnN w' w4.heap.size s.1 ys' ∧ OwnN w' w4.heap.size s.2.1 (List.range (k + 1)) ∧ (∀ k, blk s.1.1 = some k → blk s.2.1.1 ≠ some k) ∧ Asc M.length 0 ys' ∧ (∀ x ∈ ys', x < k + 1) ∧ (∃ p', Tape w' tb l' L' p') ∧ w4.grownBy w' (some tb.block)) (fun K hK => ?_) (fun s w10 hJ _ => ?_)
    · refine wr_app1 tyI Oa (by omega) rfl (by omega) (by omega) rfl rfl (by omega) (by unfold maxLen; omega) fun a' c' w15 O15 g15 n15 s15 => ?_
      have O15' : OwnN w15 w4.heap.size (a', qa.2.1 + 1, c') (List.range (k + 1)) := by
        show Own w15 _ _ 1 a' (qa.2.1 + 1) c' (nats .i64 (List.range (k + 1)))
        rw [List.range_succ, nats_snoc]; exact O15
      have hqa : ∀ c, blk qa.1 = some c → w4.heap.size ≤ c := fun c hc => (Oa.lt c hc).1
      have Ol15 : OwnN w15 w4.heap.size ql ys := own_keep Ol g15 (fun c hc e => hap c hc e)
      have hap15 : ∀ c, blk ql.1 = some c → blk a' ≠ some c := fun c hc e => by
        rcases n15 with q | q
        · exact hap c hc (by rw [← q]; exact e)
        · have := q c e; have := (Ol.lt c hc).2; omega
      have ht15 := ht.put g15 (fun c hc => by have := hqa c hc; omega)
      have hg15 : w4.grownBy w15 (some tb.block) := xg_put hg g15 (fun c hc => .inl (hqa c hc))
      refine call_mono (nF 2 ht15 (by omega)) ?_
      rintro (x16 : Int) w17 ⟨_, ⟨p'', ht17⟩, g17⟩
      have O17 : OwnN w17 w4.heap.size (a', qa.2.1 + 1, c') (List.range (k + 1)) := Own.xg O15' g17 (by omega)
      have Ol17 : OwnN w17 w4.heap.size ql ys := Own.xg Ol15 g17 (by omega)
      have hg17 := hg15.trans g17
      have s17 := hg17.size
      refine br_eq (fun _ => ?_) (fun _ => hK _ _ ⟨ys, Ol17, O17, hap15, hasc, fun x hx => by have := hlt x hx; omega, ⟨p'', ht17⟩, hg17⟩)
      refine wr_app1 tyI Ol17 (by omega) rfl (by omega) (by omega) rfl rfl (by omega) (by unfold maxLen; omega) fun a2 c2 w21 O21 g21 n21 s21 => ?_
      have hql : ∀ c, blk ql.1 = some c → w4.heap.size ≤ c := fun c hc => (Ol17.lt c hc).1
      refine hK _ _ ⟨ys ++ [k], ?_, own_keep O17 g21 (fun c hc e => hap15 c e hc), fun c hc e => ?_, asc_snoc hasc hkM (Nat.zero_le _) hlt, fun x hx => ?_, ⟨p'', ht17.put g21 (fun c hc => by have := hql c hc; omega)⟩, xg_put hg17 g21 (fun c hc => .inl (hql c hc))⟩
      · show Own w21 _ _ 1 a2 (ql.2.1 + 1) c2 (nats .i64 (ys ++ [k]))
        rw [nats_snoc]; exact O21
      · rcases n21 with q | q
        · exact hap15 c (by rw [← q]; exact hc) e
        · have := q c hc; have := (O17.lt c e).2; omega
      · rcases List.mem_append.1 hx with hx | hx
        · have := hlt x hx; omega
        · simp at hx; omega
    · obtain ⟨ys', j1, j2, j3, j4, j5, j6, j7⟩ := hJ
      obtain ⟨s1, s2, _⟩ := s
      refine z_i64 (by dsimp only; omega) ?_
      exact hag (k + 1, ys') _ _ ⟨rfl, hkM, j1, j2, j3, j4, j5, j6, j7⟩ (by dsimp only; omega)
  dsimp only at e
  have hkM : k = M.length := by omega
  subst hkM
  clear hag again
  have HM7 := (HM.xg hg htb2)
  have T7 := HM7.tab
  have b7 : bel w w7 := h4.grownAt hg (by omega)
  have ascR : Asc M.length 0 (List.range M.length) := by
    have := asc_filter M.length fun _ => true
    rwa [List.filter_eq_self.2 (by simp)] at this
  refine call_mono (SurvF x3 ql M _ w7 T7 (slI_of Ol.sl)) ?_
  rintro (x22 : HI) w23 ⟨R22, h23⟩
  obtain ⟨e22, P22⟩ := R22.get V hasc
  refine call_mono (SurvF x3 qa M _ w23 (T7.up h23) (slI_of (Oa.sl.up h23))) ?_
  rintro (x24 : HI) w25 ⟨R24, h25⟩
  obtain ⟨e24, P24⟩ := R24.get V ascR
  have h725 := h23.trans h25
  have s25 := h725.size
  have P22' : OwnN w25 w7.heap.size x22.1 _ := Own.kept P22 h25
  have s723 := h23.size
  refine join_mk (fun s w' => ∃ zs, SlN w' s.1 zs ∧ Asc M.length 0 zs ∧ (∀ z ∈ ys, z ∈ zs) ∧ TabB w' x3 M ∧ OwnN w' w7.heap.size x22.1 (surv (masks M) (bitsOf ys)) ∧ OwnN w' w23.heap.size x24.1 (surv (masks M) (bitsOf (List.range M.length))) ∧ SlN w' ql ys ∧ bel w w') (fun K hK => ?_) (fun s w28 hJ _ => ?_)
  · refine br_dec (fun e1 => ?_) (fun _ => hK _ _ ⟨ys, Ol.sl.up h725, hasc, fun _ h => h, T7.up h725, P22', P24, Ol.sl.up h725, b7.trans h725⟩)
    refine call_mono (nF ((x3.2.1 : Nat) : Int) (ht.up h725) (by omega)) ?_
    rintro (x51 : Int) w52 ⟨hx51, _, g52⟩
    obtain ⟨x, rfl⟩ : ∃ x : Nat, x51 = (x : Int) := ⟨x51.toNat, by omega⟩
    have Ol52 : OwnN w52 w4.heap.size ql ys := Own.xg (Own.kept Ol h725) g52 (by omega)
    refine call_mono (putF ql ys x M.length w52 Ol52.sl hasc (by omega) (by omega)) ?_
    rintro (x53 : Hdr) w54 ⟨zs, z1, z2, z3, h54⟩
    have htb7 : tb.block < w7.heap.size := by omega
    exact hK _ _ ⟨zs, z1, z2, z3, (((HM7.up h725).xg g52 htb2).up h54).tab, Own.kept (Own.xg P22' g52 htb7) h54, Own.kept (Own.xg P24 g52 (by omega)) h54, Ol52.sl.up h54, ((b7.trans h725).grownAt g52 (by omega)).trans h54⟩
  · obtain ⟨zs, z1, z2, z3, T28, P22, P24, Sl28, hb28⟩ := hJ
    obtain ⟨sq, _⟩ := s
    dsimp only at z1
    refine call_mono (SurvF x3 sq M _ w28 T28 (slI_of z1)) ?_
    rintro (x29 : HI) w30 ⟨R29, h30⟩
    obtain ⟨e29, P29⟩ := R29.get V z2
    refine br_ne (fun q => absurd e22 q) (fun _ => ?_)
    refine br_ne (fun q => absurd e24 q) (fun _ => ?_)
    refine br_ne (fun q => absurd e29 q) (fun _ => ?_)
    refine call_mono (CoversF x3 ql M _ w30 (T28.up h30) (slI_of (Sl28.up h30))) ?_
    rintro (x31 : Bool) w32 ⟨hx, h32⟩
    have S22 := (Own.sl P22).up (h30.trans h32)
    have S24 := (Own.sl P24).up (h30.trans h32)
    have S29 := (Own.sl P29).up h32
    have l22 := S22.nat
    have l24 := S24.nat
    have hmask := masks_lt (M := M)
    have hcov := surv_cov (s := bitsOf ys) (a := bitsOf (List.range M.length)) hmask (fun i hi => by rw [bits_bit]; simpa using hi)
    have hx' : x31 = ((((x22.1.2.1 : Nat) : Int)) == ((x24.1.2.1 : Nat) : Int)) := by
      have h1 : x31 = true ↔ (surv (masks M) (bitsOf ys)).length = (surv (masks M) (bitsOf (List.range M.length))).length := by
        refine hx.trans (Iff.trans ?_ hcov)
        constructor
        · rintro ⟨_, zs, q1, q2, q3⟩
          rw [map_inj q1]; exact q3
        · intro q; exact ⟨V, ys, rfl, hasc, q⟩
      rw [l22, l24] at h1
      cases x31 with
      | true => have := h1.1 rfl; simp; omega
      | false =>
        symm
        rw [beq_eq_false_iff_ne]
        intro q
        have := h1.2 (by omega)
        cases this
    refine br_not (fun q => ?_) (fun _ => ?_)
    · rw [hx'] at q; simp at q
    have hsub1 : ∀ k ∈ surv (masks M) (bitsOf zs), k ∈ surv (masks M) (bitsOf ys) := fun k hk => surv_sub (fun i hi => by rw [bits_bit] at hi ⊢; simp at hi ⊢; exact z3 i hi) hk
    have hsub2 : ∀ k ∈ surv (masks M) (bitsOf (List.range M.length)), k ∈ surv (masks M) (bitsOf ys) := fun k hk => surv_sub (fun i hi => by rw [bits_bit] at hi ⊢; simp at hi ⊢; exact (hasc.lt i hi).2) hk
    refine all_in (R := fun v w' => v = .bool true ∧ bel w w') S29 S22 hsub1 fun w35 h35 => ?_
    refine all_in (R := fun v w' => v = .bool true ∧ bel w w') (S24.up h35) (S22.up h35) hsub2 fun w43 h43 => ?_
    refine call_mono (awakeF w43) ?_
    rintro (x48 : Bool) w49 ⟨hx, h49⟩
    exact ⟨by rw [hx], ((((hb28.trans h30).trans h32).trans h35).trans h43).trans h49⟩
end Go.Proofs.Ytaomejbaocehnaa

/- The walk of SuiteOrder. -/

namespace Go.Proofs.Ytaomejbaocehnaa
open Go.RowKit Go.Q Go.V

theorem covB_congr {A B : List Nat} (h : ∀ c, c ≠ 0 → (c ∈ A ↔ c ∈ B)) (s : Nat) : covB A s = covB B s := by
  have key : ∀ {A B : List Nat}, (∀ c, c ≠ 0 → (c ∈ A ↔ c ∈ B)) → covB A s = true → covB B s = true := fun {A B} h hc => covB_iff.2 fun c hm h0 => covB_iff.1 hc c ((h c h0).2 hm) h0
  cases hA : covB A s with
  | true => exact (key h hA).symm
  | false =>
    cases hB : covB B s with
    | false => rfl
    | true => rw [key (fun c h0 => (h c h0).symm) hB] at hA; cases hA
theorem least_congr {A B : List Nat} (h : ∀ c, c ≠ 0 → (c ∈ A ↔ c ∈ B)) (n : Nat) : least (covC A) n = least (covC B) n := by
  unfold least
  congr 2
  funext k
  exact choose_congr (fun xs => covB_congr h _) _ _ _
theorem need_congr {A B : List Nat} (h : ∀ c, c ≠ 0 → (c ∈ A ↔ c ∈ B)) (n : Nat) : needN A n = needN B n := by
  unfold needN
  refine List.filter_congr fun r _ => ?_
  have h0 : 2 ^ r ≠ 0 := by have := Nat.two_pow_pos r; omega
  exact decide_eq_decide.2 (h _ h0)
theorem msk_congr {M T : List (List Bool)} {k k' : Nat} : ∀ {n : Nat}, (∀ i, i < n → bm T i k = bm M i k') → msk T n k = msk M n k'
  | 0, _ => rfl
  | n + 1, h => by
    unfold msk
    rw [h n (by omega), msk_congr (fun i hi => h i (by omega))]
theorem bm_map {M : List (List Bool)} (g : List Bool → List Bool) {i k : Nat} {r : List Bool} (h : M[i]? = some r) : bm (M.map g) i k = (g r).getD k false := by
  unfold bm
  rw [List.getD_eq_getElem?_getD (l := M.map g), List.getElem?_map, h]; rfl
theorem bm_row {M : List (List Bool)} {i k : Nat} {r : List Bool} (h : M[i]? = some r) : bm M i k = r.getD k false := by
  unfold bm
  rw [List.getD_eq_getElem?_getD (l := M), h]; rfl
def turn (ord : List Nat) (r : List Bool) : List Bool := ord.map fun k => r.getD k false
def more (t : Nat) (r : List Bool) : List Bool := r ++ [r.getD t false, false]
section
variable {M : List (List Bool)}
theorem width_map (g : List Bool → List Bool) (h0 : 0 < M.length) {w : Nat} (hg : ∀ r ∈ M, (g r).length = w) : width (M.map g) = w := by
  have hr : M[0]? = some (M[0]) := List.getElem?_eq_getElem h0
  rw [width_at (r := g M[0]) (by rw [List.getElem?_map, hr]; rfl)]
  exact hg _ (mem_at hr)
theorem turn_masks {ord : List Nat} (h0 : 0 < M.length) (hl : ord.length = width M) (ho : ∀ z, z ∈ ord ↔ z < width M) : ∀ c, c ≠ 0 → (c ∈ masks M ↔ c ∈ masks (M.map (turn ord))) := by
  have hw : width (M.map (turn ord)) = width M := by rw [width_map (turn ord) h0 (w := ord.length) fun r _ => by simp [turn]]; exact hl
  have hm : ∀ k (hk : k < ord.length), msk (M.map (turn ord)) M.length k = msk M M.length ord[k] := fun k hk => msk_congr fun i hi => by
    have hr : M[i]? = some M[i] := List.getElem?_eq_getElem hi
    rw [bm_map _ hr, bm_row hr]
    unfold turn
    rw [List.getD_eq_getElem?_getD, List.getElem?_map, List.getElem?_eq_getElem hk]; rfl
  intro c _
  unfold masks
  rw [hw, List.length_map, List.mem_map, List.mem_map]
  constructor
  · rintro ⟨k, hk, rfl⟩
    have hk := List.mem_range.1 hk
    obtain ⟨j, hj, e⟩ := List.mem_iff_getElem.1 ((ho k).2 hk)
    exact ⟨j, List.mem_range.2 (by omega), by rw [hm j hj, e]⟩
  · rintro ⟨k, hk, rfl⟩
    have hk := List.mem_range.1 hk
    have hk' : k < ord.length := by omega
    exact ⟨ord[k], List.mem_range.2 ((ho _).1 (List.getElem_mem hk')), (hm k hk').symm⟩
theorem more_masks {t : Nat} (V : ValidM M) (h0 : 0 < M.length) (ht : t < width M) : ∀ c, c ≠ 0 → (c ∈ masks M ↔ c ∈ masks (M.map (more t))) := by
  have hw : width (M.map (more t)) = width M + 2 := width_map (more t) h0 fun r hr => by simp [more, (V.row r hr).1]
  have hm : ∀ k, msk (M.map (more t)) M.length k = if k < width M then msk M M.length k else if k = width M then msk M M.length t else 0 := fun k => by
    have row : ∀ i (hi : i < M.length), bm (M.map (more t)) i k = if k < width M then bm M i k else if k = width M then bm M i t else false := fun i hi => by
      have hr : M[i]? = some M[i] := List.getElem?_eq_getElem hi
      have hl := (V.row _ (mem_at hr)).1
      rw [bm_map _ hr, bm_row hr, bm_row hr]
      unfold more
      rw [List.getD_eq_getElem?_getD]
      by_cases h1 : k < width M
      · rw [if_pos h1, List.getElem?_append_left (by omega), List.getD_eq_getElem?_getD]
      · rw [if_neg h1, List.getElem?_append_right (by omega), hl]
        by_cases h2 : k = width M
        · subst h2; simp
        · rw [if_neg h2]
          have : k - width M = (k - width M - 1) + 1 := by omega
          rw [this, List.getElem?_cons_succ]
          rcases Nat.eq_zero_or_pos (k - width M - 1) with z | z
          · rw [z]; rfl
          · rw [List.getElem?_eq_none (by simp; omega)]; rfl
    by_cases h1 : k < width M
    · rw [if_pos h1]
      exact msk_congr fun i hi => by rw [row i hi, if_pos h1]
    · rw [if_neg h1]
      by_cases h2 : k = width M
      · rw [if_pos h2]
        exact msk_congr fun i hi => by rw [row i hi, if_neg h1, if_pos h2]
      · rw [if_neg h2]
        have : ∀ n, n ≤ M.length → msk (M.map (more t)) n k = 0 := by
          intro n
          induction n with
          | zero => intro _; rfl
          | succ n ih =>
            intro hn
            unfold msk
            rw [row n (by omega), if_neg h1, if_neg h2, ih (by omega)]; rfl
        exact this _ (Nat.le_refl _)
  intro c hc
  unfold masks
  rw [hw, List.length_map, List.mem_map, List.mem_map]
  constructor
  · rintro ⟨k, hk, rfl⟩
    have hk := List.mem_range.1 hk
    exact ⟨k, List.mem_range.2 (by omega), by rw [hm, if_pos hk]⟩
  · rintro ⟨k, _, rfl⟩
    rw [hm] at hc ⊢
    by_cases h1 : k < width M
    · rw [if_pos h1]; exact ⟨k, List.mem_range.2 h1, rfl⟩
    · rw [if_neg h1] at hc ⊢
      by_cases h2 : k = width M
      · rw [if_pos h2]; exact ⟨t, List.mem_range.2 ht, rfl⟩
      · rw [if_neg h2] at hc; exact absurd rfl hc
theorem map_valid (V : ValidM M) (g : List Bool → List Bool) {w : Nat} (hw : w ≤ 400) (hg : ∀ r ∈ M, (g r).length = w) : ValidM (M.map g) := by
  refine ⟨by rw [List.length_map]; exact V.n, fun r hr => ?_⟩
  obtain ⟨q, hq, rfl⟩ := List.mem_map.1 hr
  have h0 : 0 < M.length := List.length_pos_of_mem hq
  rw [width_map g h0 hg, hg q hq]
  exact ⟨rfl, hw⟩
end
theorem fill2b (a b : Bool) : Instr.fill (fun i => some (i * 1, 1)) ((Array.range (2 * 1)).map ((Value.bool false).cells[· % (Value.bool false).cells.size]!)) (#[(0, .bool a), (1, .bool b)] : Array (Nat × Value)).toList = some #[.bool a, .bool b] := by kernel_rfl
theorem plain_bools (xs : List Bool) : plainV (Go.Q.bools xs) = true := by
  unfold plainV Go.Q.bools
  rw [List.all_eq_true]
  intro x hx
  obtain ⟨y, _, rfl⟩ := List.mem_map.1 hx
  rfl
set_option maxHeartbeats 3200000 in
theorem suOrder (l : Hdr) (L : List Int) (w : World) (HL : SlI w l L) (hI : ∀ x ∈ L, I64 x) :
    Calls Try.prog 4 #[.slice l.1 l.2.1 l.2.2] w (fun e w' => e = .returned (.bool true) ∧ Below w.heap.size w w') := by
  refine Calls.mono (S4_calls l.1 l.2.1 l.2.2 w (fun v w' => v = .bool true ∧ bel w w') ?_) (by rintro e w' ⟨v, rfl, rfl, hb⟩; exact ⟨rfl, hb⟩)
  unfold S4
  refine call_mono (newF l L w HL hI) ?_
  rintro _ w2 ⟨tb, l', L', rfl, etb, ht, h2⟩
  have htb2 := ht.box.lt
  refine call_mono (matrixF 6 12 ht (by omega) (by omega)) ?_
  rintro (x3 : Hdr) w4 ⟨M, hs, n, HM, hM1, hM2, hM3, ⟨p4, ht⟩, g4⟩
  have V := MatR.valid hM1 hM2 hM3 (by omega) (by omega)
  have h4 : bel w w4 := h2.grownAt g4 (by omega)
  have v1 := V.n
  have hl := HM.hl
  have awk : ∀ {w' : World}, bel w w' → call Try.prog 16 [] (.one (.one .bool)) w' fun (x : Bool) w'' => Value.bool x = .bool true ∧ bel w w'' := fun hb => call_mono (awakeF _) fun x w'' hx => ⟨by rw [hx.1], hb.trans hx.2⟩
  refine nat_eq0 (fun _ => awk h4) (fun e0 => ?_)
  have h0 : 0 < M.length := by omega
  refine row_up HM.tab (bel.refl _) (i := 0) rfl h0 fun x8 r8 hr8 S8 => ?_
  have hw := width_at hr8
  have l8 := S8.bool
  refine nat_eq0 (fun _ => awk h4) (fun e1 => ?_)
  refine row_up HM.tab (bel.refl _) (i := 0) rfl h0 fun x12 r12 hr12 S12 => ?_
  rw [hr8] at hr12; cases hr12
  have l12 := S12.bool
  have hwn : width M = n := by rw [hw]; exact hM3 _ (mem_at hr8)
  have hn0 : 0 < n := by omega
  rw [show x12.2.1 = n by omega]
  have s24 := g4.size
  refine call_mono (orderF n ht (by omega)) ?_
  rintro (x13 : Hdr) w14 ⟨ord, Oo, hol, hom, ⟨p14, ht⟩, g14⟩
  have HM14 := HM.xg g14 htb2
  refine row_up HM14.tab (bel.refl _) (i := 0) rfl h0 fun x16 r16 hr16 S16 => ?_
  rw [hr8] at hr16; cases hr16
  have l16 := S16.bool
  rw [show x16.2.1 = n by omega]
  refine call_mono (nF (n : Int) ht (by omega)) ?_
  rintro (x17 : Int) w18 ⟨hx17, _, g18⟩
  obtain ⟨t, rfl⟩ : ∃ t : Nat, x17 = (t : Int) := ⟨x17.toNat, by omega⟩
  have htn : t < n := by omega
  have HM18 := (HM14.xg g18 htb2).tab
  have Oo18 : OwnN w18 w4.heap.size x13 ord := Own.xg Oo g18 (by omega)
  have h18 : bel w w18 := (h4.grownAt g14 (by omega)).grownAt g18 (by omega)
  have lo := Oo18.sl.nat
  have rowlen : ∀ {i : Nat} {r : List Bool}, M[i]? = some r → r.length = n := fun h => hM3 _ (mem_at h)
  refine loop_gh (G := Nat) (fun i s w' => s.2.2 = ((i : Int), ()) ∧ i ≤ M.length ∧ bel w18 w' ∧ (∃ hsT, OT w' w18.heap.size s.1 hsT ((M.take i).map (turn ord))) ∧ (∃ hsM, OT w' w18.heap.size s.2.1 hsM ((M.take i).map (more t))) ∧ ∀ k, blk s.1.1 = some k → blk s.2.1.1 ≠ some k) (fun i => M.length - i) 0
    ⟨rfl, Nat.zero_le _, bel.refl _, ⟨[], Own.nil _ _ _ _, by simp, fun i x r hx => by simp at hx⟩, ⟨[], Own.nil _ _ _ _, by simp, fun i x r hx => by simp at hx⟩, (fun k hk => by cases hk)⟩ ?_
  rintro i ⟨tq, mq, s⟩ w21 ⟨rfl, hi, hb, ⟨hsT, HT⟩, ⟨hsM, HMo⟩, hap⟩ again hag _
  dsimp only at HT HMo hap hag
  refine br_dec (fun e => ?_) (fun e => ?_)
  · dsimp only at e
    have hin : i < M.length := by omega
    refine row_up HM18 hb rfl hin fun x23 r hr S23 => ?_
    have lr := rowlen hr
    obtain ⟨a23, n23, c23⟩ := x23
    have l23 : r.length = n23 := S23.bool
    have e23 : n = n23 := by omega
    subst e23
    replace S23 : Sl w18 a23 n c23 1 (Go.Q.bools r) := S23
    have s21 := hb.size
    refine wr_make tyB n rfl rfl (by omega) (by unfold maxLen; omega) fun cd w25 O25 h25 ecd _ => ?_
    replace O25 := O25 w21.heap.size (Nat.le_refl _)
    rw [made_bool] at O25
    have ltT : ∀ c, blk tq.1 = some c → c < w21.heap.size := fun c hc => (HT.th.lt c hc).2
    have ltM : ∀ c, blk mq.1 = some c → c < w21.heap.size := fun c hc => (HMo.th.lt c hc).2
    have ltTr : ∀ (i : Nat) (x : Hdr) (c : Nat), hsT[i]? = some x → blk x.1 = some c → c < w21.heap.size := fun i x c hx hc => by obtain ⟨r, _, q⟩ := HT.row hx; exact (q.lt c hc).2
    have ltMr : ∀ (i : Nat) (x : Hdr) (c : Nat), hsM[i]? = some x → blk x.1 = some c → c < w21.heap.size := fun i x c hx hc => by obtain ⟨r, _, q⟩ := HMo.row hx; exact (q.lt c hc).2
    have hb25 := hb.trans h25
    refine loop_up n (fun j w' => bel w18 w' ∧ w25.heap.size ≤ w'.heap.size ∧ (∃ xs : List Bool, xs.length = n ∧ Own w' w21.heap.size 4 1 (some cd) n n (Go.Q.bools xs) ∧ ∀ a, a < j → xs[a]? = (turn ord r)[a]?) ∧ OT w' w18.heap.size tq hsT ((M.take i).map (turn ord)) ∧ OT w' w18.heap.size mq hsM ((M.take i).map (more t)))
      ⟨hb25, Nat.le_refl _, ⟨_, by simp, O25, fun a ha => by omega⟩, HT.up h25, HMo.up h25⟩ fun j w28 hj ⟨hb28, s28, ⟨xs, hxl, O, hxs⟩, HT, HMo⟩ again2 hag2 _ => ?_
    refine br_dec (fun e1 => ?_) (fun e1 => ?_)
    · dsimp only at e1
      have hjn : j < n := by omega
      refine nat_mk ((Own.sl Oo18).up hb28) rfl (by omega) fun k hk => ?_
      have hkn : k < n := (hom k).1 (List.mem_of_getElem? hk)
      refine at_bool tyB (by kernel_rfl) (S23.up hb28) rfl (by omega) fun b hbb => ?_
      refine set_mk tyB O rfl hjn rfl fun w34 O34 g34 _ => ?_
      rw [bools_set] at O34
      refine z_i64 (by dsimp only; omega) ?_
      have ec : ∀ c, blk (some cd) = some c → c = cd.block := fun c hc => (blk_eq hc).symm
      refine hag2 _ hjn ⟨hb28.grown g34 (fun c hc => by have := ec c hc; omega), by have := g34.size; omega, ⟨xs.set j b, by simp [hxl], O34, fun a ha => ?_⟩, HT.keptBy g34 (fun c hc e => by have := ec c e; have := ltT c hc; omega) (fun i x c hx hc e => by have := ec c e; have := ltTr i x c hx hc; omega), HMo.keptBy g34 (fun c hc e => by have := ec c e; have := ltM c hc; omega) (fun i x c hx hc e => by have := ec c e; have := ltMr i x c hx hc; omega)⟩
      rw [List.getElem?_set]
      by_cases z : j = a
      · subst z
        rw [if_pos rfl, if_pos (by omega)]
        unfold turn
        rw [List.getElem?_map, hk]
        show _ = some (r.getD k false)
        rw [List.getD_eq_getElem?_getD, hbb]; rfl
      · rw [if_neg z]; exact hxs a (by omega)
    · dsimp only at e1
      have hjn : j = n := by omega
      subst hjn
      have exs : xs = turn ord r := List.ext_getElem? fun a => by
        rcases Nat.lt_or_ge a j with q | q
        · exact hxs a q
        · rw [List.getElem?_eq_none (by omega), List.getElem?_eq_none (by unfold turn; rw [List.length_map]; omega)]
      rw [exs] at O
      have lT0 : ((M.take i).map (turn ord)).length ≤ 1000 := by rw [List.length_map, List.length_take]; omega
      have lM0 : ((M.take i).map (more t)).length ≤ 1000 := by rw [List.length_map, List.length_take]; omega
      refine OT.push HT (x := (some cd, j, j)) (own_base O s21) (by have := hb28.size; omega) lT0 fun tq' w39 HT39 g39 new39 => ?_
      have hgT : ∀ c, blk tq.1 = some c → w18.heap.size ≤ c := fun c hc => (HT.th.lt c hc).1
      have hb39 := hb28.grown g39 hgT
      have HM39 := HMo.keptBy g39 (fun c hc e => hap c e hc) (fun i x c hx hc e => by
        obtain ⟨r2, _, Q⟩ := HMo.row hx
        exact Own.apart HT.th Q (by decide) c e hc)
      have hap39 : ∀ c, blk tq'.1 = some c → blk mq.1 ≠ some c := fun c hc e => by
        rcases new39 with q | q
        · exact hap c (by rw [← q]; exact hc) e
        · have := q c hc; have := (HMo.th.lt c e).2; omega
      refine drw_mk fun w40 h40 _ => ?_
      replace HT39 := HT39.up h40
      replace HM39 := HM39.up h40
      have hb40 := hb39.trans h40
      have HT40 := HT39
      have HM40 := HM39
      have S40 := S23.up hb40
      have s40 := hb40.size
      cases a23 with
      | none => have := (S40.nil' rfl).1; omega
      | some ad23 =>
      refine flEx_mk (fun i' _ v w' => (i' = 1 → ∃ ad : Addr, v = .slice (some ad) 0 0) ∧ (i' = 3 → ∃ a' c', v = .slice a' (0 + j) c' ∧ Own w' w40.heap.size 4 1 a' (0 + j) c' (Go.Q.bools r)) ∧ (i' = 8 → ∃ ad : Addr, v = .slice (some ad) 2 2 ∧ Sl w' (some ad) 2 2 1 (Go.Q.bools [r.getD t false, false])))
        (fun _ _ _ _ _ hΦ hE => ⟨hΦ.1, fun e => by obtain ⟨a, c, q1, q2⟩ := hΦ.2.1 e; exact ⟨a, c, q1, Own.kept q2 hE⟩, fun e => by obtain ⟨a, q1, q2⟩ := hΦ.2.2 e; exact ⟨a, q1, q2.up hE⟩⟩) ?_
      refine flc_mk (fun w42 hb' _ => ?_) (fun (x46 : Hdr) => ?_)
      · exact wr_lit0 tyB fun ad w' O' hb2 _ _ => ⟨hb2, fun _ => ⟨ad, rfl⟩, fun e => by omega, fun e => by omega⟩
      refine flc_mk (fun w47 hb' hf => ?_) (fun (x51 : Hdr) => ?_)
      · obtain ⟨ad, q1⟩ := hf.1.1 rfl
        have q1 : x46 = (some ad, 0, 0) := sl_inj q1
        subst q1
        have E0 : Sl w47 (some ad) 0 0 1 [] := ⟨rfl, Nat.le_refl _, by omega, (fun e => by cases e), fun j u h => by simp at h⟩
        have S47 : Sl w47 (some ad23) j c23 1 (Go.Q.bools r) := S40.up hb'
        refine wr_appS tyB E0 S47 rfl (by omega) (by unfold maxLen; omega) (by omega) fun a' c' w' O' hb2 => ?_
        exact ⟨hb2, fun e => by omega, fun _ => ⟨a', c', rfl, own_base O' hb'.size⟩, fun e => by omega⟩
      refine at_bool tyB (by kernel_rfl) S40 (j := t) rfl (by omega) fun b hbb => ?_
      have eb : r.getD t false = b := by rw [List.getD_eq_getElem?_getD, hbb]; rfl
      refine flc_mk (fun w54 hb' _ => ?_) (fun (x58 : Hdr) => ?_)
      · refine wr_lit tyB _ (fill2b b false) (by omega) (by omega) rfl (by unfold maxLen; omega) fun ad w' O' hb2 _ _ => ⟨hb2, fun e => by omega, fun e => by omega, fun _ => ⟨ad, rfl, ?_⟩⟩
        rw [eb]
        exact (O' w54.heap.size (Nat.le_refl _)).sl
      refine flend_mk fun w59 h59 hf => ?_
      obtain ⟨f8, f3, _⟩ := hf
      obtain ⟨ad8, q8, S8'⟩ := f8.2.2 rfl
      obtain ⟨a3, c3, q3, O3⟩ := f3.2.1 rfl
      have q8 : x58 = (some ad8, 2, 2) := sl_inj q8
      have q3 : x51 = (a3, 0 + j, c3) := sl_inj q3
      subst q8 q3
      replace HT39 := HT39.up h59
      replace HM39 := HM39.up h59
      have s59 := h59.size
      refine wr_app tyB O3 S8' (by omega) rfl (by omega) (plain_bools _) (by omega) (by unfold maxLen; omega) fun a' c' w62 O62 g62 _ _ => ?_
      have hg62 : ∀ c, blk a3 = some c → w40.heap.size ≤ c := fun c hc => (O3.lt c hc).1
      have s39 := h40.size
      have HT62 := HT39.keptBy g62 (fun c hc e => Own.apart HT39.th O3 (by decide) c hc e) (fun i x c hx hc e => by
        obtain ⟨r2, _, Q⟩ := HT40.row hx
        have := (Q.lt c hc).2; have := hg62 c e; omega)
      have HM62 := HM39.keptBy g62 (fun c hc e => Own.apart HM39.th O3 (by decide) c hc e) (fun i x c hx hc e => by
        obtain ⟨r2, _, Q⟩ := HM40.row hx
        have := (Q.lt c hc).2; have := hg62 c e; omega)
      have hb62 : bel w18 w62 := (hb40.trans h59).grown g62 (fun c hc => by have := hg62 c hc; omega)
      have O62' : Own w62 w18.heap.size 4 1 a' (0 + j + 2) c' (Go.Q.bools (more t r)) := by
        have : Go.Q.bools (more t r) = Go.Q.bools r ++ Go.Q.bools [r.getD t false, false] := by simp [more, Go.Q.bools]
        rw [this]
        exact own_base O62 (by omega)
      refine OT.push HM62 (x := (a', 0 + j + 2, c')) O62' (by have := hb62.size; omega) lM0 fun mq' w66 HM66 g66 new66 => ?_
      refine z_i64 (by dsimp only; omega) ?_
      have HT66 := HT62.keptBy g66 (fun c hc e => hap39 c hc e) (fun i x c hx hc e => by
        obtain ⟨r2, _, Q⟩ := HT62.row hx
        exact Own.apart HM62.th Q (by decide) c e hc)
      have tk : ∀ f : List Bool → List Bool, (M.take (i + 1)).map f = (M.take i).map f ++ [f r] := fun f => by
        rw [List.take_add_one, hr]
        show (M.take i ++ [r]).map f = _
        rw [List.map_append]; rfl
      refine hag (i + 1) _ _ ⟨rfl, hin, hb62.grown g66 (fun c hc => (HM62.th.lt c hc).1), ⟨_, by rw [tk]; exact HT66⟩, ⟨_, by rw [tk]; exact HM66⟩, fun c hc e => ?_⟩ (by omega)
      rcases new66 with q | q
      · exact hap39 c hc (by rw [← q]; exact e)
      · have := q c e; have := (HT62.th.lt c hc).2; omega
  · dsimp only at e
    have hin : i = M.length := by omega
    subst hin
    rw [List.take_length] at HT HMo
    clear hag again
    have T3 := HM18.up hb
    have TT := HT.tab
    have TM := HMo.tab
    have VT := map_valid V (turn ord) (w := n) (by omega) fun r _ => by unfold turn; rw [List.length_map]; exact hol
    have VM := map_valid V (more t) (w := n + 2) (by omega) fun r hr => by simp [more, hM3 r hr]
    have cT := turn_masks (M := M) (ord := ord) h0 (by omega) (by rw [hwn]; exact hom)
    have cM := more_masks (t := t) V h0 (by omega)
    have eT : (M.map (turn ord)).length = M.length := List.length_map ..
    have eM : (M.map (more t)).length = M.length := List.length_map ..
    refine call_mono (LeastF x3 M w21 T3) ?_
    rintro (x68 : HI) w69 ⟨R68, h69⟩
    obtain ⟨e68, P68⟩ := R68.get V
    refine call_mono (LeastF tq _ w69 (TT.up h69)) ?_
    rintro (x70 : HI) w71 ⟨R70, h71⟩
    obtain ⟨e70, P70⟩ := R70.get VT
    have h2171 := h69.trans h71
    refine call_mono (LeastF mq _ w71 (TM.up h2171)) ?_
    rintro (x72 : HI) w73 ⟨R72, h73⟩
    obtain ⟨e72, P72⟩ := R72.get VM
    have h2173 := h2171.trans h73
    refine call_mono (NeededF x3 M w73 (T3.up h2173)) ?_
    rintro (x74 : HI) w75 ⟨R74, h75⟩
    obtain ⟨e74, P74⟩ := R74.get V
    have h2175 := h2173.trans h75
    refine call_mono (NeededF tq _ w75 (TT.up h2175)) ?_
    rintro (x76 : HI) w77 ⟨R76, h77⟩
    obtain ⟨e76, P76⟩ := R76.get VT
    rw [eT, ← least_congr cT] at P70
    rw [eM, ← least_congr cM] at P72
    rw [eT, ← need_congr cT] at P76
    have S68 := (Own.sl P68).up (((h71.trans h73).trans h75).trans h77)
    have S70 := (Own.sl P70).up ((h73.trans h75).trans h77)
    have S72 := (Own.sl P72).up (h75.trans h77)
    have S74 := (Own.sl P74).up h77
    have S76 := Own.sl P76
    have hfin := (h18.trans hb).trans (h2175.trans h77)
    refine br_eq (fun _ => ?_) (fun q => absurd e68 q)
    refine br_eq (fun _ => ?_) (fun q => absurd e70 q)
    refine br_eq (fun _ => ?_) (fun q => absurd e72 q)
    refine br_eq (fun _ => ?_) (fun q => absurd e74 q)
    refine br_eq (fun _ => ?_) (fun q => absurd e76 q)
    refine call_mono (intsF x68.1 x70.1 _ _ w77 S68 S70) ?_
    rintro (x78 : Bool) w79 ⟨hx, h79⟩
    refine br_t (hx.2 rfl) ?_
    refine call_mono (intsF x68.1 x72.1 _ _ w79 (S68.up h79) (S72.up h79)) ?_
    rintro (x80 : Bool) w81 ⟨hx, h81⟩
    refine br_t (hx.2 rfl) ?_
    have h7981 := h79.trans h81
    refine call_mono (intsF x74.1 x76.1 _ _ w81 (S74.up h7981) (S76.up h7981)) ?_
    rintro (x82 : Bool) w83 ⟨hx, h83⟩
    refine br_t (hx.2 rfl) ?_
    exact awk ((hfin.trans h7981).trans h83)
end Go.Proofs.Ytaomejbaocehnaa

/- The conditions of functions, printed by our tool; each is checked against the code by the kernel. -/



namespace Go.Proofs
open Go Go.V Go.RowKit
/-- querylab/querylabref31.Valid -/
def S27 (m_a : Option Addr) (m_n : Nat) (m_c : Nat) (w0 : World) (R : Value → World → Prop) : Prop :=
 br (decide (((m_n : Nat) : Int) > 14)) (R (.bool false) w0)
 (loop (T := (Int × Unit)) (0, ()) w0 fun (again1 : (Int × Unit) → World → Prop) (s2 : (Int × Unit)) w3 => ∀ _ : Nat → Value,
 br (decide (s2.1 < ((m_n : Nat) : Int))) (rdp Try.prog (Instr.indexAt 25 (.slice m_a m_n m_c) (.int .i64 s2.1)) (.one .addr) fun (x4 : Addr) =>
 rd Try.prog (Instr.loadAt 35 (.pointer (some x4))) (.one .slice) w3 fun (x5 : (Option Addr × Nat × Nat)) =>
 rdp Try.prog (Instr.indexAt 25 (.slice m_a m_n m_c) (.int .i64 0)) (.one .addr) fun (x6 : Addr) =>
 rd Try.prog (Instr.loadAt 35 (.pointer (some x6))) (.one .slice) w3 fun (x7 : (Option Addr × Nat × Nat)) =>
 br (((x5.2.1 : Nat) : Int) != ((x7.2.1 : Nat) : Int)) (R (.bool false) w3)
 (br (decide (((x5.2.1 : Nat) : Int) > 400)) (R (.bool false) w3)
 (z (IntKind.wrap .i64 (s2.1 + 1)) fun (z8 : Int) =>
 again1 (z8, ()) w3)))
 (R (.bool true) w3))
def H27 : Hints := ⟨[(2, 0, [(10, (.one (.int .i64)))])], [], [], []⟩
set_option maxRecDepth 100000 in
theorem S27_eq (m_a : Option Addr) (m_n : Nat) (m_c : Nat) (w0 : World) (R : Value → World → Prop) : vcFn Try.prog H27 Try.f27 [(.slice m_a m_n m_c)] w0 R = S27 m_a m_n m_c w0 R := by kernel_rfl
set_option maxRecDepth 100000 in
theorem S27_calls (m_a : Option Addr) (m_n : Nat) (m_c : Nat) (w0 : World) (R : Value → World → Prop) (h : S27 m_a m_n m_c w0 R) : Calls Try.prog 27 #[(.slice m_a m_n m_c)] w0 (ret R) := by
  rw [← S27_eq] at h; exact vcFn_sound follows_ Try.func27 h

/-- querylab/querylabref31.masks -/
def S43 (m_a : Option Addr) (m_n : Nat) (m_c : Nat) (w0 : World) (R : Value → World → Prop) : Prop :=
 br (((m_n : Nat) : Int) == 0) (R (.slice none 0 0) w0)
 (rdp Try.prog (Instr.indexAt 25 (.slice m_a m_n m_c) (.int .i64 0)) (.one .addr) fun (x1 : Addr) =>
 rd Try.prog (Instr.loadAt 35 (.pointer (some x1))) (.one .slice) w0 fun (x2 : (Option Addr × Nat × Nat)) =>
 wr Try.prog (Instr.makeSlice 22 (.int .i64 ((x2.2.1 : Nat) : Int)) (.int .i64 ((x2.2.1 : Nat) : Int))) (.one .slice) w0 fun (x3 : (Option Addr × Nat × Nat)) (w4 : World) =>
 loop (T := (Int × Unit)) (0, ()) w4 fun (again5 : (Int × Unit) → World → Prop) (s6 : (Int × Unit)) w7 => ∀ _ : Nat → Value,
 br (decide (s6.1 < ((m_n : Nat) : Int))) (rdp Try.prog (Instr.indexAt 25 (.slice m_a m_n m_c) (.int .i64 s6.1)) (.one .addr) fun (x8 : Addr) =>
 rd Try.prog (Instr.loadAt 35 (.pointer (some x8))) (.one .slice) w7 fun (x9 : (Option Addr × Nat × Nat)) =>
 loop (T := (Int × Unit)) (0, ()) w7 fun (again10 : (Int × Unit) → World → Prop) (s11 : (Int × Unit)) w12 => ∀ _ : Nat → Value,
 br (decide (s11.1 < ((x9.2.1 : Nat) : Int))) (join (T := (Unit)) (fun (_s14 : (Unit)) w15 => ∀ _ : Nat → Value,
 z (IntKind.wrap .i64 (s11.1 + 1)) fun (z16 : Int) =>
 again10 (z16, ()) w15)
  fun (K13 : (Unit) → World → Prop) =>
 rdp Try.prog (Instr.indexAt 35 (.slice x9.1 x9.2.1 x9.2.2) (.int .i64 s11.1)) (.one .addr) fun (x17 : Addr) =>
 rd Try.prog (Instr.loadAt 4 (.pointer (some x17))) (.one .bool) w12 fun (x18 : Bool) =>
 br x18 (rdp Try.prog (Instr.indexAt 22 (.slice x3.1 x3.2.1 x3.2.2) (.int .i64 s11.1)) (.one .addr) fun (x19 : Addr) =>
 rd Try.prog (Instr.loadAt 3 (.pointer (some x19))) (.one (.int .i64)) w12 fun (x20 : Int) =>
 z (IntKind.wrap .u64 s6.1) fun (z21 : Int) =>
 rdp Try.prog (cmpS .shl 3 (.const (.int .i64 1)) (.tmp 36) (.int .i64 1) (.int .u64 z21)) (.one (.int .i64)) fun (x22 : Int) =>
 z (ior .i64 x20 x22) fun (z23 : Int) =>
 rdp Try.prog (Instr.indexAt 22 (.slice x3.1 x3.2.1 x3.2.2) (.int .i64 s11.1)) (.one .addr) fun (x24 : Addr) =>
 wu Try.prog (Instr.storeAt 3 (.pointer (some x24)) (.int .i64 z23)) w12 fun (w25 : World) =>
 K13 (()) w25)
 (K13 (()) w12))
 (z (IntKind.wrap .i64 (s6.1 + 1)) fun (z26 : Int) =>
 again5 (z26, ()) w12))
 (R (.slice x3.1 x3.2.1 x3.2.2) w7))
def H43 : Hints := ⟨[(2, 0, [(18, (.one (.int .i64)))]), (2, 2, [(25, (.one (.int .i64)))]), (1, 3, [])], [], [], []⟩
set_option maxRecDepth 100000 in
theorem S43_eq (m_a : Option Addr) (m_n : Nat) (m_c : Nat) (w0 : World) (R : Value → World → Prop) : vcFn Try.prog H43 Try.f43 [(.slice m_a m_n m_c)] w0 R = S43 m_a m_n m_c w0 R := by kernel_rfl
set_option maxRecDepth 100000 in
theorem S43_calls (m_a : Option Addr) (m_n : Nat) (m_c : Nat) (w0 : World) (R : Value → World → Prop) (h : S43 m_a m_n m_c w0 R) : Calls Try.prog 43 #[(.slice m_a m_n m_c)] w0 (ret R) := by
  rw [← S43_eq] at h; exact vcFn_sound follows_ Try.func43 h

/-- querylab/querylabref31.choice -/
def S47 (_m_a : Option Addr) (m_n : Nat) (_m_c : Nat) (chosen_a : Option Addr) (chosen_n : Nat) (chosen_c : Nat) (w0 : World) (R : Value → World → Prop) : Prop :=
 loop (T := (Int × Int × Unit)) (0, 0, ()) w0 fun (again1 : (Int × Int × Unit) → World → Prop) (s2 : (Int × Int × Unit)) w3 => ∀ _ : Nat → Value,
 br (decide (s2.2.1 < ((chosen_n : Nat) : Int))) (join (T := (Int × Unit)) (fun (s5 : (Int × Unit)) w6 => ∀ _ : Nat → Value,
 z (IntKind.wrap .i64 (s2.2.1 + 1)) fun (z7 : Int) =>
 again1 (s5.1, z7, ()) w6)
  fun (K4 : (Int × Unit) → World → Prop) =>
 rdp Try.prog (Instr.indexAt 22 (.slice chosen_a chosen_n chosen_c) (.int .i64 s2.2.1)) (.one .addr) fun (x8 : Addr) =>
 rd Try.prog (Instr.loadAt 3 (.pointer (some x8))) (.one (.int .i64)) w3 fun (x9 : Int) =>
 join (T := (Unit)) (fun (_s11 : (Unit)) w12 => ∀ _ : Nat → Value,
 z (IntKind.wrap .u64 x9) fun (z13 : Int) =>
 rdp Try.prog (cmpS .shl 3 (.const (.int .i64 1)) (.tmp 39) (.int .i64 1) (.int .u64 z13)) (.one (.int .i64)) fun (x14 : Int) =>
 z (ior .i64 s2.1 x14) fun (z15 : Int) =>
 K4 (z15, ()) w12)
  fun (K10 : (Unit) → World → Prop) =>
 br (decide (x9 < 0)) (R (.tuple #[(.int .i64 0), (.bool false)]) w3)
 (br (decide (x9 ≥ ((m_n : Nat) : Int))) (R (.tuple #[(.int .i64 0), (.bool false)]) w3)
 (br (decide (s2.2.1 > 0)) (z (IntKind.wrap .i64 (s2.2.1 - 1)) fun (z16 : Int) =>
 rdp Try.prog (Instr.indexAt 22 (.slice chosen_a chosen_n chosen_c) (.int .i64 z16)) (.one .addr) fun (x17 : Addr) =>
 rd Try.prog (Instr.loadAt 3 (.pointer (some x17))) (.one (.int .i64)) w3 fun (x18 : Int) =>
 br (decide (x18 ≥ x9)) (R (.tuple #[(.int .i64 0), (.bool false)]) w3)
 (K10 (()) w3))
 (K10 (()) w3))))
 (R (.tuple #[(.int .i64 s2.1), (.bool true)]) w3)
def H47 : Hints := ⟨[(2, 0, [(6, (.one (.int .i64))), (11, (.one (.int .i64)))]), (0, 36, []), (1, 1, [(6, (.one (.int .i64)))])], [], [], []⟩
set_option maxRecDepth 100000 in
theorem S47_eq (m_a : Option Addr) (m_n : Nat) (m_c : Nat) (chosen_a : Option Addr) (chosen_n : Nat) (chosen_c : Nat) (w0 : World) (R : Value → World → Prop) : vcFn Try.prog H47 Try.f47 [(.slice m_a m_n m_c), (.slice chosen_a chosen_n chosen_c)] w0 R = S47 m_a m_n m_c chosen_a chosen_n chosen_c w0 R := by kernel_rfl
set_option maxRecDepth 100000 in
theorem S47_calls (m_a : Option Addr) (m_n : Nat) (m_c : Nat) (chosen_a : Option Addr) (chosen_n : Nat) (chosen_c : Nat) (w0 : World) (R : Value → World → Prop) (h : S47 m_a m_n m_c chosen_a chosen_n chosen_c w0 R) : Calls Try.prog 47 #[(.slice m_a m_n m_c), (.slice chosen_a chosen_n chosen_c)] w0 (ret R) := by
  rw [← S47_eq] at h; exact vcFn_sound follows_ Try.func47 h

/-- querylab/querylabref31.covers -/
def S46 (masks_a : Option Addr) (masks_n : Nat) (masks_c : Nat) (set_ : Int) (w0 : World) (R : Value → World → Prop) : Prop :=
 loop (T := (Int × Unit)) (0, ()) w0 fun (again1 : (Int × Unit) → World → Prop) (s2 : (Int × Unit)) w3 => ∀ _ : Nat → Value,
 br (decide (s2.1 < ((masks_n : Nat) : Int))) (join (T := (Unit)) (fun (_s5 : (Unit)) w6 => ∀ _ : Nat → Value,
 z (IntKind.wrap .i64 (s2.1 + 1)) fun (z7 : Int) =>
 again1 (z7, ()) w6)
  fun (K4 : (Unit) → World → Prop) =>
 rdp Try.prog (Instr.indexAt 22 (.slice masks_a masks_n masks_c) (.int .i64 s2.1)) (.one .addr) fun (x8 : Addr) =>
 rd Try.prog (Instr.loadAt 3 (.pointer (some x8))) (.one (.int .i64)) w3 fun (x9 : Int) =>
 br (x9 != 0) (z (iand .i64 x9 set_) fun (z10 : Int) =>
 br (z10 == 0) (R (.bool false) w3)
 (K4 (()) w3))
 (K4 (()) w3))
 (R (.bool true) w3)
def H46 : Hints := ⟨[(2, 0, [(9, (.one (.int .i64)))]), (1, 1, [])], [], [], []⟩
set_option maxRecDepth 100000 in
theorem S46_eq (masks_a : Option Addr) (masks_n : Nat) (masks_c : Nat) (set_ : Int) (w0 : World) (R : Value → World → Prop) : vcFn Try.prog H46 Try.f46 [(.slice masks_a masks_n masks_c), (.int .i64 set_)] w0 R = S46 masks_a masks_n masks_c set_ w0 R := by kernel_rfl
set_option maxRecDepth 100000 in
theorem S46_calls (masks_a : Option Addr) (masks_n : Nat) (masks_c : Nat) (set_ : Int) (w0 : World) (R : Value → World → Prop) (h : S46 masks_a masks_n masks_c set_ w0 R) : Calls Try.prog 46 #[(.slice masks_a masks_n masks_c), (.int .i64 set_)] w0 (ret R) := by
  rw [← S46_eq] at h; exact vcFn_sound follows_ Try.func46 h

/-- querylab/querylabref31.Covers -/
def S31 (m_a : Option Addr) (m_n : Nat) (m_c : Nat) (chosen_a : Option Addr) (chosen_n : Nat) (chosen_c : Nat) (w0 : World) (R : Value → World → Prop) : Prop :=
 call Try.prog 27 [(.slice m_a m_n m_c)] (.one (.one .bool)) w0 fun (x1 : Bool) (w2 : World) =>
 br (!x1) (R (.bool false) w2)
 (call Try.prog 47 [(.slice m_a m_n m_c), (.slice chosen_a chosen_n chosen_c)] (.many [(.one (.int .i64)), (.one .bool)]) w2 fun (x3 : (Int × Bool × Unit)) (w4 : World) =>
 br x3.2.1 (call Try.prog 43 [(.slice m_a m_n m_c)] (.one (.one .slice)) w4 fun (x5 : (Option Addr × Nat × Nat)) (w6 : World) =>
 call Try.prog 46 [(.slice x5.1 x5.2.1 x5.2.2), (.int .i64 x3.1)] (.one (.one .bool)) w6 fun (x7 : Bool) (w8 : World) =>
 R (.bool x7) w8)
 (R (.bool false) w4))
def H31 : Hints := ⟨[], [], [], []⟩
set_option maxRecDepth 100000 in
theorem S31_eq (m_a : Option Addr) (m_n : Nat) (m_c : Nat) (chosen_a : Option Addr) (chosen_n : Nat) (chosen_c : Nat) (w0 : World) (R : Value → World → Prop) : vcFn Try.prog H31 Try.f31 [(.slice m_a m_n m_c), (.slice chosen_a chosen_n chosen_c)] w0 R = S31 m_a m_n m_c chosen_a chosen_n chosen_c w0 R := by kernel_rfl
set_option maxRecDepth 100000 in
theorem S31_calls (m_a : Option Addr) (m_n : Nat) (m_c : Nat) (chosen_a : Option Addr) (chosen_n : Nat) (chosen_c : Nat) (w0 : World) (R : Value → World → Prop) (h : S31 m_a m_n m_c chosen_a chosen_n chosen_c w0 R) : Calls Try.prog 31 #[(.slice m_a m_n m_c), (.slice chosen_a chosen_n chosen_c)] w0 (ret R) := by
  rw [← S31_eq] at h; exact vcFn_sound follows_ Try.func31 h

/-- querylab/querylabref31.list -/
def S44 (set_ : Int) (w0 : World) (R : Value → World → Prop) : Prop :=
 loop (T := ((Option Addr × Nat × Nat) × Int × Unit)) ((none, 0, 0), 0, ()) w0 fun (again1 : ((Option Addr × Nat × Nat) × Int × Unit) → World → Prop) (s2 : ((Option Addr × Nat × Nat) × Int × Unit)) w3 => ∀ _ : Nat → Value,
 z (IntKind.wrap .u64 s2.2.1) fun (z4 : Int) =>
 rdp Try.prog (cmpS .shr 3 (.tmp 5) (.tmp 7) (.int .i64 set_) (.int .u64 z4)) (.one (.int .i64)) fun (x5 : Int) =>
 br (decide (x5 > 0)) (join (T := ((Option Addr × Nat × Nat) × Unit)) (fun (s7 : ((Option Addr × Nat × Nat) × Unit)) w8 => ∀ _ : Nat → Value,
 z (IntKind.wrap .i64 (s2.2.1 + 1)) fun (z9 : Int) =>
 again1 ((s7.1.1, s7.1.2.1, s7.1.2.2), z9, ()) w8)
  fun (K6 : ((Option Addr × Nat × Nat) × Unit) → World → Prop) =>
 z (IntKind.wrap .u64 s2.2.1) fun (z10 : Int) =>
 rdp Try.prog (cmpS .shr 3 (.tmp 12) (.tmp 14) (.int .i64 set_) (.int .u64 z10)) (.one (.int .i64)) fun (x11 : Int) =>
 z (iand .i64 x11 1) fun (z12 : Int) =>
 br (z12 == 1) (wr Try.prog (Instr.buildSlice 22 1 #[(0, (.int .i64 s2.2.1))]) (.one .slice) w3 fun (x13 : (Option Addr × Nat × Nat)) (w14 : World) =>
 wr Try.prog (Builtin.append_ #[22, 22] 22 #[(.slice s2.1.1 s2.1.2.1 s2.1.2.2), (.slice x13.1 x13.2.1 x13.2.2)]) (.one .slice) w14 fun (x15 : (Option Addr × Nat × Nat)) (w16 : World) =>
 K6 ((x15.1, x15.2.1, x15.2.2), ()) w16)
 (K6 ((s2.1.1, s2.1.2.1, s2.1.2.2), ()) w3))
 (R (.slice s2.1.1 s2.1.2.1 s2.1.2.2) w3)
def H44 : Hints := ⟨[(2, 0, [(3, (.one .slice)), (4, (.one (.int .i64)))]), (1, 1, [(3, (.one .slice))])], [], [], []⟩
set_option maxRecDepth 100000 in
theorem S44_eq (set_ : Int) (w0 : World) (R : Value → World → Prop) : vcFn Try.prog H44 Try.f44 [(.int .i64 set_)] w0 R = S44 set_ w0 R := by kernel_rfl
set_option maxRecDepth 100000 in
theorem S44_calls (set_ : Int) (w0 : World) (R : Value → World → Prop) (h : S44 set_ w0 R) : Calls Try.prog 44 #[(.int .i64 set_)] w0 (ret R) := by
  rw [← S44_eq] at h; exact vcFn_sound follows_ Try.func44 h

/-- querylab/querylabref31.earlier -/
def S45 (a_a : Option Addr) (a_n : Nat) (a_c : Nat) (b_a : Option Addr) (b_n : Nat) (b_c : Nat) (w0 : World) (R : Value → World → Prop) : Prop :=
 loop (T := (Int × Unit)) (0, ()) w0 fun (again1 : (Int × Unit) → World → Prop) (s2 : (Int × Unit)) w3 => ∀ _ : Nat → Value,
 br (decide (s2.1 < ((a_n : Nat) : Int))) (drw w3 fun w4 =>
 rdp Try.prog (Instr.indexAt 22 (.slice a_a a_n a_c) (.int .i64 s2.1)) (.one .addr) fun (x5 : Addr) =>
 rd Try.prog (Instr.loadAt 3 (.pointer (some x5))) (.one (.int .i64)) w4 fun (x6 : Int) =>
 rdp Try.prog (Instr.indexAt 22 (.slice b_a b_n b_c) (.int .i64 s2.1)) (.one .addr) fun (x7 : Addr) =>
 rd Try.prog (Instr.loadAt 3 (.pointer (some x7))) (.one (.int .i64)) w4 fun (x8 : Int) =>
 br (x6 != x8) (drw w4 fun w9 =>
 rdp Try.prog (Instr.indexAt 22 (.slice a_a a_n a_c) (.int .i64 s2.1)) (.one .addr) fun (x10 : Addr) =>
 rd Try.prog (Instr.loadAt 3 (.pointer (some x10))) (.one (.int .i64)) w9 fun (x11 : Int) =>
 rdp Try.prog (Instr.indexAt 22 (.slice b_a b_n b_c) (.int .i64 s2.1)) (.one .addr) fun (x12 : Addr) =>
 rd Try.prog (Instr.loadAt 3 (.pointer (some x12))) (.one (.int .i64)) w9 fun (x13 : Int) =>
 R (.bool (decide (x11 < x13))) w9)
 (z (IntKind.wrap .i64 (s2.1 + 1)) fun (z14 : Int) =>
 again1 (z14, ()) w4))
 (R (.bool false) w3)
def H45 : Hints := ⟨[(2, 0, [(8, (.one (.int .i64)))])], [(4, 8), (5, 8)], [], []⟩
set_option maxRecDepth 100000 in
theorem S45_eq (a_a : Option Addr) (a_n : Nat) (a_c : Nat) (b_a : Option Addr) (b_n : Nat) (b_c : Nat) (w0 : World) (R : Value → World → Prop) : vcFn Try.prog H45 Try.f45 [(.slice a_a a_n a_c), (.slice b_a b_n b_c)] w0 R = S45 a_a a_n a_c b_a b_n b_c w0 R := by kernel_rfl
set_option maxRecDepth 100000 in
theorem S45_calls (a_a : Option Addr) (a_n : Nat) (a_c : Nat) (b_a : Option Addr) (b_n : Nat) (b_c : Nat) (w0 : World) (R : Value → World → Prop) (h : S45 a_a a_n a_c b_a b_n b_c w0 R) : Calls Try.prog 45 #[(.slice a_a a_n a_c), (.slice b_a b_n b_c)] w0 (ret R) := by
  rw [← S45_eq] at h; exact vcFn_sound follows_ Try.func45 h

/-- querylab/querylabref31.Least -/
def S22 (m_a : Option Addr) (m_n : Nat) (m_c : Nat) (w0 : World) (R : Value → World → Prop) : Prop :=
 call Try.prog 27 [(.slice m_a m_n m_c)] (.one (.one .bool)) w0 fun (x1 : Bool) (w2 : World) =>
 br (!x1) (R (.tuple #[(.slice none 0 0), (.int .i64 1)]) w2)
 (call Try.prog 43 [(.slice m_a m_n m_c)] (.one (.one .slice)) w2 fun (x3 : (Option Addr × Nat × Nat)) (w4 : World) =>
 loop (T := ((Option Addr × Nat × Nat) × Bool × Int × Unit)) ((none, 0, 0), false, 0, ()) w4 fun (again5 : ((Option Addr × Nat × Nat) × Bool × Int × Unit) → World → Prop) (s6 : ((Option Addr × Nat × Nat) × Bool × Int × Unit)) w7 => ∀ _ : Nat → Value,
 z (IntKind.wrap .u64 ((m_n : Nat) : Int)) fun (z8 : Int) =>
 rdp Try.prog (cmpS .shl 3 (.const (.int .i64 1)) (.tmp 17) (.int .i64 1) (.int .u64 z8)) (.one (.int .i64)) fun (x9 : Int) =>
 br (decide (s6.2.2.1 < x9)) (join (T := ((Option Addr × Nat × Nat) × Bool × Unit)) (fun (s11 : ((Option Addr × Nat × Nat) × Bool × Unit)) w12 => ∀ _ : Nat → Value,
 z (IntKind.wrap .i64 (s6.2.2.1 + 1)) fun (z13 : Int) =>
 again5 ((s11.1.1, s11.1.2.1, s11.1.2.2), s11.2.1, z13, ()) w12)
  fun (K10 : ((Option Addr × Nat × Nat) × Bool × Unit) → World → Prop) =>
 call Try.prog 44 [(.int .i64 s6.2.2.1)] (.one (.one .slice)) w7 fun (x14 : (Option Addr × Nat × Nat)) (w15 : World) =>
 br s6.2.1 (br (decide (((x14.2.1 : Nat) : Int) > ((s6.1.2.1 : Nat) : Int))) (K10 ((s6.1.1, s6.1.2.1, s6.1.2.2), s6.2.1, ()) w15)
 (br (((x14.2.1 : Nat) : Int) == ((s6.1.2.1 : Nat) : Int)) (call Try.prog 45 [(.slice x14.1 x14.2.1 x14.2.2), (.slice s6.1.1 s6.1.2.1 s6.1.2.2)] (.one (.one .bool)) w15 fun (x16 : Bool) (w17 : World) =>
 br (!x16) (K10 ((s6.1.1, s6.1.2.1, s6.1.2.2), s6.2.1, ()) w17)
 (call Try.prog 46 [(.slice x3.1 x3.2.1 x3.2.2), (.int .i64 s6.2.2.1)] (.one (.one .bool)) w17 fun (x18 : Bool) (w19 : World) =>
 br (!x18) (K10 ((s6.1.1, s6.1.2.1, s6.1.2.2), s6.2.1, ()) w19)
 (K10 ((x14.1, x14.2.1, x14.2.2), true, ()) w19)))
 (call Try.prog 46 [(.slice x3.1 x3.2.1 x3.2.2), (.int .i64 s6.2.2.1)] (.one (.one .bool)) w15 fun (x20 : Bool) (w21 : World) =>
 br (!x20) (K10 ((s6.1.1, s6.1.2.1, s6.1.2.2), s6.2.1, ()) w21)
 (K10 ((x14.1, x14.2.1, x14.2.2), true, ()) w21))))
 (call Try.prog 46 [(.slice x3.1 x3.2.1 x3.2.2), (.int .i64 s6.2.2.1)] (.one (.one .bool)) w15 fun (x22 : Bool) (w23 : World) =>
 br (!x22) (K10 ((s6.1.1, s6.1.2.1, s6.1.2.2), s6.2.1, ()) w23)
 (K10 ((x14.1, x14.2.1, x14.2.2), true, ()) w23)))
 (R (.tuple #[(.slice s6.1.1 s6.1.2.1 s6.1.2.2), (.int .i64 0)]) w7))
def H22 : Hints := ⟨[(2, 0, [(5, (.one .slice)), (6, (.one .bool)), (7, (.one (.int .i64)))]), (1, 1, [(5, (.one .slice)), (6, (.one .bool))])], [], [], []⟩
set_option maxRecDepth 100000 in
theorem S22_eq (m_a : Option Addr) (m_n : Nat) (m_c : Nat) (w0 : World) (R : Value → World → Prop) : vcFn Try.prog H22 Try.f22 [(.slice m_a m_n m_c)] w0 R = S22 m_a m_n m_c w0 R := by kernel_rfl
set_option maxRecDepth 100000 in
theorem S22_calls (m_a : Option Addr) (m_n : Nat) (m_c : Nat) (w0 : World) (R : Value → World → Prop) (h : S22 m_a m_n m_c w0 R) : Calls Try.prog 22 #[(.slice m_a m_n m_c)] w0 (ret R) := by
  rw [← S22_eq] at h; exact vcFn_sound follows_ Try.func22 h

/-- querylab/querylabref31.Greedy -/
def S23 (m_a : Option Addr) (m_n : Nat) (m_c : Nat) (w0 : World) (R : Value → World → Prop) : Prop :=
 call Try.prog 27 [(.slice m_a m_n m_c)] (.one (.one .bool)) w0 fun (x1 : Bool) (w2 : World) =>
 br (!x1) (R (.tuple #[(.slice none 0 0), (.int .i64 1)]) w2)
 (call Try.prog 43 [(.slice m_a m_n m_c)] (.one (.one .slice)) w2 fun (x3 : (Option Addr × Nat × Nat)) (w4 : World) =>
 loop (T := (Int × (Option Addr × Nat × Nat) × Unit)) (0, (none, 0, 0), ()) w4 fun (again5 : (Int × (Option Addr × Nat × Nat) × Unit) → World → Prop) (s6 : (Int × (Option Addr × Nat × Nat) × Unit)) w7 => ∀ _ : Nat → Value,
 call Try.prog 46 [(.slice x3.1 x3.2.1 x3.2.2), (.int .i64 s6.1)] (.one (.one .bool)) w7 fun (x8 : Bool) (w9 : World) =>
 br (!x8) (loop (T := (Int × Int × Int × Unit)) (0, 0, 0, ()) w9 fun (again10 : (Int × Int × Int × Unit) → World → Prop) (s11 : (Int × Int × Int × Unit)) w12 => ∀ _ : Nat → Value,
 br (decide (s11.2.2.1 < ((m_n : Nat) : Int))) (join (T := (Int × Int × Unit)) (fun (s14 : (Int × Int × Unit)) w15 => ∀ _ : Nat → Value,
 z (IntKind.wrap .i64 (s11.2.2.1 + 1)) fun (z16 : Int) =>
 again10 (s14.1, s14.2.1, z16, ()) w15)
  fun (K13 : (Int × Int × Unit) → World → Prop) =>
 loop (T := (Int × Int × Unit)) (0, 0, ()) w12 fun (again17 : (Int × Int × Unit) → World → Prop) (s18 : (Int × Int × Unit)) w19 => ∀ _ : Nat → Value,
 br (decide (s18.2.1 < ((x3.2.1 : Nat) : Int))) (join (T := (Int × Unit)) (fun (s21 : (Int × Unit)) w22 => ∀ _ : Nat → Value,
 z (IntKind.wrap .i64 (s18.2.1 + 1)) fun (z23 : Int) =>
 again17 (s21.1, z23, ()) w22)
  fun (K20 : (Int × Unit) → World → Prop) =>
 rdp Try.prog (Instr.indexAt 22 (.slice x3.1 x3.2.1 x3.2.2) (.int .i64 s18.2.1)) (.one .addr) fun (x24 : Addr) =>
 rd Try.prog (Instr.loadAt 3 (.pointer (some x24))) (.one (.int .i64)) w19 fun (x25 : Int) =>
 z (iand .i64 x25 s6.1) fun (z26 : Int) =>
 br (z26 == 0) (z (IntKind.wrap .u64 s11.2.2.1) fun (z27 : Int) =>
 rdp Try.prog (cmpS .shr 3 (.tmp 38) (.tmp 40) (.int .i64 x25) (.int .u64 z27)) (.one (.int .i64)) fun (x28 : Int) =>
 z (iand .i64 x28 1) fun (z29 : Int) =>
 br (z29 == 1) (z (IntKind.wrap .i64 (s18.1 + 1)) fun (z30 : Int) =>
 K20 (z30, ()) w19)
 (K20 (s18.1, ()) w19))
 (K20 (s18.1, ()) w19))
 (br (decide (s18.1 > s11.2.1)) (K13 (s11.2.2.1, s18.1, ()) w19)
 (K13 (s11.1, s11.2.1, ()) w19)))
 (z (IntKind.wrap .u64 s11.1) fun (z31 : Int) =>
 rdp Try.prog (cmpS .shl 3 (.const (.int .i64 1)) (.tmp 56) (.int .i64 1) (.int .u64 z31)) (.one (.int .i64)) fun (x32 : Int) =>
 z (ior .i64 s6.1 x32) fun (z33 : Int) =>
 wr Try.prog (Instr.buildSlice 22 1 #[(0, (.int .i64 s11.1))]) (.one .slice) w12 fun (x34 : (Option Addr × Nat × Nat)) (w35 : World) =>
 wr Try.prog (Builtin.append_ #[22, 22] 22 #[(.slice s6.2.1.1 s6.2.1.2.1 s6.2.1.2.2), (.slice x34.1 x34.2.1 x34.2.2)]) (.one .slice) w35 fun (x36 : (Option Addr × Nat × Nat)) (w37 : World) =>
 again5 (z33, (x36.1, x36.2.1, x36.2.2), ()) w37))
 (R (.tuple #[(.slice s6.2.1.1 s6.2.1.2.1 s6.2.1.2.2), (.int .i64 0)]) w9))
def H23 : Hints := ⟨[(2, 0, [(5, (.one (.int .i64))), (6, (.one .slice))]), (2, 2, [(7, (.one (.int .i64))), (8, (.one (.int .i64))), (24, (.one (.int .i64)))]), (2, 4, [(10, (.one (.int .i64))), (29, (.one (.int .i64)))]), (1, 5, [(10, (.one (.int .i64)))]), (1, 3, [(7, (.one (.int .i64))), (8, (.one (.int .i64)))])], [], [], []⟩
set_option maxRecDepth 100000 in
theorem S23_eq (m_a : Option Addr) (m_n : Nat) (m_c : Nat) (w0 : World) (R : Value → World → Prop) : vcFn Try.prog H23 Try.f23 [(.slice m_a m_n m_c)] w0 R = S23 m_a m_n m_c w0 R := by kernel_rfl
set_option maxRecDepth 100000 in
theorem S23_calls (m_a : Option Addr) (m_n : Nat) (m_c : Nat) (w0 : World) (R : Value → World → Prop) (h : S23 m_a m_n m_c w0 R) : Calls Try.prog 23 #[(.slice m_a m_n m_c)] w0 (ret R) := by
  rw [← S23_eq] at h; exact vcFn_sound follows_ Try.func23 h

/-- querylab/querylabref31.Needed -/
def S25 (m_a : Option Addr) (m_n : Nat) (m_c : Nat) (w0 : World) (R : Value → World → Prop) : Prop :=
 call Try.prog 27 [(.slice m_a m_n m_c)] (.one (.one .bool)) w0 fun (x1 : Bool) (w2 : World) =>
 br (!x1) (R (.tuple #[(.slice none 0 0), (.int .i64 1)]) w2)
 (loop (T := ((Option Addr × Nat × Nat) × Int × Unit)) ((none, 0, 0), 0, ()) w2 fun (again3 : ((Option Addr × Nat × Nat) × Int × Unit) → World → Prop) (s4 : ((Option Addr × Nat × Nat) × Int × Unit)) w5 => ∀ _ : Nat → Value,
 br (decide (s4.2.1 < ((m_n : Nat) : Int))) (join (T := ((Option Addr × Nat × Nat) × Unit)) (fun (s7 : ((Option Addr × Nat × Nat) × Unit)) w8 => ∀ _ : Nat → Value,
 z (IntKind.wrap .i64 (s4.2.1 + 1)) fun (z9 : Int) =>
 again3 ((s7.1.1, s7.1.2.1, s7.1.2.2), z9, ()) w8)
  fun (K6 : ((Option Addr × Nat × Nat) × Unit) → World → Prop) =>
 call Try.prog 43 [(.slice m_a m_n m_c)] (.one (.one .slice)) w5 fun (x10 : (Option Addr × Nat × Nat)) (w11 : World) =>
 z (IntKind.wrap .u64 ((m_n : Nat) : Int)) fun (z12 : Int) =>
 rdp Try.prog (cmpS .shl 3 (.const (.int .i64 1)) (.tmp 18) (.int .i64 1) (.int .u64 z12)) (.one (.int .i64)) fun (x13 : Int) =>
 z (IntKind.wrap .i64 (x13 - 1)) fun (z14 : Int) =>
 z (IntKind.wrap .u64 s4.2.1) fun (z15 : Int) =>
 rdp Try.prog (cmpS .shl 3 (.const (.int .i64 1)) (.tmp 22) (.int .i64 1) (.int .u64 z15)) (.one (.int .i64)) fun (x16 : Int) =>
 z (iandNot .i64 z14 x16) fun (z17 : Int) =>
 call Try.prog 46 [(.slice x10.1 x10.2.1 x10.2.2), (.int .i64 z17)] (.one (.one .bool)) w11 fun (x18 : Bool) (w19 : World) =>
 br (!x18) (wr Try.prog (Instr.buildSlice 22 1 #[(0, (.int .i64 s4.2.1))]) (.one .slice) w19 fun (x20 : (Option Addr × Nat × Nat)) (w21 : World) =>
 wr Try.prog (Builtin.append_ #[22, 22] 22 #[(.slice s4.1.1 s4.1.2.1 s4.1.2.2), (.slice x20.1 x20.2.1 x20.2.2)]) (.one .slice) w21 fun (x22 : (Option Addr × Nat × Nat)) (w23 : World) =>
 K6 ((x22.1, x22.2.1, x22.2.2), ()) w23)
 (K6 ((s4.1.1, s4.1.2.1, s4.1.2.2), ()) w19))
 (R (.tuple #[(.slice s4.1.1 s4.1.2.1 s4.1.2.2), (.int .i64 0)]) w5))
def H25 : Hints := ⟨[(2, 0, [(4, (.one .slice)), (11, (.one (.int .i64)))]), (1, 1, [(4, (.one .slice))])], [], [], []⟩
set_option maxRecDepth 100000 in
theorem S25_eq (m_a : Option Addr) (m_n : Nat) (m_c : Nat) (w0 : World) (R : Value → World → Prop) : vcFn Try.prog H25 Try.f25 [(.slice m_a m_n m_c)] w0 R = S25 m_a m_n m_c w0 R := by kernel_rfl
set_option maxRecDepth 100000 in
theorem S25_calls (m_a : Option Addr) (m_n : Nat) (m_c : Nat) (w0 : World) (R : Value → World → Prop) (h : S25 m_a m_n m_c w0 R) : Calls Try.prog 25 #[(.slice m_a m_n m_c)] w0 (ret R) := by
  rw [← S25_eq] at h; exact vcFn_sound follows_ Try.func25 h

/-- querylab/querylabref31.Apart -/
def S24 (m_a : Option Addr) (m_n : Nat) (m_c : Nat) (w0 : World) (R : Value → World → Prop) : Prop :=
 call Try.prog 27 [(.slice m_a m_n m_c)] (.one (.one .bool)) w0 fun (x1 : Bool) (w2 : World) =>
 br (!x1) (R (.tuple #[(.slice none 0 0), (.int .i64 1)]) w2)
 (call Try.prog 43 [(.slice m_a m_n m_c)] (.one (.one .slice)) w2 fun (x3 : (Option Addr × Nat × Nat)) (w4 : World) =>
 z (IntKind.wrap .u64 ((m_n : Nat) : Int)) fun (z5 : Int) =>
 rdp Try.prog (cmpS .shl 3 (.const (.int .i64 1)) (.tmp 20) (.int .i64 1) (.int .u64 z5)) (.one (.int .i64)) fun (x6 : Int) =>
 z (IntKind.wrap .i64 (((x3.2.1 : Nat) : Int) + 1)) fun (z7 : Int) =>
 wr Try.prog (Instr.makeSlice 60 (.int .i64 z7) (.int .i64 z7)) (.one .slice) w4 fun (x8 : (Option Addr × Nat × Nat)) (w9 : World) =>
 wr Try.prog (Instr.makeSlice 61 (.int .i64 x6) (.int .i64 x6)) (.one .slice) w9 fun (x10 : (Option Addr × Nat × Nat)) (w11 : World) =>
 rdp Try.prog (Instr.indexAt 60 (.slice x8.1 x8.2.1 x8.2.2) (.int .i64 ((x3.2.1 : Nat) : Int))) (.one .addr) fun (x12 : Addr) =>
 wu Try.prog (Instr.storeAt 61 (.pointer (some x12)) (.slice x10.1 x10.2.1 x10.2.2)) w11 fun (w13 : World) =>
 z (IntKind.wrap .i64 (((x3.2.1 : Nat) : Int) - 1)) fun (z14 : Int) =>
 loop (T := (Int × Unit)) (z14, ()) w13 fun (again15 : (Int × Unit) → World → Prop) (s16 : (Int × Unit)) w17 => ∀ _ : Nat → Value,
 br (decide (s16.1 ≥ 0)) (wr Try.prog (Instr.makeSlice 61 (.int .i64 x6) (.int .i64 x6)) (.one .slice) w17 fun (x18 : (Option Addr × Nat × Nat)) (w19 : World) =>
 rdp Try.prog (Instr.indexAt 60 (.slice x8.1 x8.2.1 x8.2.2) (.int .i64 s16.1)) (.one .addr) fun (x20 : Addr) =>
 wu Try.prog (Instr.storeAt 61 (.pointer (some x20)) (.slice x18.1 x18.2.1 x18.2.2)) w19 fun (w21 : World) =>
 loop (T := (Int × Unit)) (0, ()) w21 fun (again22 : (Int × Unit) → World → Prop) (s23 : (Int × Unit)) w24 => ∀ _ : Nat → Value,
 br (decide (s23.1 < x6)) (join (T := (Unit)) (fun (_s26 : (Unit)) w27 => ∀ _ : Nat → Value,
 z (IntKind.wrap .i64 (s23.1 + 1)) fun (z28 : Int) =>
 again22 (z28, ()) w27)
  fun (K25 : (Unit) → World → Prop) =>
 drw w24 fun w29 =>
 rdp Try.prog (Instr.indexAt 60 (.slice x8.1 x8.2.1 x8.2.2) (.int .i64 s16.1)) (.one .addr) fun (x30 : Addr) =>
 rd Try.prog (Instr.loadAt 61 (.pointer (some x30))) (.one .slice) w29 fun (x31 : (Option Addr × Nat × Nat)) =>
 z (IntKind.wrap .i64 (s16.1 + 1)) fun (z32 : Int) =>
 rdp Try.prog (Instr.indexAt 60 (.slice x8.1 x8.2.1 x8.2.2) (.int .i64 z32)) (.one .addr) fun (x33 : Addr) =>
 rd Try.prog (Instr.loadAt 61 (.pointer (some x33))) (.one .slice) w29 fun (x34 : (Option Addr × Nat × Nat)) =>
 rdp Try.prog (Instr.indexAt 61 (.slice x34.1 x34.2.1 x34.2.2) (.int .i64 s23.1)) (.one .addr) fun (x35 : Addr) =>
 rd Try.prog (Instr.loadAt 62 (.pointer (some x35))) (.one (.int .i8)) w29 fun (x36 : Int) =>
 rdp Try.prog (Instr.indexAt 61 (.slice x31.1 x31.2.1 x31.2.2) (.int .i64 s23.1)) (.one .addr) fun (x37 : Addr) =>
 wu Try.prog (Instr.storeAt 62 (.pointer (some x37)) (.int .i8 x36)) w29 fun (w38 : World) =>
 rdp Try.prog (Instr.indexAt 22 (.slice x3.1 x3.2.1 x3.2.2) (.int .i64 s16.1)) (.one .addr) fun (x39 : Addr) =>
 rd Try.prog (Instr.loadAt 3 (.pointer (some x39))) (.one (.int .i64)) w38 fun (x40 : Int) =>
 br (x40 != 0) (rdp Try.prog (Instr.indexAt 22 (.slice x3.1 x3.2.1 x3.2.2) (.int .i64 s16.1)) (.one .addr) fun (x41 : Addr) =>
 rd Try.prog (Instr.loadAt 3 (.pointer (some x41))) (.one (.int .i64)) w38 fun (x42 : Int) =>
 z (iand .i64 x42 s23.1) fun (z43 : Int) =>
 br (z43 == 0) (drw w38 fun w44 =>
 rdp Try.prog (Instr.indexAt 60 (.slice x8.1 x8.2.1 x8.2.2) (.int .i64 s16.1)) (.one .addr) fun (x45 : Addr) =>
 rd Try.prog (Instr.loadAt 61 (.pointer (some x45))) (.one .slice) w44 fun (x46 : (Option Addr × Nat × Nat)) =>
 rdp Try.prog (Instr.indexAt 60 (.slice x8.1 x8.2.1 x8.2.2) (.int .i64 s16.1)) (.one .addr) fun (x47 : Addr) =>
 rd Try.prog (Instr.loadAt 61 (.pointer (some x47))) (.one .slice) w44 fun (x48 : (Option Addr × Nat × Nat)) =>
 rdp Try.prog (Instr.indexAt 61 (.slice x48.1 x48.2.1 x48.2.2) (.int .i64 s23.1)) (.one .addr) fun (x49 : Addr) =>
 rd Try.prog (Instr.loadAt 62 (.pointer (some x49))) (.one (.int .i8)) w44 fun (x50 : Int) =>
 z (IntKind.wrap .i64 (s16.1 + 1)) fun (z51 : Int) =>
 rdp Try.prog (Instr.indexAt 60 (.slice x8.1 x8.2.1 x8.2.2) (.int .i64 z51)) (.one .addr) fun (x52 : Addr) =>
 rd Try.prog (Instr.loadAt 61 (.pointer (some x52))) (.one .slice) w44 fun (x53 : (Option Addr × Nat × Nat)) =>
 rdp Try.prog (Instr.indexAt 22 (.slice x3.1 x3.2.1 x3.2.2) (.int .i64 s16.1)) (.one .addr) fun (x54 : Addr) =>
 rd Try.prog (Instr.loadAt 3 (.pointer (some x54))) (.one (.int .i64)) w44 fun (x55 : Int) =>
 z (ior .i64 s23.1 x55) fun (z56 : Int) =>
 rdp Try.prog (Instr.indexAt 61 (.slice x53.1 x53.2.1 x53.2.2) (.int .i64 z56)) (.one .addr) fun (x57 : Addr) =>
 rd Try.prog (Instr.loadAt 62 (.pointer (some x57))) (.one (.int .i8)) w44 fun (x58 : Int) =>
 z (IntKind.wrap .i8 (1 + x58)) fun (z59 : Int) =>
 z (if z59 > x50 then z59 else x50) fun (z60 : Int) =>
 rdp Try.prog (Instr.indexAt 61 (.slice x46.1 x46.2.1 x46.2.2) (.int .i64 s23.1)) (.one .addr) fun (x61 : Addr) =>
 wu Try.prog (Instr.storeAt 62 (.pointer (some x61)) (.int .i8 z60)) w44 fun (w62 : World) =>
 K25 (()) w62)
 (K25 (()) w38))
 (K25 (()) w38))
 (z (IntKind.wrap .i64 (s16.1 - 1)) fun (z63 : Int) =>
 again15 (z63, ()) w24))
 (loop (T := ((Option Addr × Nat × Nat) × Int × Int × Unit)) ((none, 0, 0), 0, 0, ()) w17 fun (again64 : ((Option Addr × Nat × Nat) × Int × Int × Unit) → World → Prop) (s65 : ((Option Addr × Nat × Nat) × Int × Int × Unit)) w66 => ∀ _ : Nat → Value,
 br (decide (s65.2.2.1 < ((x3.2.1 : Nat) : Int))) (join (T := ((Option Addr × Nat × Nat) × Int × Unit)) (fun (s68 : ((Option Addr × Nat × Nat) × Int × Unit)) w69 => ∀ _ : Nat → Value,
 z (IntKind.wrap .i64 (s65.2.2.1 + 1)) fun (z70 : Int) =>
 again64 ((s68.1.1, s68.1.2.1, s68.1.2.2), s68.2.1, z70, ()) w69)
  fun (K67 : ((Option Addr × Nat × Nat) × Int × Unit) → World → Prop) =>
 rdp Try.prog (Instr.indexAt 22 (.slice x3.1 x3.2.1 x3.2.2) (.int .i64 s65.2.2.1)) (.one .addr) fun (x71 : Addr) =>
 rd Try.prog (Instr.loadAt 3 (.pointer (some x71))) (.one (.int .i64)) w66 fun (x72 : Int) =>
 drw w66 fun w73 =>
 br (x72 != 0) (z (iand .i64 x72 s65.2.1) fun (z74 : Int) =>
 br (z74 == 0) (z (IntKind.wrap .i64 (s65.2.2.1 + 1)) fun (z75 : Int) =>
 rdp Try.prog (Instr.indexAt 60 (.slice x8.1 x8.2.1 x8.2.2) (.int .i64 z75)) (.one .addr) fun (x76 : Addr) =>
 rd Try.prog (Instr.loadAt 61 (.pointer (some x76))) (.one .slice) w73 fun (x77 : (Option Addr × Nat × Nat)) =>
 z (ior .i64 s65.2.1 x72) fun (z78 : Int) =>
 rdp Try.prog (Instr.indexAt 61 (.slice x77.1 x77.2.1 x77.2.2) (.int .i64 z78)) (.one .addr) fun (x79 : Addr) =>
 rd Try.prog (Instr.loadAt 62 (.pointer (some x79))) (.one (.int .i8)) w73 fun (x80 : Int) =>
 z (IntKind.wrap .i8 (1 + x80)) fun (z81 : Int) =>
 rdp Try.prog (Instr.indexAt 60 (.slice x8.1 x8.2.1 x8.2.2) (.int .i64 s65.2.2.1)) (.one .addr) fun (x82 : Addr) =>
 rd Try.prog (Instr.loadAt 61 (.pointer (some x82))) (.one .slice) w73 fun (x83 : (Option Addr × Nat × Nat)) =>
 rdp Try.prog (Instr.indexAt 61 (.slice x83.1 x83.2.1 x83.2.2) (.int .i64 s65.2.1)) (.one .addr) fun (x84 : Addr) =>
 rd Try.prog (Instr.loadAt 62 (.pointer (some x84))) (.one (.int .i8)) w73 fun (x85 : Int) =>
 br (z81 == x85) (wr Try.prog (Instr.buildSlice 22 1 #[(0, (.int .i64 s65.2.2.1))]) (.one .slice) w73 fun (x86 : (Option Addr × Nat × Nat)) (w87 : World) =>
 wr Try.prog (Builtin.append_ #[22, 22] 22 #[(.slice s65.1.1 s65.1.2.1 s65.1.2.2), (.slice x86.1 x86.2.1 x86.2.2)]) (.one .slice) w87 fun (x88 : (Option Addr × Nat × Nat)) (w89 : World) =>
 z (ior .i64 s65.2.1 x72) fun (z90 : Int) =>
 K67 ((x88.1, x88.2.1, x88.2.2), z90, ()) w89)
 (K67 ((s65.1.1, s65.1.2.1, s65.1.2.2), s65.2.1, ()) w73))
 (K67 ((s65.1.1, s65.1.2.1, s65.1.2.2), s65.2.1, ()) w73))
 (K67 ((s65.1.1, s65.1.2.1, s65.1.2.2), s65.2.1, ()) w73))
 (R (.tuple #[(.slice s65.1.1 s65.1.2.1 s65.1.2.2), (.int .i64 0)]) w66)))
def H24 : Hints := ⟨[(2, 0, [(7, (.one (.int .i64)))]), (2, 2, [(8, (.one (.int .i64)))]), (1, 3, []), (2, 4, [(9, (.one .slice)), (10, (.one (.int .i64))), (107, (.one (.int .i64)))]), (1, 5, [(9, (.one .slice)), (10, (.one (.int .i64)))])], [(14, 13), (16, 27), (22, 27)], [], []⟩
set_option maxRecDepth 100000 in
theorem S24_eq (m_a : Option Addr) (m_n : Nat) (m_c : Nat) (w0 : World) (R : Value → World → Prop) : vcFn Try.prog H24 Try.f24 [(.slice m_a m_n m_c)] w0 R = S24 m_a m_n m_c w0 R := by kernel_rfl
set_option maxRecDepth 100000 in
theorem S24_calls (m_a : Option Addr) (m_n : Nat) (m_c : Nat) (w0 : World) (R : Value → World → Prop) (h : S24 m_a m_n m_c w0 R) : Calls Try.prog 24 #[(.slice m_a m_n m_c)] w0 (ret R) := by
  rw [← S24_eq] at h; exact vcFn_sound follows_ Try.func24 h

/-- querylab/querylabref31.Survivors -/
def S30 (m_a : Option Addr) (m_n : Nat) (m_c : Nat) (chosen_a : Option Addr) (chosen_n : Nat) (chosen_c : Nat) (w0 : World) (R : Value → World → Prop) : Prop :=
 call Try.prog 27 [(.slice m_a m_n m_c)] (.one (.one .bool)) w0 fun (x1 : Bool) (w2 : World) =>
 br (!x1) (R (.tuple #[(.slice none 0 0), (.int .i64 1)]) w2)
 (call Try.prog 47 [(.slice m_a m_n m_c), (.slice chosen_a chosen_n chosen_c)] (.many [(.one (.int .i64)), (.one .bool)]) w2 fun (x3 : (Int × Bool × Unit)) (w4 : World) =>
 br (!x3.2.1) (R (.tuple #[(.slice none 0 0), (.int .i64 1)]) w4)
 (call Try.prog 43 [(.slice m_a m_n m_c)] (.one (.one .slice)) w4 fun (x5 : (Option Addr × Nat × Nat)) (w6 : World) =>
 loop (T := ((Option Addr × Nat × Nat) × Int × Unit)) ((none, 0, 0), 0, ()) w6 fun (again7 : ((Option Addr × Nat × Nat) × Int × Unit) → World → Prop) (s8 : ((Option Addr × Nat × Nat) × Int × Unit)) w9 => ∀ _ : Nat → Value,
 br (decide (s8.2.1 < ((x5.2.1 : Nat) : Int))) (join (T := ((Option Addr × Nat × Nat) × Unit)) (fun (s11 : ((Option Addr × Nat × Nat) × Unit)) w12 => ∀ _ : Nat → Value,
 z (IntKind.wrap .i64 (s8.2.1 + 1)) fun (z13 : Int) =>
 again7 ((s11.1.1, s11.1.2.1, s11.1.2.2), z13, ()) w12)
  fun (K10 : ((Option Addr × Nat × Nat) × Unit) → World → Prop) =>
 rdp Try.prog (Instr.indexAt 22 (.slice x5.1 x5.2.1 x5.2.2) (.int .i64 s8.2.1)) (.one .addr) fun (x14 : Addr) =>
 rd Try.prog (Instr.loadAt 3 (.pointer (some x14))) (.one (.int .i64)) w9 fun (x15 : Int) =>
 z (iand .i64 x15 x3.1) fun (z16 : Int) =>
 br (z16 == 0) (wr Try.prog (Instr.buildSlice 22 1 #[(0, (.int .i64 s8.2.1))]) (.one .slice) w9 fun (x17 : (Option Addr × Nat × Nat)) (w18 : World) =>
 wr Try.prog (Builtin.append_ #[22, 22] 22 #[(.slice s8.1.1 s8.1.2.1 s8.1.2.2), (.slice x17.1 x17.2.1 x17.2.2)]) (.one .slice) w18 fun (x19 : (Option Addr × Nat × Nat)) (w20 : World) =>
 K10 ((x19.1, x19.2.1, x19.2.2), ()) w20)
 (K10 ((s8.1.1, s8.1.2.1, s8.1.2.2), ()) w9))
 (R (.tuple #[(.slice s8.1.1 s8.1.2.1 s8.1.2.2), (.int .i64 0)]) w9)))
def H30 : Hints := ⟨[(2, 0, [(8, (.one .slice)), (25, (.one (.int .i64)))]), (1, 1, [(8, (.one .slice))])], [], [], []⟩
set_option maxRecDepth 100000 in
theorem S30_eq (m_a : Option Addr) (m_n : Nat) (m_c : Nat) (chosen_a : Option Addr) (chosen_n : Nat) (chosen_c : Nat) (w0 : World) (R : Value → World → Prop) : vcFn Try.prog H30 Try.f30 [(.slice m_a m_n m_c), (.slice chosen_a chosen_n chosen_c)] w0 R = S30 m_a m_n m_c chosen_a chosen_n chosen_c w0 R := by kernel_rfl
set_option maxRecDepth 100000 in
theorem S30_calls (m_a : Option Addr) (m_n : Nat) (m_c : Nat) (chosen_a : Option Addr) (chosen_n : Nat) (chosen_c : Nat) (w0 : World) (R : Value → World → Prop) (h : S30 m_a m_n m_c chosen_a chosen_n chosen_c w0 R) : Calls Try.prog 30 #[(.slice m_a m_n m_c), (.slice chosen_a chosen_n chosen_c)] w0 (ret R) := by
  rw [← S30_eq] at h; exact vcFn_sound follows_ Try.func30 h

/-- querylab/querylablaw31.small -/
def S20 (m_a : Option Addr) (m_n : Nat) (m_c : Nat) (w0 : World) (R : Value → World → Prop) : Prop :=
 br (decide (((m_n : Nat) : Int) > 20)) (R (.bool false) w0)
 (loop (T := (Int × Unit)) (0, ()) w0 fun (again1 : (Int × Unit) → World → Prop) (s2 : (Int × Unit)) w3 => ∀ _ : Nat → Value,
 br (decide (s2.1 < ((m_n : Nat) : Int))) (rdp Try.prog (Instr.indexAt 25 (.slice m_a m_n m_c) (.int .i64 s2.1)) (.one .addr) fun (x4 : Addr) =>
 rd Try.prog (Instr.loadAt 35 (.pointer (some x4))) (.one .slice) w3 fun (x5 : (Option Addr × Nat × Nat)) =>
 br (decide (((x5.2.1 : Nat) : Int) > 500)) (R (.bool false) w3)
 (z (IntKind.wrap .i64 (s2.1 + 1)) fun (z6 : Int) =>
 again1 (z6, ()) w3))
 (br (decide (((m_n : Nat) : Int) < 9)) (R (.bool true) w3)
 (rdp Try.prog (Instr.indexAt 25 (.slice m_a m_n m_c) (.int .i64 0)) (.one .addr) fun (x7 : Addr) =>
 rd Try.prog (Instr.loadAt 35 (.pointer (some x7))) (.one .slice) w3 fun (x8 : (Option Addr × Nat × Nat)) =>
 R (.bool (decide (((x8.2.1 : Nat) : Int) ≤ 60))) w3)))
def H20 : Hints := ⟨[(2, 0, [(10, (.one (.int .i64)))])], [], [], []⟩
set_option maxRecDepth 100000 in
theorem S20_eq (m_a : Option Addr) (m_n : Nat) (m_c : Nat) (w0 : World) (R : Value → World → Prop) : vcFn Try.prog H20 Try.f20 [(.slice m_a m_n m_c)] w0 R = S20 m_a m_n m_c w0 R := by kernel_rfl
set_option maxRecDepth 100000 in
theorem S20_calls (m_a : Option Addr) (m_n : Nat) (m_c : Nat) (w0 : World) (R : Value → World → Prop) (h : S20 m_a m_n m_c w0 R) : Calls Try.prog 20 #[(.slice m_a m_n m_c)] w0 (ret R) := by
  rw [← S20_eq] at h; exact vcFn_sound follows_ Try.func20 h

/-- querylab/querylablaw31.chosen -/
def S28 (s_ : (Option Addr)) (n_ : Int) (w0 : World) (R : Value → World → Prop) : Prop :=
 loop (T := ((Option Addr × Nat × Nat) × Int × Unit)) ((none, 0, 0), 0, ()) w0 fun (again1 : ((Option Addr × Nat × Nat) × Int × Unit) → World → Prop) (s2 : ((Option Addr × Nat × Nat) × Int × Unit)) w3 => ∀ _ : Nat → Value,
 br (decide (s2.2.1 < n_)) (join (T := ((Option Addr × Nat × Nat) × Unit)) (fun (s5 : ((Option Addr × Nat × Nat) × Unit)) w6 => ∀ _ : Nat → Value,
 z (IntKind.wrap .i64 (s2.2.1 + 1)) fun (z7 : Int) =>
 again1 ((s5.1.1, s5.1.2.1, s5.1.2.2), z7, ()) w6)
  fun (K4 : ((Option Addr × Nat × Nat) × Unit) → World → Prop) =>
 call Try.prog 18 [(.pointer s_), (.int .i64 2)] (.one (.one (.int .i64))) w3 fun (x8 : Int) (w9 : World) =>
 br (x8 == 1) (wr Try.prog (Instr.buildSlice 22 1 #[(0, (.int .i64 s2.2.1))]) (.one .slice) w9 fun (x10 : (Option Addr × Nat × Nat)) (w11 : World) =>
 wr Try.prog (Builtin.append_ #[22, 22] 22 #[(.slice s2.1.1 s2.1.2.1 s2.1.2.2), (.slice x10.1 x10.2.1 x10.2.2)]) (.one .slice) w11 fun (x12 : (Option Addr × Nat × Nat)) (w13 : World) =>
 K4 ((x12.1, x12.2.1, x12.2.2), ()) w13)
 (K4 ((s2.1.1, s2.1.2.1, s2.1.2.2), ()) w9))
 (call Try.prog 18 [(.pointer s_), (.int .i64 6)] (.one (.one (.int .i64))) w3 fun (x14 : Int) (w15 : World) =>
 br (x14 == 5) (call Try.prog 33 [(.pointer s_), (.int .i64 (-1)), (.int .i64 n_)] (.one (.one (.int .i64))) w15 fun (x16 : Int) (w17 : World) =>
 wr Try.prog (Instr.buildSlice 22 1 #[(0, (.int .i64 x16))]) (.one .slice) w17 fun (x18 : (Option Addr × Nat × Nat)) (w19 : World) =>
 wr Try.prog (Builtin.append_ #[22, 22] 22 #[(.slice s2.1.1 s2.1.2.1 s2.1.2.2), (.slice x18.1 x18.2.1 x18.2.2)]) (.one .slice) w19 fun (x20 : (Option Addr × Nat × Nat)) (w21 : World) =>
 R (.slice x20.1 x20.2.1 x20.2.2) w21)
 (R (.slice s2.1.1 s2.1.2.1 s2.1.2.2) w15))
def H28 : Hints := ⟨[(2, 0, [(5, (.one .slice)), (6, (.one (.int .i64)))]), (1, 1, [(5, (.one .slice))])], [], [], []⟩
set_option maxRecDepth 100000 in
theorem S28_eq (s_ : (Option Addr)) (n_ : Int) (w0 : World) (R : Value → World → Prop) : vcFn Try.prog H28 Try.f28 [(.pointer s_), (.int .i64 n_)] w0 R = S28 s_ n_ w0 R := by kernel_rfl
set_option maxRecDepth 100000 in
theorem S28_calls (s_ : (Option Addr)) (n_ : Int) (w0 : World) (R : Value → World → Prop) (h : S28 s_ n_ w0 R) : Calls Try.prog 28 #[(.pointer s_), (.int .i64 n_)] w0 (ret R) := by
  rw [← S28_eq] at h; exact vcFn_sound follows_ Try.func28 h

/-- (*querylab/querylabfield.Tape).Pick -/
def S21 (t_ : (Option Addr)) (l_a : Option Addr) (l_n : Nat) (l_c : Nat) (w0 : World) (R : Value → World → Prop) : Prop :=
 call Try.prog 18 [(.pointer t_), (.int .i64 ((l_n : Nat) : Int))] (.one (.one (.int .i64))) w0 fun (x1 : Int) (w2 : World) =>
 rdp Try.prog (Instr.indexAt 22 (.slice l_a l_n l_c) (.int .i64 x1)) (.one .addr) fun (x3 : Addr) =>
 rd Try.prog (Instr.loadAt 3 (.pointer (some x3))) (.one (.int .i64)) w2 fun (x4 : Int) =>
 R (.int .i64 x4) w2
def H21 : Hints := ⟨[], [], [], []⟩
set_option maxRecDepth 100000 in
theorem S21_eq (t_ : (Option Addr)) (l_a : Option Addr) (l_n : Nat) (l_c : Nat) (w0 : World) (R : Value → World → Prop) : vcFn Try.prog H21 Try.f21 [(.pointer t_), (.slice l_a l_n l_c)] w0 R = S21 t_ l_a l_n l_c w0 R := by kernel_rfl
set_option maxRecDepth 100000 in
theorem S21_calls (t_ : (Option Addr)) (l_a : Option Addr) (l_n : Nat) (l_c : Nat) (w0 : World) (R : Value → World → Prop) (h : S21 t_ l_a l_n l_c w0 R) : Calls Try.prog 21 #[(.pointer t_), (.slice l_a l_n l_c)] w0 (ret R) := by
  rw [← S21_eq] at h; exact vcFn_sound follows_ Try.func21 h

/-- querylab/querylablaw31.SuiteAnswers -/
def S6 (t_a : Option Addr) (t_n : Nat) (t_c : Nat) (raw_a : Option Addr) (raw_n : Nat) (raw_c : Nat) (l_a : Option Addr) (l_n : Nat) (l_c : Nat) (w0 : World) (R : Value → World → Prop) : Prop :=
 call Try.prog 20 [(.slice raw_a raw_n raw_c)] (.one (.one .bool)) w0 fun (x1 : Bool) (w2 : World) =>
 br (!x1) (call Try.prog 16 [] (.one (.one .bool)) w2 fun (x3 : Bool) (w4 : World) =>
 R (.bool x3) w4)
 (br (decide (((l_n : Nat) : Int) > 50)) (call Try.prog 16 [] (.one (.one .bool)) w2 fun (x5 : Bool) (w6 : World) =>
 R (.bool x5) w6)
 (call Try.prog 8 [(.slice t_a t_n t_c)] (.one (.one .ptr)) w2 fun (x7 : (Option Addr)) (w8 : World) =>
 call Try.prog 9 [(.pointer x7), (.int .i64 6), (.int .i64 14)] (.one (.one .slice)) w8 fun (x9 : (Option Addr × Nat × Nat)) (w10 : World) =>
 wr Try.prog (Instr.buildSlice 25 0 #[]) (.one .slice) w10 fun (x11 : (Option Addr × Nat × Nat)) (w12 : World) =>
 wr Try.prog (Builtin.append_ #[25, 25] 25 #[(.slice x11.1 x11.2.1 x11.2.2), (.slice x9.1 x9.2.1 x9.2.2)]) (.one .slice) w12 fun (x13 : (Option Addr × Nat × Nat)) (w14 : World) =>
 call Try.prog 18 [(.pointer x7), (.int .i64 4)] (.one (.one (.int .i64))) w14 fun (x15 : Int) (w16 : World) =>
 wr Try.prog (Instr.makeSlice 35 (.int .i64 x15) (.int .i64 x15)) (.one .slice) w16 fun (x17 : (Option Addr × Nat × Nat)) (w18 : World) =>
 wr Try.prog (Instr.buildSlice 25 1 #[(0, (.slice x17.1 x17.2.1 x17.2.2))]) (.one .slice) w18 fun (x19 : (Option Addr × Nat × Nat)) (w20 : World) =>
 wr Try.prog (Builtin.append_ #[25, 25] 25 #[(.slice x13.1 x13.2.1 x13.2.2), (.slice x19.1 x19.2.1 x19.2.2)]) (.one .slice) w20 fun (x21 : (Option Addr × Nat × Nat)) (w22 : World) =>
 wr Try.prog (Instr.buildSlice 22 2 #[(0, (.int .i64 15)), (1, (.int .i64 2))]) (.one .slice) w22 fun (x23 : (Option Addr × Nat × Nat)) (w24 : World) =>
 call Try.prog 21 [(.pointer x7), (.slice x23.1 x23.2.1 x23.2.2)] (.one (.one (.int .i64))) w24 fun (x25 : Int) (w26 : World) =>
 wr Try.prog (Instr.makeSlice 25 (.int .i64 x25) (.int .i64 x25)) (.one .slice) w26 fun (x27 : (Option Addr × Nat × Nat)) (w28 : World) =>
 join (T := (Unit)) (fun (_s30 : (Unit)) w31 => ∀ _ : Nat → Value,
 wr Try.prog (Instr.buildSlice 41 4 #[(0, (.slice x9.1 x9.2.1 x9.2.2)), (1, (.slice raw_a raw_n raw_c)), (2, (.slice x21.1 x21.2.1 x21.2.2)), (3, (.slice x27.1 x27.2.1 x27.2.2))]) (.one .slice) w31 fun (x32 : (Option Addr × Nat × Nat)) (w33 : World) =>
 loop (T := (Int × Unit)) (0, ()) w33 fun (again34 : (Int × Unit) → World → Prop) (s35 : (Int × Unit)) w36 => ∀ _ : Nat → Value,
 br (decide (s35.1 < ((x32.2.1 : Nat) : Int))) (rdp Try.prog (Instr.indexAt 41 (.slice x32.1 x32.2.1 x32.2.2) (.int .i64 s35.1)) (.one .addr) fun (x37 : Addr) =>
 rd Try.prog (Instr.loadAt 25 (.pointer (some x37))) (.one .slice) w36 fun (x38 : (Option Addr × Nat × Nat)) =>
 call Try.prog 10 [(.slice x38.1 x38.2.1 x38.2.2)] (.many [(.one .slice), (.one (.int .i64))]) w36 fun (x39 : ((Option Addr × Nat × Nat) × Int × Unit)) (w40 : World) =>
 call Try.prog 22 [(.slice x38.1 x38.2.1 x38.2.2)] (.many [(.one .slice), (.one (.int .i64))]) w40 fun (x41 : ((Option Addr × Nat × Nat) × Int × Unit)) (w42 : World) =>
 call Try.prog 11 [(.slice x38.1 x38.2.1 x38.2.2)] (.many [(.one .slice), (.one (.int .i64))]) w42 fun (x43 : ((Option Addr × Nat × Nat) × Int × Unit)) (w44 : World) =>
 call Try.prog 23 [(.slice x38.1 x38.2.1 x38.2.2)] (.many [(.one .slice), (.one (.int .i64))]) w44 fun (x45 : ((Option Addr × Nat × Nat) × Int × Unit)) (w46 : World) =>
 call Try.prog 12 [(.slice x38.1 x38.2.1 x38.2.2)] (.many [(.one .slice), (.one (.int .i64))]) w46 fun (x47 : ((Option Addr × Nat × Nat) × Int × Unit)) (w48 : World) =>
 call Try.prog 24 [(.slice x38.1 x38.2.1 x38.2.2)] (.many [(.one .slice), (.one (.int .i64))]) w48 fun (x49 : ((Option Addr × Nat × Nat) × Int × Unit)) (w50 : World) =>
 call Try.prog 13 [(.slice x38.1 x38.2.1 x38.2.2)] (.many [(.one .slice), (.one (.int .i64))]) w50 fun (x51 : ((Option Addr × Nat × Nat) × Int × Unit)) (w52 : World) =>
 call Try.prog 25 [(.slice x38.1 x38.2.1 x38.2.2)] (.many [(.one .slice), (.one (.int .i64))]) w52 fun (x53 : ((Option Addr × Nat × Nat) × Int × Unit)) (w54 : World) =>
 join (T := (Bool × Unit)) (fun (s56 : (Bool × Unit)) w57 => ∀ _ : Nat → Value,
 br s56.1 (R (.bool false) w57)
 (call Try.prog 28 [(.pointer x7), (.int .i64 ((x38.2.1 : Nat) : Int))] (.one (.one .slice)) w57 fun (x58 : (Option Addr × Nat × Nat)) (w59 : World) =>
 wr Try.prog (Instr.buildSlice 43 3 #[(0, (.slice l_a l_n l_c)), (1, (.slice x58.1 x58.2.1 x58.2.2)), (2, (.slice x41.1.1 x41.1.2.1 x41.1.2.2))]) (.one .slice) w59 fun (x60 : (Option Addr × Nat × Nat)) (w61 : World) =>
 loop (T := (Int × Unit)) (0, ()) w61 fun (again62 : (Int × Unit) → World → Prop) (s63 : (Int × Unit)) w64 => ∀ _ : Nat → Value,
 br (decide (s63.1 < ((x60.2.1 : Nat) : Int))) (rdp Try.prog (Instr.indexAt 43 (.slice x60.1 x60.2.1 x60.2.2) (.int .i64 s63.1)) (.one .addr) fun (x65 : Addr) =>
 rd Try.prog (Instr.loadAt 22 (.pointer (some x65))) (.one .slice) w64 fun (x66 : (Option Addr × Nat × Nat)) =>
 call Try.prog 29 [(.slice x38.1 x38.2.1 x38.2.2), (.slice x66.1 x66.2.1 x66.2.2)] (.many [(.one .slice), (.one (.int .i64))]) w64 fun (x67 : ((Option Addr × Nat × Nat) × Int × Unit)) (w68 : World) =>
 call Try.prog 30 [(.slice x38.1 x38.2.1 x38.2.2), (.slice x66.1 x66.2.1 x66.2.2)] (.many [(.one .slice), (.one (.int .i64))]) w68 fun (x69 : ((Option Addr × Nat × Nat) × Int × Unit)) (w70 : World) =>
 br (x67.2.1 != x69.2.1) (R (.bool false) w70)
 (call Try.prog 19 [(.slice x67.1.1 x67.1.2.1 x67.1.2.2), (.slice x69.1.1 x69.1.2.1 x69.1.2.2)] (.one (.one .bool)) w70 fun (x71 : Bool) (w72 : World) =>
 br (!x71) (R (.bool false) w72)
 (call Try.prog 14 [(.slice x38.1 x38.2.1 x38.2.2), (.slice x66.1 x66.2.1 x66.2.2)] (.one (.one .bool)) w72 fun (x73 : Bool) (w74 : World) =>
 call Try.prog 31 [(.slice x38.1 x38.2.1 x38.2.2), (.slice x66.1 x66.2.1 x66.2.2)] (.one (.one .bool)) w74 fun (x75 : Bool) (w76 : World) =>
 br (!(x73 == x75)) (R (.bool false) w76)
 (z (IntKind.wrap .i64 (s63.1 + 1)) fun (z77 : Int) =>
 again62 (z77, ()) w76))))
 (z (IntKind.wrap .i64 (s35.1 + 1)) fun (z78 : Int) =>
 again34 (z78, ()) w64)))
  fun (K55 : (Bool × Unit) → World → Prop) =>
 br (x39.2.1 != x41.2.1) (K55 (true, ()) w54)
 (br (x43.2.1 != x45.2.1) (K55 (true, ()) w54)
 (br (x47.2.1 != x49.2.1) (K55 (true, ()) w54)
 (br (x51.2.1 != x53.2.1) (K55 (true, ()) w54)
 (call Try.prog 19 [(.slice x39.1.1 x39.1.2.1 x39.1.2.2), (.slice x41.1.1 x41.1.2.1 x41.1.2.2)] (.one (.one .bool)) w54 fun (x79 : Bool) (w80 : World) =>
 br (!x79) (K55 (true, ()) w80)
 (call Try.prog 19 [(.slice x43.1.1 x43.1.2.1 x43.1.2.2), (.slice x45.1.1 x45.1.2.1 x45.1.2.2)] (.one (.one .bool)) w80 fun (x81 : Bool) (w82 : World) =>
 br (!x81) (K55 (true, ()) w82)
 (call Try.prog 19 [(.slice x47.1.1 x47.1.2.1 x47.1.2.2), (.slice x49.1.1 x49.1.2.1 x49.1.2.2)] (.one (.one .bool)) w82 fun (x83 : Bool) (w84 : World) =>
 br (!x83) (K55 (true, ()) w84)
 (call Try.prog 19 [(.slice x51.1.1 x51.1.2.1 x51.1.2.2), (.slice x53.1.1 x53.1.2.1 x53.1.2.2)] (.one (.one .bool)) w84 fun (x85 : Bool) (w86 : World) =>
 br (!x85) (K55 (true, ()) w86)
 (call Try.prog 26 [(.slice x38.1 x38.2.1 x38.2.2)] (.one (.one .bool)) w86 fun (x87 : Bool) (w88 : World) =>
 call Try.prog 27 [(.slice x38.1 x38.2.1 x38.2.2)] (.one (.one .bool)) w88 fun (x89 : Bool) (w90 : World) =>
 K55 ((!(x87 == x89)), ()) w90)))))))))
 (call Try.prog 16 [] (.one (.one .bool)) w36 fun (x91 : Bool) (w92 : World) =>
 R (.bool x91) w92))
  fun (K29 : (Unit) → World → Prop) =>
 br (((x27.2.1 : Nat) : Int) == 2) (drw w28 fun w93 => flExC w93 fun E96 G95 Y94 F97 =>
 flcC Y94 2 E96 w93 (fun _w99 => True) (fun (D100 : Nat → Bool) (w98 : World) =>
   wr Try.prog (Instr.makeSlice 35 (.int .i64 401) (.int .i64 401)) (.one .slice) w98 fun (x101 : (Option Addr × Nat × Nat)) (w102 : World) =>
 (E96 w98 w102 ∧ G95 2 w98 w102 ∧ Y94 (setD D100 2) w102 ∧ F97 2 [] (.slice x101.1 x101.2.1 x101.2.2) w102))
  fun (x103 : (Option Addr × Nat × Nat)) =>
 flcC Y94 3 E96 w93 (fun _w105 => True) (fun (D106 : Nat → Bool) (w104 : World) =>
   wr Try.prog (Instr.makeSlice 35 (.int .i64 401) (.int .i64 401)) (.one .slice) w104 fun (x107 : (Option Addr × Nat × Nat)) (w108 : World) =>
 (E96 w104 w108 ∧ G95 3 w104 w108 ∧ Y94 (setD D106 3) w108 ∧ F97 3 [] (.slice x107.1 x107.2.1 x107.2.2) w108))
  fun (x109 : (Option Addr × Nat × Nat)) =>
 rdp Try.prog (Instr.indexAt 25 (.slice x27.1 x27.2.1 x27.2.2) (.int .i64 0)) (.one .addr) fun (x110 : Addr) =>
 flcC Y94 5 E96 w93 (fun w112 => F97 2 [] (.slice x103.1 x103.2.1 x103.2.2) w112 ∧ True) (fun (D113 : Nat → Bool) (w111 : World) =>
   wu Try.prog (Instr.storeAt 35 (.pointer (some x110)) (.slice x103.1 x103.2.1 x103.2.2)) w111 fun (w114 : World) =>
 (E96 w111 w114 ∧ G95 5 w111 w114 ∧ Y94 (setD D113 5) w114 ∧ F97 5 [] undef w114))
  fun (_x115 : (Unit)) =>
 flendC Y94 [5, 3, 2] E96 w93 (fun w117 => F97 5 [] (.tuple #[]) w117 ∧ F97 3 [] (.slice x109.1 x109.2.1 x109.2.2) w117 ∧ F97 2 [] (.slice x103.1 x103.2.1 x103.2.2) w117 ∧ True) fun w116 =>
 rdp Try.prog (Instr.indexAt 25 (.slice x27.1 x27.2.1 x27.2.2) (.int .i64 1)) (.one .addr) fun (x118 : Addr) =>
 wu Try.prog (Instr.storeAt 35 (.pointer (some x118)) (.slice x109.1 x109.2.1 x109.2.2)) w116 fun (w119 : World) =>
 K29 (()) w119)
 (K29 (()) w28)))
def H6 : Hints := ⟨[(0, 62, []), (2, 0, [(75, (.one (.int .i64)))]), (3, 20, [(167, (.one .bool))]), (2, 2, [(176, (.one (.int .i64)))])], [(8, 6)], [], [1000008]⟩
set_option maxRecDepth 100000 in
theorem S6_eq (t_a : Option Addr) (t_n : Nat) (t_c : Nat) (raw_a : Option Addr) (raw_n : Nat) (raw_c : Nat) (l_a : Option Addr) (l_n : Nat) (l_c : Nat) (w0 : World) (R : Value → World → Prop) : vcFn Try.prog H6 Try.f6 [(.slice t_a t_n t_c), (.slice raw_a raw_n raw_c), (.slice l_a l_n l_c)] w0 R = S6 t_a t_n t_c raw_a raw_n raw_c l_a l_n l_c w0 R := by kernel_rfl
set_option maxRecDepth 100000 in
theorem S6_calls (t_a : Option Addr) (t_n : Nat) (t_c : Nat) (raw_a : Option Addr) (raw_n : Nat) (raw_c : Nat) (l_a : Option Addr) (l_n : Nat) (l_c : Nat) (w0 : World) (R : Value → World → Prop) (h : S6 t_a t_n t_c raw_a raw_n raw_c l_a l_n l_c w0 R) : Calls Try.prog 6 #[(.slice t_a t_n t_c), (.slice raw_a raw_n raw_c), (.slice l_a l_n l_c)] w0 (ret R) := by
  rw [← S6_eq] at h; exact vcFn_sound follows_ Try.func6 h

end Go.Proofs

/- The reference: Valid, masks, choice, covers, Covers, Survivors. -/


namespace Go.Proofs.Ytaomejbaocehnaa
open Go.RowKit Go.Q Go.V

theorem validR (m : Hdr) (M : List (List Bool)) (w : World) (H : TabB w m M) :
    call Try.prog 27 [.slice m.1 m.2.1 m.2.2] (.one (.one .bool)) w (fun x w' => (x = true ↔ ValidM M) ∧ bel w w') := by
  refine call_of (S27_calls m.1 m.2.1 m.2.2 w _ ?_)
  unfold S27
  have hl := H.len
  have no : ∀ {w' : World}, bel w w' → ¬ ValidM M → ∃ x : Bool, Value.bool false = (RS.one (.one .bool)).val x ∧ (x = true ↔ ValidM M) ∧ bel w w' := fun hb q => ⟨false, rfl, ⟨(fun e => by cases e), fun e => absurd e q⟩, hb⟩
  refine br_dec (fun e => no (bel.refl _) fun q => by have := q.n; omega) (fun e => ?_)
  refine loop_up M.length (fun i w' => bel w w' ∧ ∀ j, j < i → ∀ r, M[j]? = some r → r.length = width M ∧ r.length ≤ 400) ⟨bel.refl _, fun j hj => by omega⟩ fun i w3 hi ⟨hb, hp⟩ again hag _ => ?_
  refine br_dec (fun e1 => ?_) (fun e1 => ?_)
  · dsimp only at e1
    refine Tab.at (H.up hb) tyM (by kernel_rfl) rfl (by omega) fun x5 r hr S5 => ?_
    have l5 := S5.bool
    refine Tab.at (H.up hb) tyM (by kernel_rfl) (j := 0) rfl (by omega) fun x7 r0 hr0 S7 => ?_
    have l7 := S7.bool
    have hw := width_at hr0
    refine br_ne (fun e => no hb fun q => ?_) (fun e2 => ?_)
    · have := (q.row r (mem_at hr)).1; omega
    refine br_dec (fun e => no hb fun q => ?_) (fun e3 => ?_)
    · have := (q.row r (mem_at hr)).2; omega
    refine z_i64 (by dsimp only; omega) ?_
    exact hag _ (by omega) ⟨hb, pre_step hp hr ⟨by omega, by omega⟩⟩
  · dsimp only at e1
    exact ⟨true, rfl, ⟨fun _ => ⟨by omega, pre_all hp (by omega)⟩, fun _ => rfl⟩, hb⟩
theorem masksR (m : Hdr) (M : List (List Bool)) (w : World) (H : TabB w m M) (V : ValidM M) :
    call Try.prog 43 [.slice m.1 m.2.1 m.2.2] (.one (.one .slice)) w (fun (x : Hdr) w' => OwnN w' w.heap.size x (masks M) ∧ bel w w') := by
  refine call_of (S43_calls m.1 m.2.1 m.2.2 w _ ?_)
  unfold S43
  have hl := H.len
  have v1 := V.n
  have v2 := V.w400
  refine nat_eq0 (fun e => ?_) (fun e0 => ?_)
  · have : M = [] := List.eq_nil_of_length_eq_zero (by omega)
    subst this
    exact ⟨((none, 0, 0) : Hdr), rfl, Own.nil _ _ _ _, bel.refl _⟩
  refine Tab.at H tyM (by kernel_rfl) (j := 0) rfl (by omega) fun x2 r0 hr0 S2 => ?_
  have hw := width_at hr0
  have l2 := S2.bool
  have e2 : x2.2.1 = width M := by omega
  rw [e2]
  refine wr_make tyI (width M) rfl rfl (by omega) (by unfold maxLen; omega) fun cd w4 O h4 _ _ => ?_
  replace O := O w.heap.size (Nat.le_refl _)
  rw [zeros_n, mk_zero] at O
  refine loop_up M.length (fun i w' => bel w w' ∧ Own w' w.heap.size 3 1 (some cd) (width M) (width M) (nats .i64 (mk (width M) (msk M i)))) ⟨h4, O⟩ fun i w7 hi ⟨hb, O⟩ again hag _ => ?_
  refine br_dec (fun e1 => ?_) (fun e1 => ?_)
  · dsimp only at e1
    refine row_up H hb rfl (by omega) fun x9 r hr S9 => ?_
    have l9 := S9.bool
    have lr := (V.row r (mem_at hr)).1
    refine loop_up (width M) (fun k w' => bel w w' ∧ Own w' w.heap.size 3 1 (some cd) (width M) (width M) (nats .i64 (mk (width M) fun j => if j < k then msk M (i + 1) j else msk M i j)))
      ⟨hb, by rw [mk_congr (g := msk M i) fun j _ => by rw [if_neg (by omega)]]; exact O⟩ fun k w12 hk ⟨hb, O⟩ again2 hag2 _ => ?_
    refine br_dec (fun e2 => ?_) (fun e2 => ?_)
    · dsimp only at e2
      have hkw : k < width M := by omega
      refine join_mk (fun _ w' => bel w w' ∧ Own w' w.heap.size 3 1 (some cd) (width M) (width M) (nats .i64 (mk (width M) fun j => if j < k + 1 then msk M (i + 1) j else msk M i j))) (fun K hK => ?_) (fun _ w15 hJ _ => ?_)
      · refine at_bool tyB (by kernel_rfl) (S9.up hb) rfl (by omega) fun b hbb => ?_
        have eb := bm_at hr hbb
        refine br_mk (fun et => ?_) (fun et => ?_)
        · refine nat_mk (h := (some cd, width M, width M)) O.sl rfl (by rw [mk_len]; exact hkw) fun x hx => ?_
          rw [mk_at hkw] at hx
          injection hx with hx
          rw [if_neg (by omega)] at hx
          have hlt := msk_lt M i k
          refine z_u64 (by dsimp only; omega) ?_
          refine shl1 i rfl (by omega) ?_
          refine z_or (a := x) (b := 2 ^ i) rfl rfl (lt63 (n := i) (by omega) (by omega)) (lt63 (n := i + 1) (Nat.pow_lt_pow_right (by omega) (by omega)) (by omega)) ?_
          refine set_mk tyI O rfl hkw rfl fun w25 O' hg _ => ?_
          rw [nats_set, mk_set] at O'
          refine hK () _ ⟨hb.grownAt hg (O.lt cd.block rfl).1, ?_⟩
          rw [mk_congr (g := fun j => if j = k then x ||| 2 ^ i else if j < k then msk M (i + 1) j else msk M i j) fun j _ => ?_]
          · exact O'
          · by_cases z : j = k
            · subst z
              rw [if_pos (by omega), if_pos rfl, ← hx]
              show (if bm M i j then _ else _) = _
              rw [eb, et]; rfl
            · rw [if_neg z]
              by_cases z2 : j < k
              · rw [if_pos (by omega), if_pos z2]
              · rw [if_neg (by omega), if_neg z2]
        · refine hK () _ ⟨hb, ?_⟩
          rw [mk_congr (g := fun j => if j < k then msk M (i + 1) j else msk M i j) fun j _ => ?_]
          · exact O
          · by_cases z : j = k
            · subst z
              rw [if_pos (by omega), if_neg (by omega)]
              show (if bm M i j then _ else _) = _
              rw [eb, et]; rfl
            · by_cases z2 : j < k
              · rw [if_pos (by omega), if_pos z2]
              · rw [if_neg (by omega), if_neg z2]
      · refine z_i64 (by dsimp only; omega) ?_
        exact hag2 _ hkw hJ
    · dsimp only at e2
      have hkw : k = width M := by omega
      subst hkw
      refine z_i64 (by dsimp only; omega) ?_
      refine hag _ (by omega) ⟨hb, ?_⟩
      rw [mk_congr (g := fun j => if j < width M then msk M (i + 1) j else msk M i j) fun j hj => by rw [if_pos hj]]
      exact O
  · dsimp only at e1
    have hin : i = M.length := by omega
    subst hin
    exact ⟨((some cd, width M, width M) : Hdr), rfl, O, hb⟩
theorem choiceR (m c : Hdr) (M : List (List Bool)) (xs : List Int) (w : World) (hl : M.length = m.2.1) (hn : M.length ≤ 14) (HC : SlI w c xs) :
    call Try.prog 47 [.slice m.1 m.2.1 m.2.2, .slice c.1 c.2.1 c.2.2] rIB w (fun x w' => SetR M.length xs x ∧ bel w w') := by
  refine call_of (S47_calls m.1 m.2.1 m.2.2 c.1 c.2.1 c.2.2 w _ ?_)
  unfold S47
  have hc := HC.int
  have hcl := HC.le
  have no : ∀ {w' : World}, bel w w' → ¬ AscI M.length xs → ∃ x : Int × Bool × Unit, Value.tuple #[.int .i64 0, .bool false] = rIB.val x ∧ SetR M.length xs x ∧ bel w w' := fun hb q => ⟨(0, false, ()), rfl, ⟨(fun e => by cases e), fun _ => q⟩, hb⟩
  refine loop_gh (G := List Nat × List Int) (fun g s w' => s = (((bitsOf g.1 : Nat) : Int), (g.1.length : Int), ()) ∧ xs = g.1.map (fun k : Nat => (k : Int)) ++ g.2 ∧ Asc M.length 0 g.1 ∧ bel w w') (fun g => g.2.length) ([], xs) ⟨rfl, rfl, trivial, bel.refl _⟩ ?_
  rintro ⟨ys, rest⟩ s w3 ⟨rfl, hx, ha, hb⟩ again hag _
  dsimp only at hx ha hag
  have hlen : xs.length = ys.length + rest.length := by rw [hx]; simp
  have hbl : bitsOf ys < 2 ^ M.length := bits_lt fun y hy => (ha.lt y hy).2
  refine br_dec (fun e => ?_) (fun e => ?_)
  · dsimp only at e
    cases rest with
    | nil => simp at hlen; omega
    | cons x rest =>
    have hxi : xs[ys.length]? = some x := by rw [hx]; simp
    refine join_mk (fun s w' => s.1 = ((bitsOf (ys ++ [x.toNat]) : Nat) : Int) ∧ 0 ≤ x ∧ Asc M.length 0 (ys ++ [x.toNat]) ∧ bel w w') (fun K hK => ?_) (fun s w6 hJ _ => ?_)
    · refine at_int tyI (by kernel_rfl) (HC.up hb) (j := ys.length) rfl (by simp at hlen; omega) fun y hy => ?_
      rw [hxi] at hy; cases hy
      refine join_mk (fun _ w' => (0 ≤ x ∧ x < M.length ∧ ∀ y ∈ ys, (y : Int) < x) ∧ w3 = w') (fun K2 hK2 => ?_) (fun _ w12 hJ _ => ?_)
      · refine br_dec (fun e1 => no hb fun q => ?_) (fun e1 => ?_)
        · rw [hx] at q; have := (ascI_mid q).1; omega
        refine br_dec (fun e2 => no hb fun q => ?_) (fun e2 => ?_)
        · rw [hx] at q; have := (ascI_mid q).2.1; omega
        refine br_dec (fun e3 => ?_) (fun e3 => ?_)
        · dsimp only at e3
          refine z_i64 (by dsimp only; omega) ?_
          have hlast : ys.length - 1 < ys.length := by omega
          refine at_int tyI (by kernel_rfl) (HC.up hb) (j := ys.length - 1) (by dsimp only; omega) (by omega) fun y hy => ?_
          have ey : y = ((ys[ys.length - 1]) : Int) := by
            rw [hx, List.getElem?_append_left (by simp; omega)] at hy
            simp [List.getElem?_eq_getElem hlast] at hy
            exact hy.symm
          refine br_dec (fun e4 => no hb fun q => ?_) (fun e4 => ?_)
          · rw [hx] at q
            have := (ascI_mid q).2.2 _ (List.getElem_mem hlast)
            omega
          · refine hK2 () _ ⟨⟨by omega, by omega, fun z hz => ?_⟩, rfl⟩
            have hle : ∀ {a : Nat} {l : List Nat}, Asc M.length a l → ∀ z ∈ l, ∀ (h : l.length - 1 < l.length), z ≤ l[l.length - 1] := by
              intro a l
              induction l generalizing a with
              | nil => intro _ z hz; cases hz
              | cons b l ih =>
                intro hA z hz h
                cases l with
                | nil => simp at hz; subst hz; simp
                | cons b2 l =>
                  have i1 := ih hA.2.2
                  have hb : b < b2 := by have := hA.2.2.1; omega
                  have e : (b :: b2 :: l)[(b :: b2 :: l).length - 1] = (b2 :: l)[(b2 :: l).length - 1] := by simp
                  rw [e]
                  rcases List.mem_cons.1 hz with rfl | hz
                  · have := i1 b2 (by simp) (by simp); omega
                  · exact i1 z hz (by simp)
            have := hle ha z hz hlast
            omega
        · dsimp only at e3
          have : ys = [] := List.eq_nil_of_length_eq_zero (by omega)
          subst this
          exact hK2 () _ ⟨⟨by omega, by omega, by simp⟩, rfl⟩
      · obtain ⟨⟨h1, h2, h3⟩, rfl⟩ := hJ
        refine z_u64 (by omega) ?_
        refine shl1 x.toNat (by omega) (by omega) ?_
        refine z_or (a := bitsOf ys) (b := 2 ^ x.toNat) rfl rfl (lt63 hbl hn) (lt63 (n := 14) (Nat.pow_lt_pow_right (by omega) (by omega)) (Nat.le_refl _)) ?_
        exact hK _ _ ⟨by rw [bits_snoc], h1, asc_snoc ha (by omega) (Nat.zero_le _) (fun y hy => by have := h3 y hy; omega), hb⟩
    · obtain ⟨sv, _⟩ := s
      obtain ⟨e1, h0, ha', hb'⟩ := hJ
      dsimp only at e1
      subst e1
      refine z_i64 (by simp at hlen; dsimp only; omega) ?_
      refine hag (ys ++ [x.toNat], rest) _ _ ⟨by simp, ?_, ha', hb'⟩ (by simp)
      rw [hx]
      simp
      omega
  · dsimp only at e
    have hr : rest = [] := List.eq_nil_of_length_eq_zero (by omega)
    subst hr
    exact ⟨(((bitsOf ys : Nat) : Int), true, ()), rfl, ⟨fun _ => ⟨ys, by rw [hx]; simp, ha, rfl⟩, (fun e => by cases e)⟩, hb⟩
theorem coversR (l : Hdr) (L : List Nat) (s : Nat) (w : World) (H : SlN w l L) (hL : ∀ c ∈ L, c < 2 ^ 63) (hs : s < 2 ^ 63) :
    call Try.prog 46 [.slice l.1 l.2.1 l.2.2, .int .i64 (s : Int)] (.one (.one .bool)) w (fun x w' => x = covB L s ∧ bel w w') := by
  refine call_of (S46_calls l.1 l.2.1 l.2.2 (s : Int) w _ ?_)
  unfold S46
  have hl := H.nat
  have hle := H.le
  refine loop_up L.length (fun i w' => w = w' ∧ ∀ j, j < i → ∀ c, L[j]? = some c → c ≠ 0 → c &&& s ≠ 0) ⟨rfl, fun j hj => by omega⟩ fun i w3 hi ⟨hw, hp⟩ again hag _ => ?_
  subst hw
  refine br_dec (fun e => ?_) (fun e => ?_)
  · dsimp only at e
    refine join_mk (fun _ w' => w = w' ∧ ∀ j, j < i + 1 → ∀ c, L[j]? = some c → c ≠ 0 → c &&& s ≠ 0) (fun K hK => ?_) (fun _ w6 hJ _ => ?_)
    · refine nat_mk H rfl (by omega) fun c hc => ?_
      have hcm := List.mem_of_getElem? hc
      refine nat_ne0 (fun e1 => ?_) (fun e1 => hK () _ ⟨rfl, pre_step hp hc (fun q => absurd e1 q)⟩)
      refine z_and (a := c) (b := s) rfl rfl (hL c hcm) hs ?_
      refine nat_eq0 (fun e2 => ?_) (fun e2 => hK () _ ⟨rfl, pre_step hp hc (fun _ => e2)⟩)
      refine ⟨false, rfl, ?_, bel.refl _⟩
      cases hcv : covB L s with
      | false => rfl
      | true => exact absurd e2 (covB_iff.1 hcv c hcm e1)
    · refine z_i64 (by dsimp only; omega) ?_
      exact hag _ (by omega) hJ
  · dsimp only at e
    refine ⟨true, rfl, (covB_iff.2 fun c hc h0 => ?_).symm, bel.refl _⟩
    exact pre_all (p := fun c => c ≠ 0 → c &&& s ≠ 0) hp (by omega) c hc h0
theorem CoversR (m c : Hdr) (M : List (List Bool)) (xs : List Int) (w : World) (H : TabB w m M) (HC : SlI w c xs) :
    call Try.prog 31 [.slice m.1 m.2.1 m.2.2, .slice c.1 c.2.1 c.2.2] (.one (.one .bool)) w (fun x w' => (x = true ↔ CovP M xs) ∧ bel w w') := by
  refine call_of (S31_calls m.1 m.2.1 m.2.2 c.1 c.2.1 c.2.2 w _ ?_)
  unfold S31
  have no : ∀ {w' : World}, bel w w' → ¬ CovP M xs → ∃ x : Bool, Value.bool false = (RS.one (.one .bool)).val x ∧ (x = true ↔ CovP M xs) ∧ bel w w' := fun hb q => ⟨false, rfl, ⟨(fun e => by cases e), fun e => absurd e q⟩, hb⟩
  refine call_mono (validR m M w H) ?_
  rintro (x1 : Bool) w2 ⟨hv, h2⟩
  refine br_not (fun e => no h2 fun q => by have := hv.2 q.1; rw [e] at this; cases this) (fun e => ?_)
  have V := hv.1 e
  refine call_mono (choiceR m c M xs w2 H.len V.n (HC.up h2)) ?_
  rintro (x3 : Int × Bool × Unit) w4 ⟨hS, h4⟩
  replace h2 := h2.trans h4
  refine br_mk (fun e3 => ?_) (fun e3 => no h2 fun q => hS.2 e3 (by obtain ⟨_, ys, q1, q2, _⟩ := q; exact ⟨ys, q1, q2⟩))
  obtain ⟨ys, q1, q2, q3⟩ := hS.1 e3
  refine call_mono (masksR m M w4 (H.up h2) V) ?_
  rintro (x5 : Hdr) w6 ⟨O, h6⟩
  rw [q3]
  refine call_mono (coversR x5 (masks M) (bitsOf ys) w6 O.sl (masks_63 V) (bits_63 q2 V.n)) ?_
  rintro (x7 : Bool) w8 ⟨rfl, h8⟩
  refine ⟨_, rfl, ⟨fun e => ⟨V, ys, q1, q2, e⟩, ?_⟩, (h2.trans h6).trans h8⟩
  rintro ⟨_, zs, z1, z2, z3⟩
  have : zs = ys := map_inj (z1.symm.trans q1)
  rw [← this]; exact z3
set_option maxHeartbeats 800000 in
theorem SurvRf (m c : Hdr) (M : List (List Bool)) (xs : List Int) (w : World) (H : TabB w m M) (HC : SlI w c xs) :
    call Try.prog 30 [.slice m.1 m.2.1 m.2.2, .slice c.1 c.2.1 c.2.2] rHI w (fun x w' => SurvR M xs w x w' ∧ bel w w') := by
  refine call_of (S30_calls m.1 m.2.1 m.2.2 c.1 c.2.1 c.2.2 w _ ?_)
  unfold S30
  have no : ∀ {w' : World}, bel w w' → ¬ (ValidM M ∧ AscI M.length xs) → ∃ x : HI, Value.tuple #[.slice none 0 0, .int .i64 1] = rHI.val x ∧ SurvR M xs w x w' ∧ bel w w' := fun hb q => ⟨((none, 0, 0), (1 : Int), ()), rfl, .inr ⟨rfl, rfl, q⟩, hb⟩
  refine call_mono (validR m M w H) ?_
  rintro (x1 : Bool) w2 ⟨hv, h2⟩
  refine br_not (fun e => no h2 fun q => by have := hv.2 q.1; rw [e] at this; cases this) (fun e => ?_)
  have V := hv.1 e
  refine call_mono (choiceR m c M xs w2 H.len V.n (HC.up h2)) ?_
  rintro (x3 : Int × Bool × Unit) w4 ⟨hS, h4⟩
  replace h2 := h2.trans h4
  refine br_not (fun e3 => no h2 fun q => hS.2 e3 q.2) (fun e3 => ?_)
  obtain ⟨ys, q1, q2, q3⟩ := hS.1 e3
  refine call_mono (masksR m M w4 (H.up h2) V) ?_
  rintro (x5 : Hdr) w6 ⟨O, h6⟩
  rw [q3]
  have s4 := h2.size
  replace h2 := h2.trans h6
  have lO := O.sl.nat
  have v2 := V.w400
  have lm := masks_len M
  refine loop_upA (masks M).length (fun k q w' => bel w6 w' ∧ bel w w' ∧ OwnN w' w6.heap.size q (survN (masks M) (bitsOf ys) k)) ⟨bel.refl _, h2, Own.nil _ _ _ _⟩ fun k q w9 hk ⟨hb6, hb, Oq⟩ again hag _ => ?_
  refine br_dec (fun e => ?_) (fun e => ?_)
  · dsimp only at e
    have hkm : k < (masks M).length := by omega
    refine join_mk (fun s w' => bel w6 w' ∧ bel w w' ∧ OwnN w' w6.heap.size s.1 (survN (masks M) (bitsOf ys) (k + 1))) (fun K hK => ?_) (fun s w12 hJ _ => ?_)
    · refine nat_mk (O.sl.up hb6) rfl hkm fun c hc => ?_
      have gc : (masks M).getD k 0 = c := by rw [List.getD_eq_getElem?_getD, hc]; rfl
      refine z_and (a := c) (b := bitsOf ys) rfl rfl (masks_63 V c (List.mem_of_getElem? hc)) (bits_63 q2 V.n) ?_
      have hst := survN_step (masks M) (bitsOf ys) k
      rw [gc] at hst
      refine nat_eq0 (fun e0 => ?_) (fun e0 => ?_)
      · rw [if_pos e0] at hst
        have hsl := survN_len (masks M) (bitsOf ys) k
        have lq := Oq.sl.nat
        have h69 := hb6.size
        refine wr_app1 tyI Oq (by omega) rfl (by omega) (by omega) rfl rfl (by omega) (by unfold maxLen; omega) fun a' c' w20 O20 g20 _ s20 => ?_
        have lt := Oq.lt
        refine hK _ _ ⟨hb6.grown g20 fun b hb => (lt b hb).1, hb.grown g20 fun b hb => by have := (lt b hb).1; have := h6.size; omega, ?_⟩
        dsimp only
        show Own w20 _ _ 1 a' (q.2.1 + 1) c' (nats .i64 (survN (masks M) (bitsOf ys) (k + 1)))
        rw [hst, nats_snoc]; exact O20
      · rw [if_neg e0] at hst
        exact hK _ _ ⟨hb6, hb, by dsimp only; rw [hst]; exact Oq⟩
    · obtain ⟨sq, _⟩ := s
      refine z_i64 (by dsimp only; omega) ?_
      exact hag _ _ hkm hJ
  · dsimp only at e
    have hkm : k = (masks M).length := by omega
    subst hkm
    refine ⟨(q, (0 : Int), ()), rfl, .inl ⟨rfl, V, ys, q1, q2, ?_⟩, hb⟩
    refine ⟨Oq.1, ?_⟩
    have s6 := h6.size
    rcases Oq.2 with z | ⟨g, cap, cur, z1, z2, z3⟩
    · exact .inl z
    · exact .inr ⟨g, cap, cur, z1, by omega, z3⟩
theorem need_ref {M : List (List Bool)} (V : ValidM M) {i : Nat} (hi : i < M.length) : covB (masks M) (dif (2 ^ M.length - 1) (2 ^ i)) = !decide (2 ^ i ∈ masks M) := by
  have p0 := Nat.two_pow_pos M.length
  have hpi : 2 ^ i < 2 ^ M.length := Nat.pow_lt_pow_right (by omega) hi
  have hbit : ∀ j, (dif (2 ^ M.length - 1) (2 ^ i)).testBit j = (decide (j < M.length) && decide (j ≠ i)) := fun j => by
    rw [dif_bit (lt64 hpi V.n), Nat.testBit_two_pow_sub_one, Nat.testBit_two_pow]
    have v := V.n
    by_cases h1 : j < M.length
    · have : j < 64 := by omega
      by_cases h2 : j = i
      · subst h2; simp
      · have h3 : i ≠ j := fun q => h2 q.symm
        simp [h1, h2, h3, this]
    · simp [h1]
  by_cases hm : 2 ^ i ∈ masks M
  · rw [decide_eq_true hm]
    cases hc : covB (masks M) (dif (2 ^ M.length - 1) (2 ^ i)) with
    | false => rfl
    | true =>
      obtain ⟨j, j1, j2⟩ := and_ne.1 (covB_iff.1 hc _ hm (by have := Nat.two_pow_pos i; omega))
      rw [Nat.testBit_two_pow] at j1
      have : i = j := by simpa using j1
      subst this
      rw [hbit] at j2
      simp at j2
  · rw [decide_eq_false hm]
    refine covB_iff.2 fun c hc h0 => ?_
    apply Classical.byContradiction
    intro q
    have q : c &&& dif (2 ^ M.length - 1) (2 ^ i) = 0 := by simpa using q
    have hz := and_eq0.1 q
    have : c = 2 ^ i := by
      have only : ∀ j, c.testBit j = true → j = i := fun j hj => by
        have h1 := hz j hj
        rw [hbit] at h1
        have hjn : j < M.length := by
          rcases Nat.lt_or_ge j M.length with z | z
          · exact z
          · rw [bit_out (masks_lt c hc) z] at hj; cases hj
        simpa [hjn] using h1
      obtain ⟨j, hj⟩ := ne_zero_bit.1 h0
      have := only j hj
      subst this
      apply Nat.eq_of_testBit_eq
      intro k
      rw [Nat.testBit_two_pow]
      by_cases e : j = k
      · subst e; simp [hj]
      · cases hk : c.testBit k with
        | false => simp [e]
        | true => exact absurd (only k hk).symm e
    rw [this] at hc
    exact hm hc
set_option maxHeartbeats 800000 in
theorem NeededR (m : Hdr) (M : List (List Bool)) (w : World) (H : TabB w m M) :
    call Try.prog 25 [.slice m.1 m.2.1 m.2.2] rHI w (fun x w' => ListR M (needN (masks M) M.length) w x w' ∧ bel w w') := by
  refine call_of (S25_calls m.1 m.2.1 m.2.2 w _ ?_)
  unfold S25
  refine call_mono (validR m M w H) ?_
  rintro (x1 : Bool) w2 ⟨hv, h2⟩
  refine br_not (fun e => ⟨((none, 0, 0), (1 : Int), ()), rfl, .inr ⟨(fun q => by have := hv.2 q; rw [e] at this; cases this), rfl, rfl⟩, h2⟩) (fun e => ?_)
  have V := hv.1 e
  have v1 := V.n
  have hl := H.len
  have s24 := h2.size
  have p0 := Nat.two_pow_pos M.length
  have p14 := pow14 v1
  refine loop_upA M.length (fun k q w' => bel w2 w' ∧ OwnN w' w2.heap.size q (needN (masks M) k)) ⟨bel.refl _, Own.nil _ _ _ _⟩ fun k q w7 hk ⟨hb, Oq⟩ again hag _ => ?_
  refine br_dec (fun e => ?_) (fun e => ?_)
  · dsimp only at e
    have hkm : k < M.length := by omega
    refine join_mk (fun s w' => bel w2 w' ∧ OwnN w' w2.heap.size s.1 (needN (masks M) (k + 1))) (fun K hK => ?_) (fun s w10 hJ _ => ?_)
    · refine call_mono (masksR m M w7 (H.up (h2.trans hb)) V) ?_
      rintro (x10 : Hdr) w11 ⟨O10, h11⟩
      refine z_u64 (by omega) ?_
      refine shl1 M.length (by omega) (by omega) ?_
      refine z_i64 (by omega) ?_
      refine z_u64 (by dsimp only; omega) ?_
      refine shl1 k rfl (by omega) ?_
      have hpk : 2 ^ k < 2 ^ M.length := Nat.pow_lt_pow_right (by omega) hkm
      refine z_dif (a := 2 ^ M.length - 1) (b := 2 ^ k) (by omega) rfl (by omega) (by omega) ?_
      have hdl : dif (2 ^ M.length - 1) (2 ^ k) < 2 ^ M.length := dif_lt (by omega)
      refine call_mono (coversR x10 (masks M) _ w11 O10.sl (masks_63 V) (lt63 hdl v1)) ?_
      rintro (x18 : Bool) w14 ⟨hx18, h14⟩
      rw [need_ref V hkm] at hx18
      replace hb := (hb.trans h11).trans h14
      replace Oq : OwnN w14 w2.heap.size q _ := Own.kept Oq (h11.trans h14)
      have hst := needN_step (masks M) k
      have hnl := needN_len (masks M) k
      have lq := Oq.sl.nat
      refine br_not (fun e1' => ?_) (fun e1' => ?_)
      · have e1 : 2 ^ k ∈ masks M := Classical.byContradiction fun q => by rw [e1', decide_eq_false q] at hx18; cases hx18
        rw [if_pos e1] at hst
        have := hb.size
        refine wr_app1 tyI Oq (by omega) rfl (by omega) (by omega) rfl rfl (by omega) (by unfold maxLen; omega) fun a' c' w18 O18 g18 _ _ => ?_
        refine hK _ _ ⟨hb.grown g18 fun b hb => (Oq.lt b hb).1, ?_⟩
        show Own w18 _ _ 1 a' (q.2.1 + 1) c' (nats .i64 (needN (masks M) (k + 1)))
        rw [hst, nats_snoc]; exact O18
      · have e1 : ¬ 2 ^ k ∈ masks M := fun q => by rw [e1', decide_eq_true q] at hx18; cases hx18
        rw [if_neg e1] at hst
        exact hK _ _ ⟨hb, by dsimp only; rw [hst]; exact Oq⟩
    · obtain ⟨sq, _⟩ := s
      refine z_i64 (by dsimp only; omega) ?_
      exact hag _ _ hkm hJ
  · dsimp only at e
    have hkm : k = M.length := by omega
    subst hkm
    exact ⟨(q, (0 : Int), ()), rfl, .inl ⟨V, rfl, own_base Oq (by omega)⟩, h2.trans hb⟩
end Go.Proofs.Ytaomejbaocehnaa
