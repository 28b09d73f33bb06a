import Derived.KernelRfl
import Derived.Test.YtaomejbaocehnaaPackSuiteLeast2

/- The conditions of functions, printed by our tool; each is checked against the code by the kernel. -/



namespace Go.Proofs
open Go Go.V Go.RowKit
/-- querylab/querylabfield.New -/
def S8 (t_a : Option Addr) (t_n : Nat) (t_c : Nat) (w0 : World) (R : Value → World → Prop) : Prop :=
 z (if 2000 < ((t_n : Nat) : Int) then 2000 else ((t_n : Nat) : Int)) fun (z1 : Int) =>
 rdp Try.prog (Instr.sliceAt 22 (.slice t_a t_n t_c) none (some (.int .i64 z1)) none) (.one .slice) fun (x2 : (Option Addr × Nat × Nat)) =>
 wr Try.prog (Instr.box 48 (.agg #[(.slice x2.1 x2.2.1 x2.2.2), (.int .i64 0)])) (.one .addr) w0 fun (x3 : Addr) (w4 : World) =>
 R (.pointer (some x3)) w4
def H8 : Hints := ⟨[], [], [], []⟩
set_option maxRecDepth 100000 in
theorem S8_eq (t_a : Option Addr) (t_n : Nat) (t_c : Nat) (w0 : World) (R : Value → World → Prop) : vcFn Try.prog H8 Try.f8 [(.slice t_a t_n t_c)] w0 R = S8 t_a t_n t_c w0 R := by kernel_rfl
set_option maxRecDepth 100000 in
theorem S8_calls (t_a : Option Addr) (t_n : Nat) (t_c : Nat) (w0 : World) (R : Value → World → Prop) (h : S8 t_a t_n t_c w0 R) : Calls Try.prog 8 #[(.slice t_a t_n t_c)] w0 (ret R) := by
  rw [← S8_eq] at h; exact vcFn_sound follows_ Try.func8 h

/-- querylab/querylabfield.Mod -/
def S41 (x_ : Int) (n_ : Int) (w0 : World) (R : Value → World → Prop) : Prop :=
 br (decide (n_ < 1)) (R (.int .i64 0) w0)
 (rdp Try.prog (cmpS .rem 3 (.tmp 7) (.tmp 8) (.int .i64 x_) (.int .i64 n_)) (.one (.int .i64)) fun (x1 : Int) =>
 br (decide (x1 < 0)) (z (IntKind.wrap .i64 (x1 + n_)) fun (z2 : Int) =>
 R (.int .i64 z2) w0)
 (R (.int .i64 x1) w0))
def H41 : Hints := ⟨[], [], [], []⟩
set_option maxRecDepth 100000 in
theorem S41_eq (x_ : Int) (n_ : Int) (w0 : World) (R : Value → World → Prop) : vcFn Try.prog H41 Try.f41 [(.int .i64 x_), (.int .i64 n_)] w0 R = S41 x_ n_ w0 R := by kernel_rfl
set_option maxRecDepth 100000 in
theorem S41_calls (x_ : Int) (n_ : Int) (w0 : World) (R : Value → World → Prop) (h : S41 x_ n_ w0 R) : Calls Try.prog 41 #[(.int .i64 x_), (.int .i64 n_)] w0 (ret R) := by
  rw [← S41_eq] at h; exact vcFn_sound follows_ Try.func41 h

/-- (*querylab/querylabfield.Tape).Raw -/
def S42 (t_ : (Option Addr)) (w0 : World) (R : Value → World → Prop) : Prop :=
 drw w0 fun w1 =>
 nn t_ fun (a2 : Addr) =>
 rd Try.prog (Instr.loadAt 3 (.pointer (some (Addr.add a2 1)))) (.one (.int .i64)) w1 fun (x3 : Int) =>
 nn t_ fun (a4 : Addr) =>
 rd Try.prog (Instr.loadAt 22 (.pointer (some a4))) (.one .slice) w1 fun (x5 : (Option Addr × Nat × Nat)) =>
 br (decide (x3 ≥ ((x5.2.1 : Nat) : Int))) (R (.int .i64 0) w1)
 (nn t_ fun (a6 : Addr) =>
 rd Try.prog (Instr.loadAt 3 (.pointer (some (Addr.add a6 1)))) (.one (.int .i64)) w1 fun (x7 : Int) =>
 z (IntKind.wrap .i64 (x7 + 1)) fun (z8 : Int) =>
 nn t_ fun (a9 : Addr) =>
 wu Try.prog (Instr.storeAt 3 (.pointer (some (Addr.add a9 1))) (.int .i64 z8)) w1 fun (w10 : World) =>
 drw w10 fun w11 =>
 nn t_ fun (a12 : Addr) =>
 rd Try.prog (Instr.loadAt 22 (.pointer (some a12))) (.one .slice) w11 fun (x13 : (Option Addr × Nat × Nat)) =>
 nn t_ fun (a14 : Addr) =>
 rd Try.prog (Instr.loadAt 3 (.pointer (some (Addr.add a14 1)))) (.one (.int .i64)) w11 fun (x15 : Int) =>
 z (IntKind.wrap .i64 (x15 - 1)) fun (z16 : Int) =>
 rdp Try.prog (Instr.indexAt 22 (.slice x13.1 x13.2.1 x13.2.2) (.int .i64 z16)) (.one .addr) fun (x17 : Addr) =>
 rd Try.prog (Instr.loadAt 3 (.pointer (some x17))) (.one (.int .i64)) w11 fun (x18 : Int) =>
 R (.int .i64 x18) w11)
def H42 : Hints := ⟨[], [(1, 9), (4, 9)], [], []⟩
set_option maxRecDepth 100000 in
theorem S42_eq (t_ : (Option Addr)) (w0 : World) (R : Value → World → Prop) : vcFn Try.prog H42 Try.f42 [(.pointer t_)] w0 R = S42 t_ w0 R := by kernel_rfl
set_option maxRecDepth 100000 in
theorem S42_calls (t_ : (Option Addr)) (w0 : World) (R : Value → World → Prop) (h : S42 t_ w0 R) : Calls Try.prog 42 #[(.pointer t_)] w0 (ret R) := by
  rw [← S42_eq] at h; exact vcFn_sound follows_ Try.func42 h

/-- (*querylab/querylabfield.Tape).N -/
def S18 (t_ : (Option Addr)) (n_ : Int) (w0 : World) (R : Value → World → Prop) : Prop :=
 call Try.prog 42 [(.pointer t_)] (.one (.one (.int .i64))) w0 fun (x1 : Int) (w2 : World) =>
 call Try.prog 41 [(.int .i64 x1), (.int .i64 n_)] (.one (.one (.int .i64))) w2 fun (x3 : Int) (w4 : World) =>
 R (.int .i64 x3) w4
def H18 : Hints := ⟨[], [], [], []⟩
set_option maxRecDepth 100000 in
theorem S18_eq (t_ : (Option Addr)) (n_ : Int) (w0 : World) (R : Value → World → Prop) : vcFn Try.prog H18 Try.f18 [(.pointer t_), (.int .i64 n_)] w0 R = S18 t_ n_ w0 R := by kernel_rfl
set_option maxRecDepth 100000 in
theorem S18_calls (t_ : (Option Addr)) (n_ : Int) (w0 : World) (R : Value → World → Prop) (h : S18 t_ n_ w0 R) : Calls Try.prog 18 #[(.pointer t_), (.int .i64 n_)] w0 (ret R) := by
  rw [← S18_eq] at h; exact vcFn_sound follows_ Try.func18 h

/-- (*querylab/querylabfield.Tape).Range -/
def S33 (t_ : (Option Addr)) (lo_ : Int) (hi_ : Int) (w0 : World) (R : Value → World → Prop) : Prop :=
 z (IntKind.wrap .i64 (hi_ - lo_)) fun (z1 : Int) =>
 z (IntKind.wrap .i64 (z1 + 1)) fun (z2 : Int) =>
 call Try.prog 18 [(.pointer t_), (.int .i64 z2)] (.one (.one (.int .i64))) w0 fun (x3 : Int) (w4 : World) =>
 z (IntKind.wrap .i64 (lo_ + x3)) fun (z5 : Int) =>
 R (.int .i64 z5) w4
def H33 : Hints := ⟨[], [], [], []⟩
set_option maxRecDepth 100000 in
theorem S33_eq (t_ : (Option Addr)) (lo_ : Int) (hi_ : Int) (w0 : World) (R : Value → World → Prop) : vcFn Try.prog H33 Try.f33 [(.pointer t_), (.int .i64 lo_), (.int .i64 hi_)] w0 R = S33 t_ lo_ hi_ w0 R := by kernel_rfl
set_option maxRecDepth 100000 in
theorem S33_calls (t_ : (Option Addr)) (lo_ : Int) (hi_ : Int) (w0 : World) (R : Value → World → Prop) (h : S33 t_ lo_ hi_ w0 R) : Calls Try.prog 33 #[(.pointer t_), (.int .i64 lo_), (.int .i64 hi_)] w0 (ret R) := by
  rw [← S33_eq] at h; exact vcFn_sound follows_ Try.func33 h

/-- querylab/querylabfield.Ints -/
def S19 (a_a : Option Addr) (a_n : Nat) (a_c : Nat) (b_a : Option Addr) (b_n : Nat) (b_c : Nat) (w0 : World) (R : Value → World → Prop) : Prop :=
 br (((a_n : Nat) : Int) != ((b_n : Nat) : Int)) (R (.bool false) w0)
 (loop (T := (Int × Unit)) (0, ()) w0 fun (again1 : (Int × Unit) → World → Prop) (s2 : (Int × Unit)) w3 => ∀ _ : Nat → Value,
 br (decide (s2.1 < ((a_n : Nat) : Int))) (drw w3 fun w4 =>
 rdp Try.prog (Instr.indexAt 22 (.slice a_a a_n a_c) (.int .i64 s2.1)) (.one .addr) fun (x5 : Addr) =>
 rd Try.prog (Instr.loadAt 3 (.pointer (some x5))) (.one (.int .i64)) w4 fun (x6 : Int) =>
 rdp Try.prog (Instr.indexAt 22 (.slice b_a b_n b_c) (.int .i64 s2.1)) (.one .addr) fun (x7 : Addr) =>
 rd Try.prog (Instr.loadAt 3 (.pointer (some x7))) (.one (.int .i64)) w4 fun (x8 : Int) =>
 br (x6 != x8) (R (.bool false) w4)
 (z (IntKind.wrap .i64 (s2.1 + 1)) fun (z9 : Int) =>
 again1 (z9, ()) w4))
 (R (.bool true) w3))
def H19 : Hints := ⟨[(2, 0, [(5, (.one (.int .i64)))])], [(6, 8)], [], []⟩
set_option maxRecDepth 100000 in
theorem S19_eq (a_a : Option Addr) (a_n : Nat) (a_c : Nat) (b_a : Option Addr) (b_n : Nat) (b_c : Nat) (w0 : World) (R : Value → World → Prop) : vcFn Try.prog H19 Try.f19 [(.slice a_a a_n a_c), (.slice b_a b_n b_c)] w0 R = S19 a_a a_n a_c b_a b_n b_c w0 R := by kernel_rfl
set_option maxRecDepth 100000 in
theorem S19_calls (a_a : Option Addr) (a_n : Nat) (a_c : Nat) (b_a : Option Addr) (b_n : Nat) (b_c : Nat) (w0 : World) (R : Value → World → Prop) (h : S19 a_a a_n a_c b_a b_n b_c w0 R) : Calls Try.prog 19 #[(.slice a_a a_n a_c), (.slice b_a b_n b_c)] w0 (ret R) := by
  rw [← S19_eq] at h; exact vcFn_sound follows_ Try.func19 h

/-- querylab/querylabfield.In -/
def S15 (l_a : Option Addr) (l_n : Nat) (l_c : Nat) (x_ : Int) (w0 : World) (R : Value → World → Prop) : Prop :=
 loop (T := (Int × Unit)) (0, ()) w0 fun (again1 : (Int × Unit) → World → Prop) (s2 : (Int × Unit)) w3 => ∀ _ : Nat → Value,
 br (decide (s2.1 < ((l_n : Nat) : Int))) (rdp Try.prog (Instr.indexAt 22 (.slice l_a l_n l_c) (.int .i64 s2.1)) (.one .addr) fun (x4 : Addr) =>
 rd Try.prog (Instr.loadAt 3 (.pointer (some x4))) (.one (.int .i64)) w3 fun (x5 : Int) =>
 br (x5 == x_) (R (.bool true) w3)
 (z (IntKind.wrap .i64 (s2.1 + 1)) fun (z6 : Int) =>
 again1 (z6, ()) w3))
 (R (.bool false) w3)
def H15 : Hints := ⟨[(2, 0, [(5, (.one (.int .i64)))])], [], [], []⟩
set_option maxRecDepth 100000 in
theorem S15_eq (l_a : Option Addr) (l_n : Nat) (l_c : Nat) (x_ : Int) (w0 : World) (R : Value → World → Prop) : vcFn Try.prog H15 Try.f15 [(.slice l_a l_n l_c), (.int .i64 x_)] w0 R = S15 l_a l_n l_c x_ w0 R := by kernel_rfl
set_option maxRecDepth 100000 in
theorem S15_calls (l_a : Option Addr) (l_n : Nat) (l_c : Nat) (x_ : Int) (w0 : World) (R : Value → World → Prop) (h : S15 l_a l_n l_c x_ w0 R) : Calls Try.prog 15 #[(.slice l_a l_n l_c), (.int .i64 x_)] w0 (ret R) := by
  rw [← S15_eq] at h; exact vcFn_sound follows_ Try.func15 h

/-- querylab/querylabfield.Put -/
def S32 (l_a : Option Addr) (l_n : Nat) (l_c : Nat) (x_ : Int) (w0 : World) (R : Value → World → Prop) : Prop :=
 join (T := (Int × Unit)) (fun (s2 : (Int × Unit)) w3 => ∀ _ : Nat → Value,
 join (T := (Unit)) (fun (_s5 : (Unit)) w6 => ∀ _ : Nat → Value,
 wr Try.prog (Instr.buildSlice 22 1 #[(0, (.int .i64 x_))]) (.one .slice) w6 fun (x7 : (Option Addr × Nat × Nat)) (w8 : World) =>
 rdp Try.prog (Instr.sliceAt 22 (.slice l_a l_n l_c) (some (.int .i64 s2.1)) none none) (.one .slice) fun (x9 : (Option Addr × Nat × Nat)) =>
 wr Try.prog (Builtin.append_ #[22, 22] 22 #[(.slice x7.1 x7.2.1 x7.2.2), (.slice x9.1 x9.2.1 x9.2.2)]) (.one .slice) w8 fun (x10 : (Option Addr × Nat × Nat)) (w11 : World) =>
 rdp Try.prog (Instr.sliceAt 22 (.slice l_a l_n l_c) none (some (.int .i64 s2.1)) (some (.int .i64 s2.1))) (.one .slice) fun (x12 : (Option Addr × Nat × Nat)) =>
 wr Try.prog (Builtin.append_ #[22, 22] 22 #[(.slice x12.1 x12.2.1 x12.2.2), (.slice x10.1 x10.2.1 x10.2.2)]) (.one .slice) w11 fun (x13 : (Option Addr × Nat × Nat)) (w14 : World) =>
 R (.slice x13.1 x13.2.1 x13.2.2) w14)
  fun (K4 : (Unit) → World → Prop) =>
 br (decide (s2.1 < ((l_n : Nat) : Int))) (rdp Try.prog (Instr.indexAt 22 (.slice l_a l_n l_c) (.int .i64 s2.1)) (.one .addr) fun (x15 : Addr) =>
 rd Try.prog (Instr.loadAt 3 (.pointer (some x15))) (.one (.int .i64)) w3 fun (x16 : Int) =>
 br (x16 == x_) (R (.slice l_a l_n l_c) w3)
 (K4 (()) w3))
 (K4 (()) w3))
  fun (K1 : (Int × Unit) → World → Prop) =>
 loop (T := (Int × Unit)) (0, ()) w0 fun (again17 : (Int × Unit) → World → Prop) (s18 : (Int × Unit)) w19 => ∀ _ : Nat → Value,
 br (decide (s18.1 < ((l_n : Nat) : Int))) (rdp Try.prog (Instr.indexAt 22 (.slice l_a l_n l_c) (.int .i64 s18.1)) (.one .addr) fun (x20 : Addr) =>
 rd Try.prog (Instr.loadAt 3 (.pointer (some x20))) (.one (.int .i64)) w19 fun (x21 : Int) =>
 br (decide (x21 < x_)) (z (IntKind.wrap .i64 (s18.1 + 1)) fun (z22 : Int) =>
 again17 (z22, ()) w19)
 (K1 (s18.1, ()) w19))
 (K1 (s18.1, ()) w19)
def H32 : Hints := ⟨[(2, 0, [(5, (.one (.int .i64)))]), (1, 0, [(5, (.one (.int .i64)))]), (0, 32, [])], [], [], []⟩
set_option maxRecDepth 100000 in
theorem S32_eq (l_a : Option Addr) (l_n : Nat) (l_c : Nat) (x_ : Int) (w0 : World) (R : Value → World → Prop) : vcFn Try.prog H32 Try.f32 [(.slice l_a l_n l_c), (.int .i64 x_)] w0 R = S32 l_a l_n l_c x_ w0 R := by kernel_rfl
set_option maxRecDepth 100000 in
theorem S32_calls (l_a : Option Addr) (l_n : Nat) (l_c : Nat) (x_ : Int) (w0 : World) (R : Value → World → Prop) (h : S32 l_a l_n l_c x_ w0 R) : Calls Try.prog 32 #[(.slice l_a l_n l_c), (.int .i64 x_)] w0 (ret R) := by
  rw [← S32_eq] at h; exact vcFn_sound follows_ Try.func32 h

/-- (*querylab/querylabfield.Tape).Order -/
def S17 (t_ : (Option Addr)) (n_ : Int) (w0 : World) (R : Value → World → Prop) : Prop :=
 loop (T := ((Option Addr × Nat × Nat) × Int × Unit)) ((none, 0, 0), 0, ()) w0 fun (again1 : ((Option Addr × Nat × Nat) × Int × Unit) → World → Prop) (s2 : ((Option Addr × Nat × Nat) × Int × Unit)) w3 => ∀ _ : Nat → Value,
 br (decide (s2.2.1 < n_)) (z (IntKind.wrap .i64 (((s2.1.2.1 : Nat) : Int) + 1)) fun (z4 : Int) =>
 call Try.prog 18 [(.pointer t_), (.int .i64 z4)] (.one (.one (.int .i64))) w3 fun (x5 : Int) (w6 : World) =>
 wr Try.prog (Instr.buildSlice 22 1 #[(0, (.int .i64 s2.2.1))]) (.one .slice) w6 fun (x7 : (Option Addr × Nat × Nat)) (w8 : World) =>
 rdp Try.prog (Instr.sliceAt 22 (.slice s2.1.1 s2.1.2.1 s2.1.2.2) (some (.int .i64 x5)) none none) (.one .slice) fun (x9 : (Option Addr × Nat × Nat)) =>
 wr Try.prog (Builtin.append_ #[22, 22] 22 #[(.slice x7.1 x7.2.1 x7.2.2), (.slice x9.1 x9.2.1 x9.2.2)]) (.one .slice) w8 fun (x10 : (Option Addr × Nat × Nat)) (w11 : World) =>
 rdp Try.prog (Instr.sliceAt 22 (.slice s2.1.1 s2.1.2.1 s2.1.2.2) none (some (.int .i64 x5)) (some (.int .i64 x5))) (.one .slice) fun (x12 : (Option Addr × Nat × Nat)) =>
 wr Try.prog (Builtin.append_ #[22, 22] 22 #[(.slice x12.1 x12.2.1 x12.2.2), (.slice x10.1 x10.2.1 x10.2.2)]) (.one .slice) w11 fun (x13 : (Option Addr × Nat × Nat)) (w14 : World) =>
 z (IntKind.wrap .i64 (s2.2.1 + 1)) fun (z15 : Int) =>
 again1 ((x13.1, x13.2.1, x13.2.2), z15, ()) w14)
 (R (.slice s2.1.1 s2.1.2.1 s2.1.2.2) w3)
def H17 : Hints := ⟨[(2, 0, [(5, (.one .slice)), (6, (.one (.int .i64)))])], [], [], []⟩
set_option maxRecDepth 100000 in
theorem S17_eq (t_ : (Option Addr)) (n_ : Int) (w0 : World) (R : Value → World → Prop) : vcFn Try.prog H17 Try.f17 [(.pointer t_), (.int .i64 n_)] w0 R = S17 t_ n_ w0 R := by kernel_rfl
set_option maxRecDepth 100000 in
theorem S17_calls (t_ : (Option Addr)) (n_ : Int) (w0 : World) (R : Value → World → Prop) (h : S17 t_ n_ w0 R) : Calls Try.prog 17 #[(.pointer t_), (.int .i64 n_)] w0 (ret R) := by
  rw [← S17_eq] at h; exact vcFn_sound follows_ Try.func17 h

/-- querylab/querylablaw31.matrix -/
def S9 (s_ : (Option Addr)) (rows_ : Int) (columns_ : Int) (w0 : World) (R : Value → World → Prop) : Prop :=
 z (IntKind.wrap .i64 (columns_ + 1)) fun (z1 : Int) =>
 call Try.prog 18 [(.pointer s_), (.int .i64 z1)] (.one (.one (.int .i64))) w0 fun (x2 : Int) (w3 : World) =>
 call Try.prog 33 [(.pointer s_), (.int .i64 2), (.int .i64 5)] (.one (.one (.int .i64))) w3 fun (x4 : Int) (w5 : World) =>
 z (IntKind.wrap .i64 (rows_ + 1)) fun (z6 : Int) =>
 call Try.prog 18 [(.pointer s_), (.int .i64 z6)] (.one (.one (.int .i64))) w5 fun (x7 : Int) (w8 : World) =>
 loop (T := ((Option Addr × Nat × Nat) × Int × Unit)) ((none, 0, 0), x7, ()) w8 fun (again9 : ((Option Addr × Nat × Nat) × Int × Unit) → World → Prop) (s10 : ((Option Addr × Nat × Nat) × Int × Unit)) w11 => ∀ _ : Nat → Value,
 br (decide (s10.2.1 > 0)) (wr Try.prog (Instr.makeSlice 35 (.int .i64 x2) (.int .i64 x2)) (.one .slice) w11 fun (x12 : (Option Addr × Nat × Nat)) (w13 : World) =>
 loop (T := (Int × Unit)) (0, ()) w13 fun (again14 : (Int × Unit) → World → Prop) (s15 : (Int × Unit)) w16 => ∀ _ : Nat → Value,
 br (decide (s15.1 < ((x12.2.1 : Nat) : Int))) (call Try.prog 18 [(.pointer s_), (.int .i64 x4)] (.one (.one (.int .i64))) w16 fun (x17 : Int) (w18 : World) =>
 rdp Try.prog (Instr.indexAt 35 (.slice x12.1 x12.2.1 x12.2.2) (.int .i64 s15.1)) (.one .addr) fun (x19 : Addr) =>
 wu Try.prog (Instr.storeAt 4 (.pointer (some x19)) (.bool (x17 == 1))) w18 fun (w20 : World) =>
 z (IntKind.wrap .i64 (s15.1 + 1)) fun (z21 : Int) =>
 again14 (z21, ()) w20)
 (wr Try.prog (Instr.buildSlice 25 1 #[(0, (.slice x12.1 x12.2.1 x12.2.2))]) (.one .slice) w16 fun (x22 : (Option Addr × Nat × Nat)) (w23 : World) =>
 wr Try.prog (Builtin.append_ #[25, 25] 25 #[(.slice s10.1.1 s10.1.2.1 s10.1.2.2), (.slice x22.1 x22.2.1 x22.2.2)]) (.one .slice) w23 fun (x24 : (Option Addr × Nat × Nat)) (w25 : World) =>
 z (IntKind.wrap .i64 (s10.2.1 - 1)) fun (z26 : Int) =>
 again9 ((x24.1, x24.2.1, x24.2.2), z26, ()) w25))
 (R (.slice s10.1.1 s10.1.2.1 s10.1.2.2) w11)
def H9 : Hints := ⟨[(2, 0, [(7, (.one .slice)), (10, (.one (.int .i64)))]), (2, 2, [(31, (.one (.int .i64)))])], [], [], []⟩
set_option maxRecDepth 100000 in
theorem S9_eq (s_ : (Option Addr)) (rows_ : Int) (columns_ : Int) (w0 : World) (R : Value → World → Prop) : vcFn Try.prog H9 Try.f9 [(.pointer s_), (.int .i64 rows_), (.int .i64 columns_)] w0 R = S9 s_ rows_ columns_ w0 R := by kernel_rfl
set_option maxRecDepth 100000 in
theorem S9_calls (s_ : (Option Addr)) (rows_ : Int) (columns_ : Int) (w0 : World) (R : Value → World → Prop) (h : S9 s_ rows_ columns_ w0 R) : Calls Try.prog 9 #[(.pointer s_), (.int .i64 rows_), (.int .i64 columns_)] w0 (ret R) := by
  rw [← S9_eq] at h; exact vcFn_sound follows_ Try.func9 h

/-- querylab/querylablaw31.awake -/
def S16  (w0 : World) (R : Value → World → Prop) : Prop :=
 wr Try.prog (Instr.buildSlice 35 3 #[(0, (.bool true)), (1, (.bool true)), (2, (.bool false))]) (.one .slice) w0 fun (x1 : (Option Addr × Nat × Nat)) (w2 : World) =>
 wr Try.prog (Instr.buildSlice 35 3 #[(0, (.bool false)), (1, (.bool true)), (2, (.bool true))]) (.one .slice) w2 fun (x3 : (Option Addr × Nat × Nat)) (w4 : World) =>
 wr Try.prog (Instr.buildSlice 35 3 #[(0, (.bool true)), (1, (.bool false)), (2, (.bool true))]) (.one .slice) w4 fun (x5 : (Option Addr × Nat × Nat)) (w6 : World) =>
 wr Try.prog (Instr.buildSlice 25 3 #[(0, (.slice x1.1 x1.2.1 x1.2.2)), (1, (.slice x3.1 x3.2.1 x3.2.2)), (2, (.slice x5.1 x5.2.1 x5.2.2))]) (.one .slice) w6 fun (x7 : (Option Addr × Nat × Nat)) (w8 : World) =>
 call Try.prog 10 [(.slice x7.1 x7.2.1 x7.2.2)] (.many [(.one .slice), (.one (.int .i64))]) w8 fun (x9 : ((Option Addr × Nat × Nat) × Int × Unit)) (w10 : World) =>
 call Try.prog 11 [(.slice x7.1 x7.2.1 x7.2.2)] (.many [(.one .slice), (.one (.int .i64))]) w10 fun (x11 : ((Option Addr × Nat × Nat) × Int × Unit)) (w12 : World) =>
 call Try.prog 12 [(.slice x7.1 x7.2.1 x7.2.2)] (.many [(.one .slice), (.one (.int .i64))]) w12 fun (x13 : ((Option Addr × Nat × Nat) × Int × Unit)) (w14 : World) =>
 call Try.prog 13 [(.slice x7.1 x7.2.1 x7.2.2)] (.many [(.one .slice), (.one (.int .i64))]) w14 fun (x15 : ((Option Addr × Nat × Nat) × Int × Unit)) (w16 : World) =>
 br (x9.2.1 == 0) (br (x11.2.1 == 0) (br (x13.2.1 == 0) (br (x15.2.1 == 0) (wr Try.prog (Instr.buildSlice 22 2 #[(0, (.int .i64 0)), (1, (.int .i64 1))]) (.one .slice) w16 fun (x17 : (Option Addr × Nat × Nat)) (w18 : World) =>
 call Try.prog 19 [(.slice x9.1.1 x9.1.2.1 x9.1.2.2), (.slice x17.1 x17.2.1 x17.2.2)] (.one (.one .bool)) w18 fun (x19 : Bool) (w20 : World) =>
 br x19 (wr Try.prog (Instr.buildSlice 22 2 #[(0, (.int .i64 0)), (1, (.int .i64 1))]) (.one .slice) w20 fun (x21 : (Option Addr × Nat × Nat)) (w22 : World) =>
 call Try.prog 19 [(.slice x11.1.1 x11.1.2.1 x11.1.2.2), (.slice x21.1 x21.2.1 x21.2.2)] (.one (.one .bool)) w22 fun (x23 : Bool) (w24 : World) =>
 br x23 (br (((x13.1.2.1 : Nat) : Int) == 1) (br (((x15.1.2.1 : Nat) : Int) == 0) (call Try.prog 14 [(.slice x7.1 x7.2.1 x7.2.2), (.slice x9.1.1 x9.1.2.1 x9.1.2.2)] (.one (.one .bool)) w24 fun (x25 : Bool) (w26 : World) =>
 R (.bool x25) w26)
 (R (.bool false) w24))
 (R (.bool false) w24))
 (R (.bool false) w24))
 (R (.bool false) w20))
 (R (.bool false) w16))
 (R (.bool false) w16))
 (R (.bool false) w16))
 (R (.bool false) w16)
def H16 : Hints := ⟨[], [], [], []⟩
set_option maxRecDepth 100000 in
theorem S16_eq  (w0 : World) (R : Value → World → Prop) : vcFn Try.prog H16 Try.f16 [] w0 R = S16  w0 R := by kernel_rfl
set_option maxRecDepth 100000 in
theorem S16_calls  (w0 : World) (R : Value → World → Prop) (h : S16  w0 R) : Calls Try.prog 16 #[] w0 (ret R) := by
  rw [← S16_eq] at h; exact vcFn_sound follows_ Try.func16 h

/-- querylab/querylablaw31.SuiteLeast -/
def S3 (t_a : Option Addr) (t_n : Nat) (t_c : Nat) (w0 : World) (R : Value → World → Prop) : Prop :=
 call Try.prog 8 [(.slice t_a t_n t_c)] (.one (.one .ptr)) w0 fun (x1 : (Option Addr)) (w2 : World) =>
 call Try.prog 9 [(.pointer x1), (.int .i64 7), (.int .i64 20)] (.one (.one .slice)) w2 fun (x3 : (Option Addr × Nat × Nat)) (w4 : World) =>
 call Try.prog 10 [(.slice x3.1 x3.2.1 x3.2.2)] (.many [(.one .slice), (.one (.int .i64))]) w4 fun (x5 : ((Option Addr × Nat × Nat) × Int × Unit)) (w6 : World) =>
 call Try.prog 11 [(.slice x3.1 x3.2.1 x3.2.2)] (.many [(.one .slice), (.one (.int .i64))]) w6 fun (x7 : ((Option Addr × Nat × Nat) × Int × Unit)) (w8 : World) =>
 call Try.prog 12 [(.slice x3.1 x3.2.1 x3.2.2)] (.many [(.one .slice), (.one (.int .i64))]) w8 fun (x9 : ((Option Addr × Nat × Nat) × Int × Unit)) (w10 : World) =>
 call Try.prog 13 [(.slice x3.1 x3.2.1 x3.2.2)] (.many [(.one .slice), (.one (.int .i64))]) w10 fun (x11 : ((Option Addr × Nat × Nat) × Int × Unit)) (w12 : World) =>
 br (x5.2.1 != 0) (R (.bool false) w12)
 (br (x7.2.1 != 0) (R (.bool false) w12)
 (br (x9.2.1 != 0) (R (.bool false) w12)
 (br (x11.2.1 != 0) (R (.bool false) w12)
 (call Try.prog 14 [(.slice x3.1 x3.2.1 x3.2.2), (.slice x5.1.1 x5.1.2.1 x5.1.2.2)] (.one (.one .bool)) w12 fun (x13 : Bool) (w14 : World) =>
 br (!x13) (R (.bool false) w14)
 (br (decide (((x9.1.2.1 : Nat) : Int) > ((x5.1.2.1 : Nat) : Int))) (R (.bool false) w14)
 (br (decide (((x5.1.2.1 : Nat) : Int) > ((x7.1.2.1 : Nat) : Int))) (R (.bool false) w14)
 (loop (T := (Int × Unit)) (0, ()) w14 fun (again15 : (Int × Unit) → World → Prop) (s16 : (Int × Unit)) w17 => ∀ _ : Nat → Value,
 br (decide (s16.1 < ((x11.1.2.1 : Nat) : Int))) (rdp Try.prog (Instr.indexAt 22 (.slice x11.1.1 x11.1.2.1 x11.1.2.2) (.int .i64 s16.1)) (.one .addr) fun (x18 : Addr) =>
 rd Try.prog (Instr.loadAt 3 (.pointer (some x18))) (.one (.int .i64)) w17 fun (x19 : Int) =>
 call Try.prog 15 [(.slice x5.1.1 x5.1.2.1 x5.1.2.2), (.int .i64 x19)] (.one (.one .bool)) w17 fun (x20 : Bool) (w21 : World) =>
 br (!x20) (R (.bool false) w21)
 (z (IntKind.wrap .i64 (s16.1 + 1)) fun (z22 : Int) =>
 again15 (z22, ()) w21))
 (loop (T := (Int × Unit)) (0, ()) w17 fun (again23 : (Int × Unit) → World → Prop) (s24 : (Int × Unit)) w25 => ∀ _ : Nat → Value,
 z (IntKind.wrap .u64 ((x3.2.1 : Nat) : Int)) fun (z26 : Int) =>
 rdp Try.prog (cmpS .shl 3 (.const (.int .i64 1)) (.tmp 90) (.int .i64 1) (.int .u64 z26)) (.one (.int .i64)) fun (x27 : Int) =>
 br (decide (s24.1 < x27)) (join (T := (Unit)) (fun (_s29 : (Unit)) w30 => ∀ _ : Nat → Value,
 z (IntKind.wrap .i64 (s24.1 + 1)) fun (z31 : Int) =>
 again23 (z31, ()) w30)
  fun (K28 : (Unit) → World → Prop) =>
 loop (T := ((Option Addr × Nat × Nat) × Int × Unit)) ((none, 0, 0), 0, ()) w25 fun (again32 : ((Option Addr × Nat × Nat) × Int × Unit) → World → Prop) (s33 : ((Option Addr × Nat × Nat) × Int × Unit)) w34 => ∀ _ : Nat → Value,
 br (decide (s33.2.1 < ((x3.2.1 : Nat) : Int))) (join (T := ((Option Addr × Nat × Nat) × Unit)) (fun (s36 : ((Option Addr × Nat × Nat) × Unit)) w37 => ∀ _ : Nat → Value,
 z (IntKind.wrap .i64 (s33.2.1 + 1)) fun (z38 : Int) =>
 again32 ((s36.1.1, s36.1.2.1, s36.1.2.2), z38, ()) w37)
  fun (K35 : ((Option Addr × Nat × Nat) × Unit) → World → Prop) =>
 z (IntKind.wrap .u64 s33.2.1) fun (z39 : Int) =>
 rdp Try.prog (cmpS .shr 3 (.tmp 100) (.tmp 102) (.int .i64 s24.1) (.int .u64 z39)) (.one (.int .i64)) fun (x40 : Int) =>
 z (iand .i64 x40 1) fun (z41 : Int) =>
 br (z41 == 1) (wr Try.prog (Instr.buildSlice 22 1 #[(0, (.int .i64 s33.2.1))]) (.one .slice) w34 fun (x42 : (Option Addr × Nat × Nat)) (w43 : World) =>
 wr Try.prog (Builtin.append_ #[22, 22] 22 #[(.slice s33.1.1 s33.1.2.1 s33.1.2.2), (.slice x42.1 x42.2.1 x42.2.2)]) (.one .slice) w43 fun (x44 : (Option Addr × Nat × Nat)) (w45 : World) =>
 K35 ((x44.1, x44.2.1, x44.2.2), ()) w45)
 (K35 ((s33.1.1, s33.1.2.1, s33.1.2.2), ()) w34))
 (br (decide (((s33.1.2.1 : Nat) : Int) < ((x5.1.2.1 : Nat) : Int))) (call Try.prog 14 [(.slice x3.1 x3.2.1 x3.2.2), (.slice s33.1.1 s33.1.2.1 s33.1.2.2)] (.one (.one .bool)) w34 fun (x46 : Bool) (w47 : World) =>
 br x46 (R (.bool false) w47)
 (K28 (()) w47))
 (K28 (()) w34)))
 (call Try.prog 16 [] (.one (.one .bool)) w25 fun (x48 : Bool) (w49 : World) =>
 R (.bool x48) w49)))))))))
def H3 : Hints := ⟨[(2, 0, [(78, (.one (.int .i64)))]), (2, 2, [(15, (.one (.int .i64)))]), (2, 4, [(16, (.one .slice)), (97, (.one (.int .i64)))]), (1, 5, [(16, (.one .slice))]), (1, 3, [])], [], [], []⟩
set_option maxRecDepth 100000 in
theorem S3_eq (t_a : Option Addr) (t_n : Nat) (t_c : Nat) (w0 : World) (R : Value → World → Prop) : vcFn Try.prog H3 Try.f3 [(.slice t_a t_n t_c)] w0 R = S3 t_a t_n t_c w0 R := by kernel_rfl
set_option maxRecDepth 100000 in
theorem S3_calls (t_a : Option Addr) (t_n : Nat) (t_c : Nat) (w0 : World) (R : Value → World → Prop) (h : S3 t_a t_n t_c w0 R) : Calls Try.prog 3 #[(.slice t_a t_n t_c)] w0 (ret R) := by
  rw [← S3_eq] at h; exact vcFn_sound follows_ Try.func3 h

/-- querylab/querylablaw31.SuiteApart -/
def S5 (t_a : Option Addr) (t_n : Nat) (t_c : Nat) (w0 : World) (R : Value → World → Prop) : Prop :=
 call Try.prog 8 [(.slice t_a t_n t_c)] (.one (.one .ptr)) w0 fun (x1 : (Option Addr)) (w2 : World) =>
 call Try.prog 9 [(.pointer x1), (.int .i64 7), (.int .i64 16)] (.one (.one .slice)) w2 fun (x3 : (Option Addr × Nat × Nat)) (w4 : World) =>
 call Try.prog 12 [(.slice x3.1 x3.2.1 x3.2.2)] (.many [(.one .slice), (.one (.int .i64))]) w4 fun (x5 : ((Option Addr × Nat × Nat) × Int × Unit)) (w6 : World) =>
 br (x5.2.1 != 0) (R (.bool false) w6)
 (br (((x3.2.1 : Nat) : Int) == 0) (br (((x5.1.2.1 : Nat) : Int) == 0) (call Try.prog 16 [] (.one (.one .bool)) w6 fun (x7 : Bool) (w8 : World) =>
 R (.bool x7) w8)
 (R (.bool false) w6))
 (rdp Try.prog (Instr.indexAt 25 (.slice x3.1 x3.2.1 x3.2.2) (.int .i64 0)) (.one .addr) fun (x9 : Addr) =>
 rd Try.prog (Instr.loadAt 35 (.pointer (some x9))) (.one .slice) w6 fun (x10 : (Option Addr × Nat × Nat)) =>
 loop (T := (Int × Unit)) (0, ()) w6 fun (again11 : (Int × Unit) → World → Prop) (s12 : (Int × Unit)) w13 => ∀ _ : Nat → Value,
 br (decide (s12.1 < ((x10.2.1 : Nat) : Int))) (join (T := (Unit)) (fun (_s15 : (Unit)) w16 => ∀ _ : Nat → Value,
 z (IntKind.wrap .i64 (s12.1 + 1)) fun (z17 : Int) =>
 again11 (z17, ()) w16)
  fun (K14 : (Unit) → World → Prop) =>
 loop (T := (Bool × Bool × Int × Unit)) (false, true, 0, ()) w13 fun (again18 : (Bool × Bool × Int × Unit) → World → Prop) (s19 : (Bool × Bool × Int × Unit)) w20 => ∀ _ : Nat → Value,
 br (decide (s19.2.2.1 < ((x3.2.1 : Nat) : Int))) (rdp Try.prog (Instr.indexAt 25 (.slice x3.1 x3.2.1 x3.2.2) (.int .i64 s19.2.2.1)) (.one .addr) fun (x21 : Addr) =>
 rd Try.prog (Instr.loadAt 35 (.pointer (some x21))) (.one .slice) w20 fun (x22 : (Option Addr × Nat × Nat)) =>
 join (T := (Bool × Unit)) (fun (s24 : (Bool × Unit)) w25 => ∀ _ : Nat → Value,
 loop (T := (Bool × Int × Unit)) (s19.2.1, 0, ()) w25 fun (again26 : (Bool × Int × Unit) → World → Prop) (s27 : (Bool × Int × Unit)) w28 => ∀ _ : Nat → Value,
 br (decide (s27.2.1 < ((x5.1.2.1 : Nat) : Int))) (rdp Try.prog (Instr.indexAt 22 (.slice x5.1.1 x5.1.2.1 x5.1.2.2) (.int .i64 s27.2.1)) (.one .addr) fun (x29 : Addr) =>
 rd Try.prog (Instr.loadAt 3 (.pointer (some x29))) (.one (.int .i64)) w28 fun (x30 : Int) =>
 br s27.1 (rdp Try.prog (Instr.indexAt 35 (.slice x22.1 x22.2.1 x22.2.2) (.int .i64 s12.1)) (.one .addr) fun (x31 : Addr) =>
 rd Try.prog (Instr.loadAt 4 (.pointer (some x31))) (.one .bool) w28 fun (x32 : Bool) =>
 br x32 (br (x30 != s12.1) (br (decide (x30 ≥ 0)) (br (decide (x30 < ((x22.2.1 : Nat) : Int))) (rdp Try.prog (Instr.indexAt 35 (.slice x22.1 x22.2.1 x22.2.2) (.int .i64 x30)) (.one .addr) fun (x33 : Addr) =>
 rd Try.prog (Instr.loadAt 4 (.pointer (some x33))) (.one .bool) w28 fun (x34 : Bool) =>
 z (IntKind.wrap .i64 (s27.2.1 + 1)) fun (z35 : Int) =>
 again26 ((!x34), z35, ()) w28)
 (z (IntKind.wrap .i64 (s27.2.1 + 1)) fun (z36 : Int) =>
 again26 ((!false), z36, ()) w28))
 (z (IntKind.wrap .i64 (s27.2.1 + 1)) fun (z37 : Int) =>
 again26 ((!false), z37, ()) w28))
 (z (IntKind.wrap .i64 (s27.2.1 + 1)) fun (z38 : Int) =>
 again26 ((!false), z38, ()) w28))
 (z (IntKind.wrap .i64 (s27.2.1 + 1)) fun (z39 : Int) =>
 again26 ((!false), z39, ()) w28))
 (z (IntKind.wrap .i64 (s27.2.1 + 1)) fun (z40 : Int) =>
 again26 (false, z40, ()) w28))
 (z (IntKind.wrap .i64 (s19.2.2.1 + 1)) fun (z41 : Int) =>
 again18 (s24.1, s27.1, z41, ()) w28))
  fun (K23 : (Bool × Unit) → World → Prop) =>
 br s19.1 (K23 (true, ()) w20)
 (rdp Try.prog (Instr.indexAt 35 (.slice x22.1 x22.2.1 x22.2.2) (.int .i64 s12.1)) (.one .addr) fun (x42 : Addr) =>
 rd Try.prog (Instr.loadAt 4 (.pointer (some x42))) (.one .bool) w20 fun (x43 : Bool) =>
 K23 (x43, ()) w20))
 (join (T := (Bool × Unit)) (fun (s45 : (Bool × Unit)) w46 => ∀ _ : Nat → Value,
 br s45.1 (R (.bool false) w46)
 (K14 (()) w46))
  fun (K44 : (Bool × Unit) → World → Prop) =>
 call Try.prog 15 [(.slice x5.1.1 x5.1.2.1 x5.1.2.2), (.int .i64 s12.1)] (.one (.one .bool)) w20 fun (x47 : Bool) (w48 : World) =>
 br x47 (br (!s19.1) (K44 (true, ()) w48)
 (br (!s19.2.1) (K44 (true, ()) w48)
 (call Try.prog 15 [(.slice x5.1.1 x5.1.2.1 x5.1.2.2), (.int .i64 s12.1)] (.one (.one .bool)) w48 fun (x49 : Bool) (w50 : World) =>
 br (!x49) (br s19.1 (K44 (s19.2.1, ()) w50)
 (K44 (false, ()) w50))
 (K44 (false, ()) w50))))
 (call Try.prog 15 [(.slice x5.1.1 x5.1.2.1 x5.1.2.2), (.int .i64 s12.1)] (.one (.one .bool)) w48 fun (x51 : Bool) (w52 : World) =>
 br (!x51) (br s19.1 (K44 (s19.2.1, ()) w52)
 (K44 (false, ()) w52))
 (K44 (false, ()) w52))))
 (call Try.prog 16 [] (.one (.one .bool)) w13 fun (x53 : Bool) (w54 : World) =>
 R (.bool x53) w54)))
def H5 : Hints := ⟨[(2, 0, [(38, (.one (.int .i64)))]), (2, 2, [(8, (.one .bool)), (9, (.one .bool)), (43, (.one (.int .i64)))]), (3, 15, [(8, (.one .bool))]), (2, 4, [(9, (.one .bool)), (56, (.one (.int .i64)))]), (3, 22, [(113, (.one .bool))]), (1, 1, [])], [], [], []⟩
set_option maxRecDepth 100000 in
theorem S5_eq (t_a : Option Addr) (t_n : Nat) (t_c : Nat) (w0 : World) (R : Value → World → Prop) : vcFn Try.prog H5 Try.f5 [(.slice t_a t_n t_c)] w0 R = S5 t_a t_n t_c w0 R := by kernel_rfl
set_option maxRecDepth 100000 in
theorem S5_calls (t_a : Option Addr) (t_n : Nat) (t_c : Nat) (w0 : World) (R : Value → World → Prop) (h : S5 t_a t_n t_c w0 R) : Calls Try.prog 5 #[(.slice t_a t_n t_c)] w0 (ret R) := by
  rw [← S5_eq] at h; exact vcFn_sound follows_ Try.func5 h

/-- querylab/querylablaw31.SuiteSurvives -/
def S7 (t_a : Option Addr) (t_n : Nat) (t_c : Nat) (w0 : World) (R : Value → World → Prop) : Prop :=
 call Try.prog 8 [(.slice t_a t_n t_c)] (.one (.one .ptr)) w0 fun (x1 : (Option Addr)) (w2 : World) =>
 call Try.prog 9 [(.pointer x1), (.int .i64 7), (.int .i64 20)] (.one (.one .slice)) w2 fun (x3 : (Option Addr × Nat × Nat)) (w4 : World) =>
 loop (T := ((Option Addr × Nat × Nat) × (Option Addr × Nat × Nat) × Int × Unit)) ((none, 0, 0), (none, 0, 0), 0, ()) w4 fun (again5 : ((Option Addr × Nat × Nat) × (Option Addr × Nat × Nat) × Int × Unit) → World → Prop) (s6 : ((Option Addr × Nat × Nat) × (Option Addr × Nat × Nat) × Int × Unit)) w7 => ∀ _ : Nat → Value,
 br (decide (s6.2.2.1 < ((x3.2.1 : Nat) : Int))) (join (T := ((Option Addr × Nat × Nat) × (Option Addr × Nat × Nat) × Unit)) (fun (s9 : ((Option Addr × Nat × Nat) × (Option Addr × Nat × Nat) × Unit)) w10 => ∀ _ : Nat → Value,
 z (IntKind.wrap .i64 (s6.2.2.1 + 1)) fun (z11 : Int) =>
 again5 ((s9.1.1, s9.1.2.1, s9.1.2.2), (s9.2.1.1, s9.2.1.2.1, s9.2.1.2.2), z11, ()) w10)
  fun (K8 : ((Option Addr × Nat × Nat) × (Option Addr × Nat × Nat) × Unit) → World → Prop) =>
 wr Try.prog (Instr.buildSlice 22 1 #[(0, (.int .i64 s6.2.2.1))]) (.one .slice) w7 fun (x12 : (Option Addr × Nat × Nat)) (w13 : World) =>
 wr Try.prog (Builtin.append_ #[22, 22] 22 #[(.slice s6.2.1.1 s6.2.1.2.1 s6.2.1.2.2), (.slice x12.1 x12.2.1 x12.2.2)]) (.one .slice) w13 fun (x14 : (Option Addr × Nat × Nat)) (w15 : World) =>
 call Try.prog 18 [(.pointer x1), (.int .i64 2)] (.one (.one (.int .i64))) w15 fun (x16 : Int) (w17 : World) =>
 br (x16 == 1) (wr Try.prog (Instr.buildSlice 22 1 #[(0, (.int .i64 s6.2.2.1))]) (.one .slice) w17 fun (x18 : (Option Addr × Nat × Nat)) (w19 : World) =>
 wr Try.prog (Builtin.append_ #[22, 22] 22 #[(.slice s6.1.1 s6.1.2.1 s6.1.2.2), (.slice x18.1 x18.2.1 x18.2.2)]) (.one .slice) w19 fun (x20 : (Option Addr × Nat × Nat)) (w21 : World) =>
 K8 ((x20.1, x20.2.1, x20.2.2), (x14.1, x14.2.1, x14.2.2), ()) w21)
 (K8 ((s6.1.1, s6.1.2.1, s6.1.2.2), (x14.1, x14.2.1, x14.2.2), ()) w17))
 (call Try.prog 29 [(.slice x3.1 x3.2.1 x3.2.2), (.slice s6.1.1 s6.1.2.1 s6.1.2.2)] (.many [(.one .slice), (.one (.int .i64))]) w7 fun (x22 : ((Option Addr × Nat × Nat) × Int × Unit)) (w23 : World) =>
 call Try.prog 29 [(.slice x3.1 x3.2.1 x3.2.2), (.slice s6.2.1.1 s6.2.1.2.1 s6.2.1.2.2)] (.many [(.one .slice), (.one (.int .i64))]) w23 fun (x24 : ((Option Addr × Nat × Nat) × Int × Unit)) (w25 : World) =>
 join (T := ((Option Addr × Nat × Nat) × Unit)) (fun (s27 : ((Option Addr × Nat × Nat) × Unit)) w28 => ∀ _ : Nat → Value,
 call Try.prog 29 [(.slice x3.1 x3.2.1 x3.2.2), (.slice s27.1.1 s27.1.2.1 s27.1.2.2)] (.many [(.one .slice), (.one (.int .i64))]) w28 fun (x29 : ((Option Addr × Nat × Nat) × Int × Unit)) (w30 : World) =>
 br (x22.2.1 != 0) (R (.bool false) w30)
 (br (x24.2.1 != 0) (R (.bool false) w30)
 (br (x29.2.1 != 0) (R (.bool false) w30)
 (call Try.prog 14 [(.slice x3.1 x3.2.1 x3.2.2), (.slice s6.1.1 s6.1.2.1 s6.1.2.2)] (.one (.one .bool)) w30 fun (x31 : Bool) (w32 : World) =>
 br (!(x31 == (((x22.1.2.1 : Nat) : Int) == ((x24.1.2.1 : Nat) : Int)))) (R (.bool false) w32)
 (loop (T := (Int × Unit)) (0, ()) w32 fun (again33 : (Int × Unit) → World → Prop) (s34 : (Int × Unit)) w35 => ∀ _ : Nat → Value,
 br (decide (s34.1 < ((x29.1.2.1 : Nat) : Int))) (rdp Try.prog (Instr.indexAt 22 (.slice x29.1.1 x29.1.2.1 x29.1.2.2) (.int .i64 s34.1)) (.one .addr) fun (x36 : Addr) =>
 rd Try.prog (Instr.loadAt 3 (.pointer (some x36))) (.one (.int .i64)) w35 fun (x37 : Int) =>
 call Try.prog 15 [(.slice x22.1.1 x22.1.2.1 x22.1.2.2), (.int .i64 x37)] (.one (.one .bool)) w35 fun (x38 : Bool) (w39 : World) =>
 br (!x38) (R (.bool false) w39)
 (z (IntKind.wrap .i64 (s34.1 + 1)) fun (z40 : Int) =>
 again33 (z40, ()) w39))
 (loop (T := (Int × Unit)) (0, ()) w35 fun (again41 : (Int × Unit) → World → Prop) (s42 : (Int × Unit)) w43 => ∀ _ : Nat → Value,
 br (decide (s42.1 < ((x24.1.2.1 : Nat) : Int))) (rdp Try.prog (Instr.indexAt 22 (.slice x24.1.1 x24.1.2.1 x24.1.2.2) (.int .i64 s42.1)) (.one .addr) fun (x44 : Addr) =>
 rd Try.prog (Instr.loadAt 3 (.pointer (some x44))) (.one (.int .i64)) w43 fun (x45 : Int) =>
 call Try.prog 15 [(.slice x22.1.1 x22.1.2.1 x22.1.2.2), (.int .i64 x45)] (.one (.one .bool)) w43 fun (x46 : Bool) (w47 : World) =>
 br (!x46) (R (.bool false) w47)
 (z (IntKind.wrap .i64 (s42.1 + 1)) fun (z48 : Int) =>
 again41 (z48, ()) w47))
 (call Try.prog 16 [] (.one (.one .bool)) w43 fun (x49 : Bool) (w50 : World) =>
 R (.bool x49) w50)))))))
  fun (K26 : ((Option Addr × Nat × Nat) × Unit) → World → Prop) =>
 br (decide (((x3.2.1 : Nat) : Int) > 0)) (call Try.prog 18 [(.pointer x1), (.int .i64 ((x3.2.1 : Nat) : Int))] (.one (.one (.int .i64))) w25 fun (x51 : Int) (w52 : World) =>
 call Try.prog 32 [(.slice s6.1.1 s6.1.2.1 s6.1.2.2), (.int .i64 x51)] (.one (.one .slice)) w52 fun (x53 : (Option Addr × Nat × Nat)) (w54 : World) =>
 K26 ((x53.1, x53.2.1, x53.2.2), ()) w54)
 (K26 ((s6.1.1, s6.1.2.1, s6.1.2.2), ()) w25))
def H7 : Hints := ⟨[(2, 0, [(5, (.one .slice)), (6, (.one .slice)), (25, (.one (.int .i64)))]), (1, 1, [(5, (.one .slice)), (6, (.one .slice))]), (0, 55, [(12, (.one .slice))]), (2, 2, [(91, (.one (.int .i64)))]), (2, 4, [(102, (.one (.int .i64)))])], [], [], []⟩
set_option maxRecDepth 100000 in
theorem S7_eq (t_a : Option Addr) (t_n : Nat) (t_c : Nat) (w0 : World) (R : Value → World → Prop) : vcFn Try.prog H7 Try.f7 [(.slice t_a t_n t_c)] w0 R = S7 t_a t_n t_c w0 R := by kernel_rfl
set_option maxRecDepth 100000 in
theorem S7_calls (t_a : Option Addr) (t_n : Nat) (t_c : Nat) (w0 : World) (R : Value → World → Prop) (h : S7 t_a t_n t_c w0 R) : Calls Try.prog 7 #[(.slice t_a t_n t_c)] w0 (ret R) := by
  rw [← S7_eq] at h; exact vcFn_sound follows_ Try.func7 h

/-- querylab/querylablaw31.SuiteOrder -/
def S4 (t_a : Option Addr) (t_n : Nat) (t_c : Nat) (w0 : World) (R : Value → World → Prop) : Prop :=
 call Try.prog 8 [(.slice t_a t_n t_c)] (.one (.one .ptr)) w0 fun (x1 : (Option Addr)) (w2 : World) =>
 call Try.prog 9 [(.pointer x1), (.int .i64 6), (.int .i64 12)] (.one (.one .slice)) w2 fun (x3 : (Option Addr × Nat × Nat)) (w4 : World) =>
 br (((x3.2.1 : Nat) : Int) == 0) (call Try.prog 16 [] (.one (.one .bool)) w4 fun (x5 : Bool) (w6 : World) =>
 R (.bool x5) w6)
 (rdp Try.prog (Instr.indexAt 25 (.slice x3.1 x3.2.1 x3.2.2) (.int .i64 0)) (.one .addr) fun (x7 : Addr) =>
 rd Try.prog (Instr.loadAt 35 (.pointer (some x7))) (.one .slice) w4 fun (x8 : (Option Addr × Nat × Nat)) =>
 br (((x8.2.1 : Nat) : Int) == 0) (call Try.prog 16 [] (.one (.one .bool)) w4 fun (x9 : Bool) (w10 : World) =>
 R (.bool x9) w10)
 (rdp Try.prog (Instr.indexAt 25 (.slice x3.1 x3.2.1 x3.2.2) (.int .i64 0)) (.one .addr) fun (x11 : Addr) =>
 rd Try.prog (Instr.loadAt 35 (.pointer (some x11))) (.one .slice) w4 fun (x12 : (Option Addr × Nat × Nat)) =>
 call Try.prog 17 [(.pointer x1), (.int .i64 ((x12.2.1 : Nat) : Int))] (.one (.one .slice)) w4 fun (x13 : (Option Addr × Nat × Nat)) (w14 : World) =>
 rdp Try.prog (Instr.indexAt 25 (.slice x3.1 x3.2.1 x3.2.2) (.int .i64 0)) (.one .addr) fun (x15 : Addr) =>
 rd Try.prog (Instr.loadAt 35 (.pointer (some x15))) (.one .slice) w14 fun (x16 : (Option Addr × Nat × Nat)) =>
 call Try.prog 18 [(.pointer x1), (.int .i64 ((x16.2.1 : Nat) : Int))] (.one (.one (.int .i64))) w14 fun (x17 : Int) (w18 : World) =>
 loop (T := ((Option Addr × Nat × Nat) × (Option Addr × Nat × Nat) × Int × Unit)) ((none, 0, 0), (none, 0, 0), 0, ()) w18 fun (again19 : ((Option Addr × Nat × Nat) × (Option Addr × Nat × Nat) × Int × Unit) → World → Prop) (s20 : ((Option Addr × Nat × Nat) × (Option Addr × Nat × Nat) × Int × Unit)) w21 => ∀ _ : Nat → Value,
 br (decide (s20.2.2.1 < ((x3.2.1 : Nat) : Int))) (rdp Try.prog (Instr.indexAt 25 (.slice x3.1 x3.2.1 x3.2.2) (.int .i64 s20.2.2.1)) (.one .addr) fun (x22 : Addr) =>
 rd Try.prog (Instr.loadAt 35 (.pointer (some x22))) (.one .slice) w21 fun (x23 : (Option Addr × Nat × Nat)) =>
 wr Try.prog (Instr.makeSlice 35 (.int .i64 ((x23.2.1 : Nat) : Int)) (.int .i64 ((x23.2.1 : Nat) : Int))) (.one .slice) w21 fun (x24 : (Option Addr × Nat × Nat)) (w25 : World) =>
 loop (T := (Int × Unit)) (0, ()) w25 fun (again26 : (Int × Unit) → World → Prop) (s27 : (Int × Unit)) w28 => ∀ _ : Nat → Value,
 br (decide (s27.1 < ((x13.2.1 : Nat) : Int))) (rdp Try.prog (Instr.indexAt 22 (.slice x13.1 x13.2.1 x13.2.2) (.int .i64 s27.1)) (.one .addr) fun (x29 : Addr) =>
 rd Try.prog (Instr.loadAt 3 (.pointer (some x29))) (.one (.int .i64)) w28 fun (x30 : Int) =>
 rdp Try.prog (Instr.indexAt 35 (.slice x23.1 x23.2.1 x23.2.2) (.int .i64 x30)) (.one .addr) fun (x31 : Addr) =>
 rd Try.prog (Instr.loadAt 4 (.pointer (some x31))) (.one .bool) w28 fun (x32 : Bool) =>
 rdp Try.prog (Instr.indexAt 35 (.slice x24.1 x24.2.1 x24.2.2) (.int .i64 s27.1)) (.one .addr) fun (x33 : Addr) =>
 wu Try.prog (Instr.storeAt 4 (.pointer (some x33)) (.bool x32)) w28 fun (w34 : World) =>
 z (IntKind.wrap .i64 (s27.1 + 1)) fun (z35 : Int) =>
 again26 (z35, ()) w34)
 (wr Try.prog (Instr.buildSlice 25 1 #[(0, (.slice x24.1 x24.2.1 x24.2.2))]) (.one .slice) w28 fun (x36 : (Option Addr × Nat × Nat)) (w37 : World) =>
 wr Try.prog (Builtin.append_ #[25, 25] 25 #[(.slice s20.1.1 s20.1.2.1 s20.1.2.2), (.slice x36.1 x36.2.1 x36.2.2)]) (.one .slice) w37 fun (x38 : (Option Addr × Nat × Nat)) (w39 : World) =>
 drw w39 fun w40 => flEx fun F41 =>
 flc bel w40 (fun _w43 => True) (fun (w42 : World) =>
   wr Try.prog (Instr.buildSlice 35 0 #[]) (.one .slice) w42 fun (x44 : (Option Addr × Nat × Nat)) (w45 : World) =>
 (bel w42 w45 ∧ F41 1 [] (.slice x44.1 x44.2.1 x44.2.2) w45))
  fun (x46 : (Option Addr × Nat × Nat)) =>
 flc bel w40 (fun w48 => F41 1 [] (.slice x46.1 x46.2.1 x46.2.2) w48 ∧ True) (fun (w47 : World) =>
   wr Try.prog (Builtin.append_ #[35, 35] 35 #[(.slice x46.1 x46.2.1 x46.2.2), (.slice x23.1 x23.2.1 x23.2.2)]) (.one .slice) w47 fun (x49 : (Option Addr × Nat × Nat)) (w50 : World) =>
 (bel w47 w50 ∧ F41 3 [(.slice x46.1 x46.2.1 x46.2.2), (.slice x23.1 x23.2.1 x23.2.2)] (.slice x49.1 x49.2.1 x49.2.2) w50))
  fun (x51 : (Option Addr × Nat × Nat)) =>
 rdp Try.prog (Instr.indexAt 35 (.slice x23.1 x23.2.1 x23.2.2) (.int .i64 x17)) (.one .addr) fun (x52 : Addr) =>
 rd Try.prog (Instr.loadAt 4 (.pointer (some x52))) (.one .bool) w40 fun (x53 : Bool) =>
 flc bel w40 (fun _w55 => True) (fun (w54 : World) =>
   wr Try.prog (Instr.buildSlice 35 2 #[(0, (.bool x53)), (1, (.bool false))]) (.one .slice) w54 fun (x56 : (Option Addr × Nat × Nat)) (w57 : World) =>
 (bel w54 w57 ∧ F41 8 [] (.slice x56.1 x56.2.1 x56.2.2) w57))
  fun (x58 : (Option Addr × Nat × Nat)) =>
 flend bel w40 (fun w60 => F41 8 [] (.slice x58.1 x58.2.1 x58.2.2) w60 ∧ F41 3 [(.slice x46.1 x46.2.1 x46.2.2), (.slice x23.1 x23.2.1 x23.2.2)] (.slice x51.1 x51.2.1 x51.2.2) w60 ∧ F41 1 [] (.slice x46.1 x46.2.1 x46.2.2) w60 ∧ True) fun w59 =>
 wr Try.prog (Builtin.append_ #[35, 35] 35 #[(.slice x51.1 x51.2.1 x51.2.2), (.slice x58.1 x58.2.1 x58.2.2)]) (.one .slice) w59 fun (x61 : (Option Addr × Nat × Nat)) (w62 : World) =>
 wr Try.prog (Instr.buildSlice 25 1 #[(0, (.slice x61.1 x61.2.1 x61.2.2))]) (.one .slice) w62 fun (x63 : (Option Addr × Nat × Nat)) (w64 : World) =>
 wr Try.prog (Builtin.append_ #[25, 25] 25 #[(.slice s20.2.1.1 s20.2.1.2.1 s20.2.1.2.2), (.slice x63.1 x63.2.1 x63.2.2)]) (.one .slice) w64 fun (x65 : (Option Addr × Nat × Nat)) (w66 : World) =>
 z (IntKind.wrap .i64 (s20.2.2.1 + 1)) fun (z67 : Int) =>
 again19 ((x38.1, x38.2.1, x38.2.2), (x65.1, x65.2.1, x65.2.2), z67, ()) w66))
 (call Try.prog 10 [(.slice x3.1 x3.2.1 x3.2.2)] (.many [(.one .slice), (.one (.int .i64))]) w21 fun (x68 : ((Option Addr × Nat × Nat) × Int × Unit)) (w69 : World) =>
 call Try.prog 10 [(.slice s20.1.1 s20.1.2.1 s20.1.2.2)] (.many [(.one .slice), (.one (.int .i64))]) w69 fun (x70 : ((Option Addr × Nat × Nat) × Int × Unit)) (w71 : World) =>
 call Try.prog 10 [(.slice s20.2.1.1 s20.2.1.2.1 s20.2.1.2.2)] (.many [(.one .slice), (.one (.int .i64))]) w71 fun (x72 : ((Option Addr × Nat × Nat) × Int × Unit)) (w73 : World) =>
 call Try.prog 13 [(.slice x3.1 x3.2.1 x3.2.2)] (.many [(.one .slice), (.one (.int .i64))]) w73 fun (x74 : ((Option Addr × Nat × Nat) × Int × Unit)) (w75 : World) =>
 call Try.prog 13 [(.slice s20.1.1 s20.1.2.1 s20.1.2.2)] (.many [(.one .slice), (.one (.int .i64))]) w75 fun (x76 : ((Option Addr × Nat × Nat) × Int × Unit)) (w77 : World) =>
 br (x68.2.1 == 0) (br (x70.2.1 == 0) (br (x72.2.1 == 0) (br (x74.2.1 == 0) (br (x76.2.1 == 0) (call Try.prog 19 [(.slice x68.1.1 x68.1.2.1 x68.1.2.2), (.slice x70.1.1 x70.1.2.1 x70.1.2.2)] (.one (.one .bool)) w77 fun (x78 : Bool) (w79 : World) =>
 br x78 (call Try.prog 19 [(.slice x68.1.1 x68.1.2.1 x68.1.2.2), (.slice x72.1.1 x72.1.2.1 x72.1.2.2)] (.one (.one .bool)) w79 fun (x80 : Bool) (w81 : World) =>
 br x80 (call Try.prog 19 [(.slice x74.1.1 x74.1.2.1 x74.1.2.2), (.slice x76.1.1 x76.1.2.1 x76.1.2.2)] (.one (.one .bool)) w81 fun (x82 : Bool) (w83 : World) =>
 br x82 (call Try.prog 16 [] (.one (.one .bool)) w83 fun (x84 : Bool) (w85 : World) =>
 R (.bool x84) w85)
 (R (.bool false) w83))
 (R (.bool false) w81))
 (R (.bool false) w79))
 (R (.bool false) w77))
 (R (.bool false) w77))
 (R (.bool false) w77))
 (R (.bool false) w77))
 (R (.bool false) w77))))
def H4 : Hints := ⟨[(2, 0, [(7, (.one .slice)), (8, (.one .slice)), (53, (.one (.int .i64)))]), (2, 2, [(62, (.one (.int .i64)))])], [(18, 9)], [], []⟩
set_option maxRecDepth 100000 in
theorem S4_eq (t_a : Option Addr) (t_n : Nat) (t_c : Nat) (w0 : World) (R : Value → World → Prop) : vcFn Try.prog H4 Try.f4 [(.slice t_a t_n t_c)] w0 R = S4 t_a t_n t_c w0 R := by kernel_rfl
set_option maxRecDepth 100000 in
theorem S4_calls (t_a : Option Addr) (t_n : Nat) (t_c : Nat) (w0 : World) (R : Value → World → Prop) (h : S4 t_a t_n t_c w0 R) : Calls Try.prog 4 #[(.slice t_a t_n t_c)] w0 (ret R) := by
  rw [← S4_eq] at h; exact vcFn_sound follows_ Try.func4 h

end Go.Proofs

/- The tape, matrices that are made, lists that are compared, the example. -/


namespace Go.Proofs.Ytaomejbaocehnaa
open Go.RowKit Go.Q Go.V

theorem Sl.pre {w : World} {a : Option Addr} {n c m : Nat} {xs : List Value} (S : Sl w a n c 1 xs) (hm : m ≤ n) : Sl w a m c 1 (xs.take m) := by
  have hl := S.len
  have hc := S.cap
  refine ⟨by rw [List.length_take]; omega, by omega, S.most, fun e => by have := S.nil' e; omega, fun j u hu => ?_⟩
  rw [List.getElem?_take] at hu
  split at hu
  · exact S.at' j u hu
  · cases hu
structure Tape (w : World) (tb : Addr) (l : Hdr) (L : List Int) (p : Nat) : Prop where
  box : Box w tb [.slice l.1 l.2.1 l.2.2, .int .i64 (p : Int)]
  sl : SlI w l L
  old : ∀ ad, l.1 = some ad → L ≠ [] → ad.block < tb.block
  i64 : ∀ x ∈ L, I64 x
  le : p ≤ L.length
  len : L.length ≤ 2000
theorem Tape.up {w w' : World} {tb : Addr} {l : Hdr} {L : List Int} {p : Nat} (h : Tape w tb l L p) (hb : bel w w') : Tape w' tb l L p := ⟨h.box.up hb, Sl.up h.sl hb, h.old, h.i64, h.le, h.len⟩
theorem Tape.put {w w' : World} {tb : Addr} {l : Hdr} {L : List Int} {p : Nat} {o : Option Nat} (h : Tape w tb l L p) (hg : w.grownBy w' o) (ho : ∀ k, o = some k → tb.block < k) : Tape w' tb l L p :=
  ⟨h.box.grown hg (fun e => by have := ho _ e.symm; omega), h.sl.grown hg (fun ad ha hx e => by have := h.old ad ha (by rintro rfl; exact hx rfl); have := ho _ e.symm; omega), h.old, h.i64, h.le, h.len⟩
theorem newF (l : Hdr) (L : List Int) (w : World) (H : SlI w l L) (hI : ∀ x ∈ L, I64 x) :
    call Try.prog 8 [.slice l.1 l.2.1 l.2.2] (.one (.one .ptr)) w (fun (x : Option Addr) w' => ∃ tb l' L', x = some tb ∧ tb.block = w.heap.size ∧ Tape w' tb l' L' 0 ∧ bel w w') := by
  refine call_of (S8_calls l.1 l.2.1 l.2.2 w _ ?_)
  unfold S8
  have hl := H.int
  have hcap := H.cap
  have hlt := H.lt
  refine z_eq (m := ((min l.2.1 2000 : Nat) : Int)) (by split <;> omega) ?_
  refine sl_to tyI (m := min l.2.1 2000) rfl (by omega) ?_
  refine wr_box fun tb w4 X h4 etb _ => ?_
  have S4 := Sl.pre (m := min l.2.1 2000) (H.up h4) (by omega)
  have et : List.take (min l.2.1 2000) (ints .i64 L) = ints .i64 (L.take (min l.2.1 2000)) := by simp [ints, List.map_take]
  rw [et] at S4
  exact ⟨some tb, rfl, tb, (l.1, min l.2.1 2000, l.2.2), L.take (min l.2.1 2000), rfl, etb, ⟨X, S4, fun ad ha hx => by have := hlt ad ha (by rintro e; cases L with | nil => simp at hx | cons y L => cases e); omega, fun x hx => hI x (List.mem_of_mem_take hx), Nat.zero_le _, by rw [List.length_take]; omega⟩, h4⟩
theorem rawF {w : World} {tb : Addr} {l : Hdr} {L : List Int} {p : Nat} (h : Tape w tb l L p) :
    call Try.prog 42 [.pointer (some tb)] (.one (.one (.int .i64))) w (fun (x : Int) w' => I64 x ∧ (∃ p', Tape w' tb l L p') ∧ w.grownBy w' (some tb.block)) := by
  refine call_of (S42_calls (some tb) w _ ?_)
  unfold S42
  have hl := h.sl.int
  have h2000 := h.len
  refine drw_mk fun w1 h1 _ => ?_
  replace h := h.up h1
  refine nn_mk rfl ?_
  refine rd_box (by kernel_rfl) h.box (i := 1) rfl rfl ?_
  refine nn_mk rfl ?_
  refine rd_box0 (by kernel_rfl) h.box rfl rfl ?_
  refine br_dec (fun e => ⟨(0 : Int), rfl, by omega, ⟨p, h⟩, grown_of_bel h1 _⟩) (fun e => ?_)
  dsimp only at e
  refine nn_mk rfl ?_
  refine rd_box (by kernel_rfl) h.box (i := 1) rfl rfl ?_
  refine z_i64 (by omega) ?_
  refine nn_mk rfl ?_
  refine wu_boxi h.box (by kernel_rfl) (by simp) rfl fun w10 X hg _ => ?_
  have X' : Box w10 tb [.slice l.1 l.2.1 l.2.2, .int .i64 ((p + 1 : Nat) : Int)] := X
  have h10 : Tape w10 tb l L (p + 1) := ⟨X', Sl.xg h.sl hg (fun ad ha hx => by have := h.old ad ha (by rintro rfl; exact hx rfl); omega), h.old, h.i64, by omega, h.len⟩
  refine drw_mk fun w11 h11 _ => ?_
  replace h10 := h10.up h11
  refine nn_mk rfl ?_
  refine rd_box0 (by kernel_rfl) h10.box rfl rfl ?_
  refine nn_mk rfl ?_
  refine rd_box (by kernel_rfl) h10.box (i := 1) rfl rfl ?_
  refine z_i64 (by omega) ?_
  refine at_int tyI (by kernel_rfl) h10.sl (j := p) (by omega) (by omega) fun x hx => ?_
  exact ⟨x, rfl, h.i64 x (List.mem_of_getElem? hx), ⟨_, h10⟩, ((grown_of_bel h1 _).trans hg).trans (grown_of_bel h11 _)⟩
theorem modF (x n : Int) (w : World) (hn : 1 ≤ n ∧ n ≤ 9223372036854775807) :
    call Try.prog 41 [.int .i64 x, .int .i64 n] (.one (.one (.int .i64))) w (fun (y : Int) w' => (0 ≤ y ∧ y < n) ∧ bel w w') := by
  refine call_of (S41_calls x n w _ ?_)
  unfold S41
  refine br_dec (fun e => by omega) (fun _ => ?_)
  refine rdp_rem (by omega) ?_
  have b1 := Int.tmod_lt_of_pos x (show 0 < n by omega)
  have b2 := Int.lt_tmod_of_pos x (show 0 < n by omega)
  refine br_dec (fun e2 => ?_) (fun e2 => ⟨_, rfl, ⟨by omega, by omega⟩, bel.refl _⟩)
  refine z_i64 (by omega) ?_
  exact ⟨_, rfl, ⟨by omega, by omega⟩, bel.refl _⟩
theorem nF {w : World} {tb : Addr} {l : Hdr} {L : List Int} {p : Nat} (n : Int) (h : Tape w tb l L p) (hn : 1 ≤ n ∧ n ≤ 9223372036854775807) :
    call Try.prog 18 [.pointer (some tb), .int .i64 n] (.one (.one (.int .i64))) w (fun (x : Int) w' => (0 ≤ x ∧ x < n) ∧ (∃ p', Tape w' tb l L p') ∧ w.grownBy w' (some tb.block)) := by
  refine call_of (S18_calls (some tb) n w _ ?_)
  unfold S18
  refine call_mono (rawF h) ?_
  rintro (x1 : Int) w2 ⟨_, ⟨p', h'⟩, g2⟩
  refine call_mono (modF x1 n w2 hn) ?_
  rintro (x3 : Int) w4 ⟨hx3, h4⟩
  exact ⟨x3, rfl, hx3, ⟨p', h'.up h4⟩, g2.trans (grown_of_bel h4 _)⟩
theorem rangeF {w : World} {tb : Addr} {l : Hdr} {L : List Int} {p : Nat} (lo hi : Int) (h : Tape w tb l L p) (hn : -1000000 ≤ lo ∧ lo ≤ hi ∧ hi ≤ 1000000) :
    call Try.prog 33 [.pointer (some tb), .int .i64 lo, .int .i64 hi] (.one (.one (.int .i64))) w (fun (x : Int) w' => (lo ≤ x ∧ x ≤ hi) ∧ (∃ p', Tape w' tb l L p') ∧ w.grownBy w' (some tb.block)) := by
  refine call_of (S33_calls (some tb) lo hi w _ ?_)
  unfold S33
  refine z_i64 (by omega) ?_
  refine z_i64 (by omega) ?_
  refine call_mono (nF (hi - lo + 1) h (by omega)) ?_
  rintro (x3 : Int) w4 ⟨hx, ht, g4⟩
  refine z_i64 (by omega) ?_
  exact ⟨_, rfl, by omega, ht, g4⟩
/-! ### tables of bools that one owns -/
structure OT (w : World) (b0 : Nat) (h : Hdr) (hs : List Hdr) (T : List (List Bool)) : Prop where
  th : Own w b0 35 1 h.1 h.2.1 h.2.2 (hs.map hv)
  len : hs.length = T.length
  rows : ∀ (i : Nat) (x : Hdr) (r : List Bool), hs[i]? = some x → T[i]? = some r → Own w b0 4 1 x.1 x.2.1 x.2.2 (Go.Q.bools r)
section
variable {w w' : World} {b0 : Nat} {h : Hdr} {hs : List Hdr} {T : List (List Bool)}
theorem OT.tab (H : OT w b0 h hs T) : TabB w h T := ⟨⟨hs, H.th.sl, H.len, fun i x r hx hr => (H.rows i x r hx hr).sl⟩⟩
theorem OT.hl (H : OT w b0 h hs T) : T.length = h.2.1 := H.tab.len
theorem OT.up (H : OT w b0 h hs T) (hb : bel w w') : OT w' b0 h hs T := ⟨Own.kept H.th hb, H.len, fun i x r hx hr => Own.kept (H.rows i x r hx hr) hb⟩
theorem OT.xg {b : Nat} (H : OT w b0 h hs T) (hg : w.grownBy w' (some b)) (hb : b < b0) : OT w' b0 h hs T := ⟨Own.xg H.th hg hb, H.len, fun i x r hx hr => Own.xg (H.rows i x r hx hr) hg hb⟩
theorem OT.row (H : OT w b0 h hs T) {i : Nat} {x : Hdr} (hx : hs[i]? = some x) : ∃ r, T[i]? = some r ∧ Own w b0 4 1 x.1 x.2.1 x.2.2 (Go.Q.bools r) := by
  have hi : i < T.length := by rw [← H.len]; exact (List.getElem?_eq_some_iff.1 hx).1
  exact ⟨T[i], List.getElem?_eq_getElem hi, H.rows i x _ hx (List.getElem?_eq_getElem hi)⟩
theorem OT.keptBy {o : Option Nat} (H : OT w b0 h hs T) (hg : w.grownBy w' o) (hh : ∀ k, blk h.1 = some k → o ≠ some k) (hr : ∀ (i : Nat) (x : Hdr) (k : Nat), hs[i]? = some x → blk x.1 = some k → o ≠ some k) : OT w' b0 h hs T :=
  ⟨own_keep H.th hg hh, H.len, fun i x r hx hr' => own_keep (H.rows i x r hx hr') hg fun k hk => hr i x k hx hk⟩
end
theorem snoc_at {α : Type} {l : List α} {a x : α} {i : Nat} (h : (l ++ [a])[i]? = some x) : (i < l.length ∧ l[i]? = some x) ∨ (i = l.length ∧ x = a) := by
  rcases Nat.lt_or_ge i l.length with z | z
  · rw [List.getElem?_append_left z] at h; exact .inl ⟨z, h⟩
  · rw [List.getElem?_append_right z] at h
    have e : i - l.length = 0 := by
      rcases Nat.eq_zero_or_pos (i - l.length) with e | e
      · exact e
      · rw [List.getElem?_eq_none (by simp; omega)] at h; cases h
    rw [e] at h; cases h
    exact .inr ⟨by omega, rfl⟩
/-- a row is laid behind a table -/
theorem OT.push {w : World} {b0 : Nat} {h x : Hdr} {hs : List Hdr} {T : List (List Bool)} {r : List Bool} (H : OT w b0 h hs T) (O : Own w b0 4 1 x.1 x.2.1 x.2.2 (Go.Q.bools r)) (hb : b0 ≤ w.heap.size) (hl : T.length ≤ 1000) {K : Hdr → World → Prop}
    (hK : ∀ h' w', OT w' b0 h' (hs ++ [x]) (T ++ [r]) → w.grownBy w' (blk h.1) → K h' w') :
    wr Try.prog (Instr.buildSlice 25 1 #[(0, .slice x.1 x.2.1 x.2.2)]) (.one .slice) w fun (y : Hdr) w1 => wr Try.prog (Builtin.append_ #[25, 25] 25 #[.slice h.1 h.2.1 h.2.2, .slice y.1 y.2.1 y.2.2]) (.one .slice) w1 K := by
  have hl' := H.hl
  refine wr_app1 tyM H.th hb rfl (by omega) (by omega) rfl rfl (by omega) (by unfold maxLen; omega) fun a' c' w' O' hg _ _ => ?_
  refine hK (a', h.2.1 + 1, c') w' ⟨by rw [List.map_append]; exact O', by simp [H.len], fun i y q hy hq => ?_⟩ hg
  rcases snoc_at hy with ⟨z, hy⟩ | ⟨z, qy⟩
  · rw [List.getElem?_append_left (by rw [← H.len]; exact z)] at hq
    have Q := H.rows i y q hy hq
    exact own_keep Q hg (fun k hk e => Own.apart H.th Q (by decide) k e hk)
  · rw [z, H.len, List.getElem?_append_right (Nat.le_refl _), Nat.sub_self] at hq
    cases hq
    rw [qy]
    exact own_keep O hg (fun k hk e => Own.apart H.th O (by decide) k e hk)
theorem made_bool (n : Nat) : (madeCells (Value.bool false).cells (n * 1)).toList = Go.Q.bools (List.replicate n false) := by
  rw [Nat.mul_one]
  apply List.ext_getElem
  · simp [madeCells, Go.Q.bools]
  · intro i h1 h2
    simp [madeCells, Go.Q.bools, Nat.mod_one, Value.cells]
/-- what matrix returns -/
def MatR (rows columns : Nat) (w : World) (tb : Addr) (l : Hdr) (L : List Int) (x : Hdr) (w' : World) : Prop :=
  ∃ M hs n, OT w' w.heap.size x hs M ∧ M.length ≤ rows ∧ n ≤ columns ∧ (∀ r ∈ M, r.length = n) ∧ (∃ p', Tape w' tb l L p') ∧ w.grownBy w' (some tb.block)
set_option maxHeartbeats 1600000 in
theorem matrixF {w : World} {tb : Addr} {l : Hdr} {L : List Int} {p : Nat} (rows columns : Nat) (ht : Tape w tb l L p) (hr : rows ≤ 14) (hc : columns ≤ 400) :
    call Try.prog 9 [.pointer (some tb), .int .i64 (rows : Int), .int .i64 (columns : Int)] (.one (.one .slice)) w (MatR rows columns w tb l L) := by
  refine call_of (S9_calls (some tb) (rows : Int) (columns : Int) w _ ?_)
  unfold S9
  have htb := ht.box.lt
  refine z_i64 (by omega) ?_
  refine call_mono (nF ((columns : Int) + 1) ht (by omega)) ?_
  rintro (x2 : Int) w3 ⟨hx2, ⟨p2, ht⟩, g3⟩
  refine call_mono (rangeF 2 5 ht (by omega)) ?_
  rintro (x4 : Int) w5 ⟨hx4, ⟨p4, ht⟩, g5⟩
  refine z_i64 (by omega) ?_
  refine call_mono (nF ((rows : Int) + 1) ht (by omega)) ?_
  rintro (x7 : Int) w8 ⟨hx7, ⟨p7, ht⟩, g8⟩
  obtain ⟨n, rfl⟩ : ∃ n : Nat, x2 = (n : Int) := ⟨x2.toNat, by omega⟩
  obtain ⟨K, rfl⟩ : ∃ n : Nat, x7 = (n : Int) := ⟨x7.toNat, by omega⟩
  have g08 := (g3.trans g5).trans g8
  refine loop_gh (G := Nat) (fun k s w' => s.2 = ((k : Int), ()) ∧ k ≤ K ∧ (∃ M hs, OT w' w.heap.size s.1 hs M ∧ M.length + k = K ∧ ∀ r ∈ M, r.length = n) ∧ (∃ p', Tape w' tb l L p') ∧ w.grownBy w' (some tb.block)) (fun k => k) K
    ⟨rfl, Nat.le_refl _, ⟨[], [], ⟨Own.nil _ _ _ _, rfl, fun i x r hx => by simp at hx⟩, by simp, by simp⟩, ⟨p7, ht⟩, g08⟩ ?_
  rintro k ⟨q, s⟩ w11 ⟨rfl, hk, ⟨M, hs, HM, hMl, hMr⟩, ⟨p', ht⟩, hg⟩ again hag _
  dsimp only at HM hag
  refine br_dec (fun e => ?_) (fun e => ?_)
  · dsimp only at e
    have s11 := hg.size
    refine wr_make tyB n rfl rfl (by omega) (by unfold maxLen; omega) fun cd w13 O h13 ecd _ => ?_
    replace O := O w11.heap.size (Nat.le_refl _)
    rw [made_bool] at O
    have hM13 := HM.up h13
    have lM : ∀ c, blk q.1 = some c → c < w11.heap.size := fun c hc => (HM.th.lt c hc).2
    have lMr : ∀ (i : Nat) (x : Hdr) (c : Nat), hs[i]? = some x → blk x.1 = some c → c < w11.heap.size := fun i x c hx hc => by obtain ⟨r, _, q⟩ := HM.row hx; exact (q.lt c hc).2
    have s13 := h13.size
    refine loop_up n (fun i w' => (∃ r : List Bool, r.length = n ∧ Own w' w11.heap.size 4 1 (some cd) n n (Go.Q.bools r)) ∧ OT w' w.heap.size q hs M ∧ (∃ p', Tape w' tb l L p') ∧ w.grownBy w' (some tb.block)) ⟨⟨_, by simp, O⟩, hM13, ⟨p', ht.up h13⟩, hg.trans (grown_of_bel h13 _)⟩ fun i w16 hi ⟨⟨r, hr', O⟩, HM, ⟨p', ht⟩, hg⟩ again2 hag2 _ => ?_
    refine br_dec (fun e1 => ?_) (fun e1 => ?_)
    · dsimp only at e1
      have hin : i < n := by omega
      refine call_mono (nF x4 ht (by omega)) ?_
      rintro (x17 : Int) w18 ⟨_, ⟨p'', ht⟩, g18⟩
      have O18 : Own w18 w11.heap.size 4 1 (some cd) n n (Go.Q.bools r) := Own.xg O g18 (by omega)
      refine set_mk tyB O18 rfl hin rfl fun w20 O20 g20 _ => ?_
      rw [bools_set] at O20
      refine z_i64 (by dsimp only; omega) ?_
      exact hag2 _ hin ⟨⟨r.set i (x17 == 1), by simp [hr'], O20⟩, ((HM.xg g18 htb).keptBy g20 (fun c hc e => by have := blk_eq e; have := lM c hc; omega) (fun j x c hx hc e => by have := blk_eq e; have := lMr j x c hx hc; omega)), ⟨p'', ht.put g20 (fun c hc => by have := blk_eq hc; omega)⟩, xg_put (hg.trans g18) g20 (fun c hc => .inl (by have := blk_eq hc; omega))⟩
    · dsimp only at e1
      have hin : i = n := by omega
      subst hin
      have s16 := hg.size
      refine OT.push HM (x := (some cd, i, i)) (own_base O (by omega)) (by omega) (by omega) fun h' w25 H25 g25 => ?_
      refine z_i64 (by dsimp only; omega) ?_
      have hq : ∀ c, blk q.1 = some c → w.heap.size ≤ c := fun c hc => (HM.th.lt c hc).1
      obtain ⟨k, rfl⟩ : ∃ k', k = k' + 1 := ⟨k - 1, by omega⟩
      refine hag k _ _ ⟨by show ((((k + 1 : Nat) : Int) - 1, ()) : Int × Unit) = _; congr 1; omega, by omega, ⟨_, _, H25, by simp; omega, fun q' hq' => ?_⟩, ⟨p', ht.put g25 (fun c hc => by have := hq c hc; omega)⟩, grown_put hg g25 (fun c hc => .inl (hq c hc))⟩ (by omega)
      rcases List.mem_append.1 hq' with z | z
      · exact hMr q' z
      · simp at z; subst z; exact hr'
  · dsimp only at e
    have : k = 0 := by omega
    subst this
    exact ⟨q, rfl, M, hs, n, HM, by omega, by omega, hMr, ⟨p', ht⟩, hg⟩
end Go.Proofs.Ytaomejbaocehnaa

/- Lists that are compared; the example. -/

namespace Go.Proofs.Ytaomejbaocehnaa
open Go.RowKit Go.Q Go.V

theorem intsF (a b : Hdr) (xs ys : List Nat) (w : World) (H1 : SlN w a xs) (H2 : SlN w b ys) :
    call Try.prog 19 [.slice a.1 a.2.1 a.2.2, .slice b.1 b.2.1 b.2.2] (.one (.one .bool)) w (fun (x : Bool) w' => (x = true ↔ xs = ys) ∧ bel w w') := by
  refine call_of (S19_calls a.1 a.2.1 a.2.2 b.1 b.2.1 b.2.2 w _ ?_)
  unfold S19
  have h1 := H1.nat
  have h2 := H2.nat
  have hle := H1.le
  have no : ∀ {w' : World}, bel w w' → xs ≠ ys → ∃ x : Bool, Value.bool false = (RS.one (.one .bool)).val x ∧ (x = true ↔ xs = ys) ∧ bel w w' := fun hb q => ⟨false, rfl, ⟨(fun e => by cases e), fun e => absurd e q⟩, hb⟩
  refine br_ne (fun e => no (bel.refl _) fun q => e (by rw [← h1, ← h2, q])) (fun e => ?_)
  refine loop_up xs.length (fun i w' => bel w w' ∧ ∀ j, j < i → xs[j]? = ys[j]?) ⟨bel.refl _, fun j hj => by omega⟩ fun i w3 hi ⟨hb, hp⟩ again hag _ => ?_
  refine br_dec (fun e1 => ?_) (fun e1 => ?_)
  · dsimp only at e1
    refine drw_mk fun w4 h4 _ => ?_
    replace hb := hb.trans h4
    refine nat_mk (H1.up hb) rfl (by omega) fun x hx => ?_
    refine nat_mk (H2.up hb) rfl (by omega) fun y hy => ?_
    refine br_ne (fun e2 => no hb fun q => ?_) (fun e2 => ?_)
    · rw [q, hy] at hx; injection hx with hx; omega
    · refine z_i64 (by dsimp only; omega) ?_
      refine hag _ (by omega) ⟨hb, fun j hj => ?_⟩
      rcases Nat.lt_or_ge j i with z | z
      · exact hp j z
      · have : j = i := by omega
        subst this
        rw [hx, hy]; congr 1; omega
  · dsimp only at e1
    refine ⟨true, rfl, ⟨fun _ => List.ext_getElem? fun j => ?_, fun _ => rfl⟩, hb⟩
    rcases Nat.lt_or_ge j xs.length with z | z
    · exact hp j (by omega)
    · rw [List.getElem?_eq_none z, List.getElem?_eq_none (by omega)]
theorem inF (a : Hdr) (xs : List Nat) (v : Int) (w : World) (H1 : SlN w a xs) :
    call Try.prog 15 [.slice a.1 a.2.1 a.2.2, .int .i64 v] (.one (.one .bool)) w (fun (x : Bool) w' => (x = true ↔ ∃ k ∈ xs, (k : Int) = v) ∧ bel w w') := by
  refine call_of (S15_calls a.1 a.2.1 a.2.2 v w _ ?_)
  unfold S15
  have h1 := H1.nat
  have hle := H1.le
  refine loop_up xs.length (fun i w' => bel w w' ∧ ∀ j, j < i → ∀ y, xs[j]? = some y → ¬ (y : Int) = v) ⟨bel.refl _, fun j hj => by omega⟩ fun i w3 hi ⟨hb, hp⟩ again hag _ => ?_
  refine br_dec (fun e1 => ?_) (fun e1 => ?_)
  · dsimp only at e1
    refine nat_mk (H1.up hb) rfl (by omega) fun x hx => ?_
    refine br_eq (fun e2 => ⟨true, rfl, ⟨fun _ => ⟨x, List.mem_of_getElem? hx, e2⟩, fun _ => rfl⟩, hb⟩) (fun e2 => ?_)
    refine z_i64 (by dsimp only; omega) ?_
    exact hag _ (by omega) ⟨hb, pre_step hp hx e2⟩
  · dsimp only at e1
    refine ⟨false, rfl, ⟨(fun e => by cases e), fun ⟨k, hk, e⟩ => ?_⟩, hb⟩
    exact absurd e (pre_all (p := fun y : Nat => ¬ (y : Int) = v) hp (by omega) k hk)
def exM : List (List Bool) := [[true, true, false], [false, true, true], [true, false, true]]
theorem exV : ValidM exM := ⟨by decide, by decide⟩
theorem ex_masks : masks exM = [5, 3, 6] := by decide
theorem ex_least : least (covC (masks exM)) exM.length = [0, 1] := by rw [ex_masks]; decide
theorem ex_greedy : greedy (masks exM) exM.length (exM.length + 1) 0 = [0, 1] := by rw [ex_masks]; decide
theorem ex_apart : (aprt (masks exM) 0 (2 ^ exM.length - 1)).length = 1 := by rw [ex_masks]; decide
theorem ex_needed : needN (masks exM) exM.length = [] := by rw [ex_masks]; decide
theorem ex_cov : covB (masks exM) (bitsOf [0, 1]) = true := by rw [ex_masks]; decide
theorem fill3 (a b c : Bool) : Instr.fill (fun i => some (i * 1, 1)) ((Array.range (3 * 1)).map ((Value.bool false).cells[· % (Value.bool false).cells.size]!)) (#[(0, .bool a), (1, .bool b), (2, .bool c)] : Array (Nat × Value)).toList = some #[.bool a, .bool b, .bool c] := by kernel_rfl
theorem fill3h (a b c : Hdr) : Instr.fill (fun i => some (i * 1, 1)) ((Array.range (3 * 1)).map ((Value.slice none 0 0).cells[· % (Value.slice none 0 0).cells.size]!)) (#[(0, .slice a.1 a.2.1 a.2.2), (1, .slice b.1 b.2.1 b.2.2), (2, .slice c.1 c.2.1 c.2.2)] : Array (Nat × Value)).toList = some #[.slice a.1 a.2.1 a.2.2, .slice b.1 b.2.1 b.2.2, .slice c.1 c.2.1 c.2.2] := by kernel_rfl
theorem fill2 : Instr.fill (fun i => some (i * 1, 1)) ((Array.range (2 * 1)).map ((Value.int .i64 0).cells[· % (Value.int .i64 0).cells.size]!)) (#[(0, .int .i64 0), (1, .int .i64 1)] : Array (Nat × Value)).toList = some #[.int .i64 0, .int .i64 1] := by kernel_rfl
set_option maxHeartbeats 1600000 in
theorem awakeF (w : World) : call Try.prog 16 [] (.one (.one .bool)) w (fun (x : Bool) w' => x = true ∧ bel w w') := by
  refine call_of (S16_calls w _ ?_)
  unfold S16
  refine wr_lit tyB #[.bool true, .bool true, .bool false] (fill3 true true false) (by omega) (by omega) rfl (by unfold maxLen; omega) fun a1 w2 O1 h2 _ _ => ?_
  refine wr_lit tyB #[.bool false, .bool true, .bool true] (fill3 false true true) (by omega) (by omega) rfl (by unfold maxLen; omega) fun a3 w4 O3 h4 _ _ => ?_
  refine wr_lit tyB #[.bool true, .bool false, .bool true] (fill3 true false true) (by omega) (by omega) rfl (by unfold maxLen; omega) fun a5 w6 O5 h6 _ _ => ?_
  refine wr_lit tyM _ (fill3h (some a1, 3, 3) (some a3, 3, 3) (some a5, 3, 3)) (by omega) (by omega) rfl (by unfold maxLen; omega) fun a7 w8 O7 h8 _ _ => ?_
  have H : TabB w8 (some a7, 3, 3) exM := by
    refine ⟨⟨[(some a1, 3, 3), (some a3, 3, 3), (some a5, 3, 3)], (O7 w6.heap.size (Nat.le_refl _)).sl, rfl, fun i x r hx hr => ?_⟩⟩
    match i, hx, hr with
    | 0, hx, hr => cases hx; cases hr; exact (((O1 w.heap.size (Nat.le_refl _)).sl.up h4).up h6).up h8
    | 1, hx, hr => cases hx; cases hr; exact ((O3 w2.heap.size (Nat.le_refl _)).sl.up h6).up h8
    | 2, hx, hr => cases hx; cases hr; exact (O5 w4.heap.size (Nat.le_refl _)).sl.up h8
    | i + 3, hx, hr => simp at hx
  have hb := ((h2.trans h4).trans h6).trans h8
  have get : ∀ {f : List Nat} {w0 : World} {x : HI} {w : World}, ListR exM f w0 x w → x.2.1 = 0 ∧ OwnN w w0.heap.size x.1 f := fun h => by
    rcases h with ⟨_, q1, q2⟩ | ⟨q, _⟩
    · exact ⟨q1, q2⟩
    · exact absurd exV q
  refine call_mono (LeastF (some a7, 3, 3) exM w8 H) ?_
  rintro (x9 : HI) w10 ⟨R9, h10⟩
  obtain ⟨e9, P9⟩ := get R9
  replace H := H.up h10; replace hb := hb.trans h10
  refine call_mono (GreedyF (some a7, 3, 3) exM w10 H) ?_
  rintro (x11 : HI) w12 ⟨R11, h12⟩
  obtain ⟨e11, P11⟩ := get R11
  replace H := H.up h12; replace hb := hb.trans h12
  refine call_mono (ApartF (some a7, 3, 3) exM w12 H) ?_
  rintro (x13 : HI) w14 ⟨R13, h14⟩
  obtain ⟨e13, P13⟩ := get R13
  replace H := H.up h14; replace hb := hb.trans h14
  refine call_mono (NeededF (some a7, 3, 3) exM w14 H) ?_
  rintro (x15 : HI) w16 ⟨R15, h16⟩
  obtain ⟨e15, P15⟩ := get R15
  replace H := H.up h16; replace hb := hb.trans h16
  rw [ex_least] at P9
  rw [ex_greedy] at P11
  rw [ex_needed] at P15
  refine br_eq (fun _ => ?_) (fun q => absurd e9 q)
  refine br_eq (fun _ => ?_) (fun q => absurd e11 q)
  refine br_eq (fun _ => ?_) (fun q => absurd e13 q)
  refine br_eq (fun _ => ?_) (fun q => absurd e15 q)
  have S9 : SlN w16 x9.1 [0, 1] := (((Own.sl P9).up h12).up h14).up h16
  have S11 : SlN w16 x11.1 [0, 1] := ((Own.sl P11).up h14).up h16
  refine wr_lit tyI _ fill2 (by omega) (by omega) rfl (by unfold maxLen; omega) fun a17 w18 O17 h18 _ _ => ?_
  refine call_mono (intsF x9.1 (some a17, 2, 2) [0, 1] [0, 1] w18 (S9.up h18) (O17 w16.heap.size (Nat.le_refl _)).sl) ?_
  rintro (x19 : Bool) w20 ⟨hx, h20⟩
  refine br_t (hx.2 rfl) ?_
  refine wr_lit tyI _ fill2 (by omega) (by omega) rfl (by unfold maxLen; omega) fun a21 w22 O21 h22 _ _ => ?_
  have hb22 := (h18.trans h20).trans h22
  refine call_mono (intsF x11.1 (some a21, 2, 2) [0, 1] [0, 1] w22 (S11.up hb22) (O21 w20.heap.size (Nat.le_refl _)).sl) ?_
  rintro (x23 : Bool) w24 ⟨hx, h24⟩
  refine br_t (hx.2 rfl) ?_
  have l13 := P13.sl.nat
  rw [ex_apart] at l13
  have l15 := P15.sl.nat
  refine br_eq (fun _ => ?_) (fun q => absurd (by omega) q)
  refine br_eq (fun _ => ?_) (fun q => absurd (by simp at l15; omega) q)
  have hb24 := hb22.trans h24
  have S9' : SlI w24 x9.1 [0, 1] := S9.up hb24
  refine call_mono (CoversF (some a7, 3, 3) x9.1 exM [0, 1] w24 (H.up hb24) S9') ?_
  rintro (x25 : Bool) w26 ⟨hx, h26⟩
  exact ⟨x25, rfl, hx.2 ⟨exV, [0, 1], rfl, ⟨by omega, by decide, by omega, by decide, trivial⟩, ex_cov⟩, (hb.trans hb24).trans h26⟩
end Go.Proofs.Ytaomejbaocehnaa

/- The walk of SuiteLeast. -/

namespace Go.Proofs.Ytaomejbaocehnaa
open Go.RowKit Go.Q Go.V

/-- how many of the first rows a list has -/
theorem in_len (n : Nat) : ∀ a : List Nat, ((List.range n).filter fun i => decide (i ∈ a)).length ≤ a.length
  | [] => by simp
  | x :: a => by
    have ih := in_len n a
    have h1 : ∀ l : List Nat, l.Nodup → (l.filter fun i => decide (i ∈ x :: a)).length ≤ (l.filter fun i => decide (i ∈ a)).length + 1 := by
      intro l
      induction l with
      | nil => intro _; simp
      | cons b l ih =>
        intro hn
        obtain ⟨hb, hl⟩ := List.nodup_cons.1 hn
        have i1 := ih hl
        by_cases hbx : b = x
        · subst hbx
          have : l.filter (fun i => decide (i ∈ b :: a)) = l.filter fun i => decide (i ∈ a) := by
            refine List.filter_congr fun i hi => ?_
            have : i ≠ b := fun e => hb (e ▸ hi)
            simp [this]
          rw [List.filter_cons, List.filter_cons, this]
          split <;> split <;> (try simp only [List.length_cons]) <;> omega
        · have e : decide (b ∈ x :: a) = decide (b ∈ a) := by simp [hbx]
          rw [List.filter_cons, List.filter_cons, e]
          split <;> (try simp only [List.length_cons]) <;> omega
    have := h1 (List.range n) List.nodup_range
    simp only [List.length_cons]
    omega
theorem asc_filter (n : Nat) (p : Nat → Bool) : Asc n 0 ((List.range n).filter p) := by
  have key : ∀ (k a : Nat), a + k ≤ n → Asc n a ((List.range' a k).filter p) := by
    intro k
    induction k with
    | zero => intro a _; trivial
    | succ k ih =>
      intro a ha
      rw [List.range'_succ, List.filter_cons]
      have := ih (a + 1) (by omega)
      split
      · exact ⟨Nat.le_refl _, by omega, this⟩
      · exact this.mono (by omega)
  have := key n 0 (by omega)
  rwa [← List.range_eq_range'] at this
section
variable {M : List (List Bool)}
/-- nothing that covers is shorter -/
theorem least_min {ys : List Nat} (ha : Asc M.length 0 ys) (hc : covC (masks M) ys = true) : (least (covC (masks M)) M.length).length ≤ ys.length := by
  obtain ⟨k, hk, hs, hn⟩ := least_spec (cov_all M)
  obtain ⟨zs, z1, z2, z3, z4⟩ := choose_some _ _ _ _ hs
  rw [List.nil_append] at z1
  rw [z1, z2]
  rcases Nat.lt_or_ge ys.length k with q | q
  · have := choose_none _ _ _ (hn ys.length q) ys rfl ha
    rw [List.nil_append, hc] at this; cases this
  · exact q
theorem least_asc : Asc M.length 0 (least (covC (masks M)) M.length) ∧ covC (masks M) (least (covC (masks M)) M.length) = true := by
  obtain ⟨k, hk, hs, hn⟩ := least_spec (cov_all M)
  obtain ⟨zs, z1, z2, z3, z4⟩ := choose_some _ _ _ _ hs
  rw [List.nil_append] at z1
  rw [z1] at z4 ⊢
  exact ⟨z3, z4⟩
theorem bits_eq (xs : List Nat) {n : Nat} (h : ∀ x ∈ xs, x < n) : ∀ i, (bitsOf xs).testBit i = true → (bitsOf ((List.range n).filter fun i => decide (i ∈ xs))).testBit i = true := by
  intro i hi
  rw [bits_bit] at hi ⊢
  have hi : i ∈ xs := by simpa using hi
  simp [hi, h i hi]
theorem greedy_lt {L : List Nat} {n : Nat} (hn : 0 < n ∨ L = []) : ∀ (f s : Nat), ∀ x ∈ greedy L n f s, x < n
  | 0, _, x, hx => by cases hx
  | f + 1, s, x, hx => by
    simp only [greedy] at hx
    split at hx
    · cases hx
    · rename_i hc
      rcases List.mem_cons.1 hx with rfl | hx
      · rcases hn with q | q
        · exact bst_lt q
        · subst q; exact absurd rfl hc
      · exact greedy_lt hn f _ x hx
theorem greedy_cov {L : List Nat} {n : Nat} (hL : ∀ c ∈ L, c < 2 ^ n) : ∀ (f s : Nat), free s n < f → covB L (s ||| bitsOf (greedy L n f s)) = true
  | 0, _, h => by omega
  | f + 1, s, h => by
    simp only [greedy]
    split
    · rename_i hc
      exact covB_mono (fun i hi => by rw [Nat.testBit_or, hi]; rfl) hc
    · rename_i hc
      have hc' : covB L s = false := by simpa using hc
      obtain ⟨b1, b2, _⟩ := best_new hL hc'
      have hf := free_step b1 b2
      have ih := greedy_cov hL f (s ||| 2 ^ (bst L s n).1) (by omega)
      refine covB_mono (fun i hi => ?_) ih
      rw [Nat.testBit_or, Nat.testBit_or, Nat.testBit_two_pow, bits_bit] at hi
      rw [Nat.testBit_or, bits_bit]
      simp at hi ⊢
      rcases hi with (q | q) | q
      · exact .inl q
      · exact .inr (.inl q.symm)
      · exact .inr (.inr q)
theorem least_greedy : (least (covC (masks M)) M.length).length ≤ (greedy (masks M) M.length (M.length + 1) 0).length := by
  have hL := masks_lt (M := M)
  have hg := greedy_cov hL (M.length + 1) 0 (by have := free_le 0 M.length; omega)
  rw [Nat.zero_or] at hg
  have hn : 0 < M.length ∨ masks M = [] := by
    rcases Nat.eq_zero_or_pos M.length with q | q
    · have : M = [] := List.eq_nil_of_length_eq_zero q
      subst this; exact .inr rfl
    · exact .inl q
  have hlt := greedy_lt hn (M.length + 1) 0
  generalize greedy (masks M) M.length (M.length + 1) 0 = g at *
  have h1 := least_min (M := M) (asc_filter M.length fun i => decide (i ∈ g)) (covB_mono (bits_eq g hlt) hg)
  have h2 := in_len M.length g
  omega
theorem apart_least (V : ValidM M) : (aprt (masks M) 0 (2 ^ M.length - 1)).length ≤ (least (covC (masks M)) M.length).length := by
  have hL := masks_lt (M := M)
  have p0 := Nat.two_pow_pos M.length
  obtain ⟨_, hc⟩ := least_asc (M := M)
  rw [aprt_len]
  generalize least (covC (masks M)) M.length = a at *
  have h1 := fam_cover V.n hL (show 2 ^ M.length - 1 < 2 ^ M.length by omega) (sel_fam (masks M) (2 ^ M.length - 1)) (sel_len _ _) hc
  have h2 : pc ((2 ^ M.length - 1) &&& bitsOf a) M.length ≤ ((List.range M.length).filter fun i => decide (i ∈ a)).length := by
    unfold pc
    have key : ∀ l : List Nat, (l.filter fun i => ((2 ^ M.length - 1) &&& bitsOf a).testBit i).length ≤ (l.filter fun i => decide (i ∈ a)).length := by
      intro l
      induction l with
      | nil => simp
      | cons b l ih =>
        rw [List.filter_cons, List.filter_cons]
        have : ((2 ^ M.length - 1) &&& bitsOf a).testBit b = true → decide (b ∈ a) = true := fun h => by
          rw [Nat.testBit_and, bits_bit] at h
          simp at h ⊢; exact h.2
        split
        · rename_i h; rw [if_pos (this h)]; simp only [List.length_cons]; omega
        · split <;> (try simp only [List.length_cons]) <;> omega
    exact key _
  have h3 := in_len M.length a
  omega
theorem need_least {x : Nat} (h : x ∈ needN (masks M) M.length) : x ∈ least (covC (masks M)) M.length := by
  obtain ⟨_, hc⟩ := least_asc (M := M)
  unfold needN at h
  obtain ⟨_, h⟩ := List.mem_filter.1 h
  have hm : 2 ^ x ∈ masks M := by simpa using h
  have h0 : 2 ^ x ≠ 0 := by have := Nat.two_pow_pos x; omega
  obtain ⟨i, h1, h2⟩ := and_ne.1 (covB_iff.1 hc _ hm h0)
  rw [Nat.testBit_two_pow] at h1
  rw [bits_bit] at h2
  have : x = i := by simpa using h1
  subst this
  simpa using h2
end
theorem MatR.valid {rows columns : Nat} {M : List (List Bool)} {n : Nat} (h1 : M.length ≤ rows) (h2 : n ≤ columns) (h3 : ∀ r ∈ M, r.length = n) (hr : rows ≤ 14) (hc : columns ≤ 400) : ValidM M := by
  refine ⟨by omega, fun r hr' => ⟨?_, by rw [h3 r hr']; omega⟩⟩
  cases M with
  | nil => cases hr'
  | cons q M => rw [h3 r hr', width_at (r := q) rfl, h3 q (by simp)]
theorem ListR.get {M : List (List Bool)} {f : List Nat} {w0 : World} {x : HI} {w : World} (h : ListR M f w0 x w) (V : ValidM M) : x.2.1 = 0 ∧ OwnN w w0.heap.size x.1 f := by
  rcases h with ⟨_, q1, q2⟩ | ⟨q, _⟩
  · exact ⟨q1, q2⟩
  · exact absurd V q
theorem shr_bit (s k : Nat) : s / 2 ^ k % 2 = if s.testBit k then 1 else 0 := by
  have h := Nat.testBit_eq_decide_div_mod_eq (x := s) (i := k)
  have : s / 2 ^ k % 2 < 2 := Nat.mod_lt _ (by omega)
  rw [h]
  by_cases e : s / 2 ^ k % 2 = 1
  · simp [e]
  · simp [e]; omega
set_option maxHeartbeats 3200000 in
theorem suLeast (l : Hdr) (L : List Int) (w : World) (HL : SlI w l L) (hI : ∀ x ∈ L, I64 x) :
    Calls Try.prog 3 #[.slice l.1 l.2.1 l.2.2] w (fun e w' => e = .returned (.bool true) ∧ Below w.heap.size w w') := by
  refine Calls.mono (S3_calls l.1 l.2.1 l.2.2 w (fun v w' => v = .bool true ∧ bel w w') ?_) (by rintro e w' ⟨v, rfl, rfl, hb⟩; exact ⟨rfl, hb⟩)
  unfold S3
  refine call_mono (newF l L w HL hI) ?_
  rintro _ w2 ⟨tb, l', L', rfl, etb, ht, h2⟩
  refine call_mono (matrixF 7 20 ht (by omega) (by omega)) ?_
  rintro (x3 : Hdr) w4 ⟨M, hs, n, HM, hM1, hM2, hM3, _, g4⟩
  have V := MatR.valid hM1 hM2 hM3 (by omega) (by omega)
  have h : bel w w4 := h2.grownAt g4 (by omega)
  replace HM := HM.tab
  have hl := HM.len
  refine call_mono (LeastF x3 M w4 HM) ?_
  rintro (x5 : HI) w6 ⟨R5, h'⟩
  obtain ⟨e5, P5⟩ := R5.get V
  replace HM := HM.up h'; replace h := h.trans h'
  refine call_mono (GreedyF x3 M w6 HM) ?_
  rintro (x7 : HI) w8 ⟨R7, h'⟩
  obtain ⟨e7, P7⟩ := R7.get V
  have S5 := (Own.sl P5).up h'
  replace HM := HM.up h'; replace h := h.trans h'
  refine call_mono (ApartF x3 M w8 HM) ?_
  rintro (x9 : HI) w10 ⟨R9, h'⟩
  obtain ⟨e9, P9⟩ := R9.get V
  replace S5 := S5.up h'
  have S7 := (Own.sl P7).up h'
  replace HM := HM.up h'; replace h := h.trans h'
  refine call_mono (NeededF x3 M w10 HM) ?_
  rintro (x11 : HI) w12 ⟨R11, h'⟩
  obtain ⟨e11, P11⟩ := R11.get V
  replace S5 := S5.up h'
  replace S7 := S7.up h'
  have S9 := (Own.sl P9).up h'
  have S11 := Own.sl P11
  replace HM := HM.up h'; replace h := h.trans h'
  refine br_ne (fun q => absurd e5 q) (fun _ => ?_)
  refine br_ne (fun q => absurd e7 q) (fun _ => ?_)
  refine br_ne (fun q => absurd e9 q) (fun _ => ?_)
  refine br_ne (fun q => absurd e11 q) (fun _ => ?_)
  obtain ⟨a1, a2⟩ := least_asc (M := M)
  have SI5 : SlI w12 x5.1 ((least (covC (masks M)) M.length).map fun k : Nat => (k : Int)) := by
    show Sl _ _ _ _ _ (ints .i64 _)
    rw [← nats_ints]; exact S5
  refine call_mono (CoversF x3 x5.1 M _ w12 HM SI5) ?_
  rintro (x13 : Bool) w14 ⟨hx, h'⟩
  replace S5 := S5.up h'; replace S11 := S11.up h'
  have l5 := S5.nat
  have l7 := S7.nat
  have l9 := S9.nat
  have l11 := S11.nat
  replace HM := HM.up h'; replace h := h.trans h'
  refine br_not (fun q => ?_) (fun _ => ?_)
  · rw [hx.2 ⟨V, _, rfl, a1, a2⟩] at q; cases q
  have c1 := apart_least V
  have c2 := least_greedy (M := M)
  have c3 := @least_min M
  have c4 := @need_least M
  have v1 := V.n
  generalize hA : least (covC (masks M)) M.length = A at *
  refine br_dec (fun q => absurd q (by omega)) (fun _ => ?_)
  refine br_dec (fun q => absurd q (by omega)) (fun _ => ?_)
  have hnl := needN_len (masks M) M.length
  generalize hN : needN (masks M) M.length = N at *
  refine loop_up N.length (fun i w' => bel w14 w') (bel.refl _) fun i w17 hi hb again hag _ => ?_
  refine br_dec (fun e => ?_) (fun e => ?_)
  · dsimp only at e
    refine nat_mk (S11.up hb) rfl (by omega) fun x hx => ?_
    refine call_mono (inF x5.1 A (x : Int) w17 (S5.up hb)) ?_
    rintro (x20 : Bool) w21 ⟨hx20, h21⟩
    refine br_not (fun q => ?_) (fun _ => ?_)
    · rw [hx20.2 ⟨x, c4 (List.mem_of_getElem? hx), rfl⟩] at q; cases q
    · refine z_i64 (by dsimp only; omega) ?_
      exact hag _ (by omega) (hb.trans h21)
  clear hag again e
  have p14 := pow14 v1
  replace HM := HM.up hb; replace h := h.trans hb
  refine loop_up (2 ^ M.length) (fun s w' => bel w17 w') (bel.refl _) fun s w25 hs hb again hag _ => ?_
  refine z_u64 (by omega) ?_
  refine shl1 M.length (by omega) (by omega) ?_
  refine br_dec (fun e => ?_) (fun e => ?_)
  · dsimp only at e
    have hsn : s < 2 ^ M.length := by omega
    have s1725 := hb.size
    refine join_mk (fun _ w' => bel w17 w') (fun K hK => ?_) (fun _ w30 hJ _ => ?_)
    · refine loop_upA M.length (fun k q w' => bel w17 w' ∧ bel w25 w' ∧ OwnN w' w25.heap.size q ((List.range k).filter fun i => s.testBit i)) ⟨hb, bel.refl _, Own.nil _ _ _ _⟩ fun k q w34 hk ⟨hb, hb25, O⟩ again2 hag2 _ => ?_
      have lq := O.sl.nat
      have hfl := List.length_filter_le (fun i => s.testBit i) (List.range k)
      rw [List.length_range] at hfl
      refine br_dec (fun e1 => ?_) (fun e1 => ?_)
      · dsimp only at e1
        have hkn : k < M.length := by omega
        refine join_mk (fun t w' => bel w17 w' ∧ bel w25 w' ∧ OwnN w' w25.heap.size t.1 ((List.range (k + 1)).filter fun i => s.testBit i)) (fun K2 hK2 => ?_) (fun t w37 hJ _ => ?_)
        · refine z_u64 (by dsimp only; omega) ?_
          refine rdp_shr k rfl (by show k ≤ 64; omega) ?_
          have ed : (s : Int) / 2 ^ k = ((s / 2 ^ k : Nat) : Int) := by
            rw [Int.natCast_ediv]; congr 1
          dsimp only
          rw [ed]
          have hdl : s / 2 ^ k ≤ s := Nat.div_le_self _ _
          refine z_and (a := s / 2 ^ k) (b := 1) rfl rfl (by omega) (by omega) ?_
          rw [Nat.and_one_is_mod, shr_bit]
          have hst : (List.range (k + 1)).filter (fun i => s.testBit i) = if s.testBit k then (List.range k).filter (fun i => s.testBit i) ++ [k] else (List.range k).filter fun i => s.testBit i := by
            rw [List.range_succ, List.filter_append]
            cases hsk : s.testBit k <;> simp [hsk]
          refine br_eq (fun e2 => ?_) (fun e2 => ?_)
          · have hsk : s.testBit k = true := by
              cases q : s.testBit k with
              | true => rfl
              | false => rw [q] at e2; simp at e2
            rw [hsk, if_pos rfl] at hst
            have := hb25.size
            refine wr_app1 tyI O (by omega) rfl (by omega) (by omega) rfl rfl (by omega) (by unfold maxLen; omega) fun a' c' w45 O45 g45 _ _ => ?_
            have hlt := O.lt
            refine hK2 _ _ ⟨hb.grown g45 fun b hb' => ?_, hb25.grown g45 fun b hb' => (hlt b hb').1, ?_⟩
            · have := (hlt b hb').1; omega
            · show Own w45 _ _ 1 a' (q.2.1 + 1) c' (nats .i64 _)
              rw [hst, nats_snoc]; exact O45
          · have hsk : s.testBit k = false := by
              cases q : s.testBit k with
              | false => rfl
              | true => rw [q] at e2; simp at e2
            rw [hsk] at hst
            refine hK2 _ _ ⟨hb, hb25, ?_⟩
            show OwnN w34 _ q _
            rw [hst]; exact O
        · obtain ⟨tq, _⟩ := t
          refine z_i64 (by dsimp only; omega) ?_
          exact hag2 _ _ hkn hJ
      · dsimp only at e1
        have hkn : k = M.length := by omega
        subst hkn
        refine br_dec (fun e2 => ?_) (fun _ => hK () _ hb)
        dsimp only at e2
        have SI : SlI w34 q (((List.range M.length).filter fun i => s.testBit i).map fun k : Nat => (k : Int)) := by
          show Sl _ _ _ _ _ (ints .i64 _)
          rw [← nats_ints]; exact O.sl
        refine call_mono (CoversF x3 q M _ w34 (HM.up hb) SI) ?_
        rintro (x46 : Bool) w47 ⟨hx, h47⟩
        refine br_mk (fun q => ?_) (fun _ => hK () _ (hb.trans h47))
        obtain ⟨_, ys, y1, y2, y3⟩ := hx.1 q
        have : (List.range M.length).filter (fun i => s.testBit i) = ys := map_inj y1
        have c5 := c3 y2 y3
        rw [← this] at c5
        omega
    · refine z_i64 (by dsimp only; omega) ?_
      exact hag _ hsn hJ
  · refine call_mono (awakeF w25) ?_
    rintro (x48 : Bool) w49 ⟨hx, h49⟩
    exact ⟨by rw [hx], (h.trans hb).trans h49⟩
end Go.Proofs.Ytaomejbaocehnaa

/- The walk of SuiteApart. -/

namespace Go.Proofs.Ytaomejbaocehnaa
open Go.RowKit Go.Q Go.V

def FamP (l : List Nat) (R : Nat) (b : List Bool) : Prop :=
  (∀ (i c : Nat), b[i]? = some true → l[i]? = some c → c ≠ 0 ∧ ∀ t, c.testBit t = true → R.testBit t = true) ∧ ∀ (i j c d : Nat), i ≠ j → b[i]? = some true → b[j]? = some true → l[i]? = some c → l[j]? = some d → ∀ t, c.testBit t = true → d.testBit t = false
theorem fam_iff {n : Nat} (hn : n ≤ 14) : ∀ {l : List Nat} {R : Nat} {b : List Bool}, (∀ c ∈ l, c < 2 ^ n) → R < 2 ^ n → b.length = l.length → (Fam l R b ↔ FamP l R b)
  | [], R, b, _, _, hb => by
    have : b = [] := List.eq_nil_of_length_eq_zero hb
    subst this
    exact ⟨fun _ => ⟨fun i c h => by simp at h, fun i j c d _ h => by simp at h⟩, fun _ => trivial⟩
  | c :: l, R, [], _, _, hb => by simp at hb
  | c :: l, R, false :: b, hl, hR, hb => by
    have ih := fam_iff hn (l := l) (R := R) (b := b) (fun d hd => hl d (by simp [hd])) hR (by simpa using hb)
    show Fam l R b ↔ _
    rw [ih]
    constructor
    · rintro ⟨h1, h2⟩
      refine ⟨fun i d hi hd => ?_, fun i j d e hij hi hj hd he => ?_⟩
      · cases i with
        | zero => simp at hi
        | succ i => exact h1 i d (by simpa using hi) (by simpa using hd)
      · cases i with
        | zero => simp at hi
        | succ i => cases j with
          | zero => simp at hj
          | succ j => exact h2 i j d e (by omega) (by simpa using hi) (by simpa using hj) (by simpa using hd) (by simpa using he)
    · rintro ⟨h1, h2⟩
      exact ⟨fun i d hi hd => h1 (i + 1) d (by simpa using hi) (by simpa using hd), fun i j d e hij hi hj hd he => h2 (i + 1) (j + 1) d e (by omega) (by simpa using hi) (by simpa using hj) (by simpa using hd) (by simpa using he)⟩
  | c :: l, R, true :: b, hl, hR, hb => by
    have hc := hl c (by simp)
    have ih := fam_iff hn (l := l) (R := dif R c) (b := b) (fun d hd => hl d (by simp [hd])) (dif_lt hR) (by simpa using hb)
    show (c ≠ 0 ∧ dif c R = 0 ∧ Fam l (dif R c) b) ↔ _
    rw [ih, dif_eq0 (lt64 hc hn) (lt64 hR hn)]
    have hbit := fun t => dif_bit (a := R) (lt64 hc hn) t
    constructor
    · rintro ⟨h0, hs, h1, h2⟩
      refine ⟨fun i d hi hd => ?_, fun i j d e hij hi hj hd he => ?_⟩
      · cases i with
        | zero => simp at hd; subst hd; exact ⟨h0, hs⟩
        | succ i =>
          obtain ⟨q1, q2⟩ := h1 i d (by simpa using hi) (by simpa using hd)
          refine ⟨q1, fun t ht => ?_⟩
          have := q2 t ht
          rw [hbit] at this
          simp at this; exact this.1
      · cases i with
        | zero =>
          simp at hd; subst hd
          cases j with
          | zero => exact absurd rfl hij
          | succ j =>
            obtain ⟨_, q2⟩ := h1 j e (by simpa using hj) (by simpa using he)
            intro t ht
            cases het : e.testBit t with
            | false => rfl
            | true =>
              have := q2 t het
              rw [hbit, ht] at this
              simp at this
        | succ i => cases j with
          | zero =>
            simp at he; subst he
            obtain ⟨_, q2⟩ := h1 i d (by simpa using hi) (by simpa using hd)
            intro t ht
            have := q2 t ht
            rw [hbit] at this
            simp at this; exact this.2.2
          | succ j => exact h2 i j d e (by omega) (by simpa using hi) (by simpa using hj) (by simpa using hd) (by simpa using he)
    · rintro ⟨h1, h2⟩
      obtain ⟨q1, q2⟩ := h1 0 c (by simp) (by simp)
      refine ⟨q1, q2, fun i d hi hd => ?_, fun i j d e hij hi hj hd he => h2 (i + 1) (j + 1) d e (by omega) (by simpa using hi) (by simpa using hj) (by simpa using hd) (by simpa using he)⟩
      obtain ⟨r1, r2⟩ := h1 (i + 1) d (by simpa using hi) (by simpa using hd)
      refine ⟨r1, fun t ht => ?_⟩
      have r3 := h2 (i + 1) 0 d c (by omega) (by simpa using hi) (by simp) (by simpa using hd) (by simp) t ht
      have h64 : t < 64 := by
        rcases Nat.lt_or_ge t 64 with q | q
        · exact q
        · have := r2 t ht
          rw [bit_out (lt64 hR hn) q] at this; cases this
      rw [hbit, r2 t ht, r3]; simp [h64]
theorem nT_set : ∀ {b : List Bool} {k : Nat}, b[k]? = some false → nT (b.set k true) = nT b + 1
  | [], k, h => by simp at h
  | x :: b, 0, h => by
    have : x = false := by simpa using h
    subst this; simp [nT]
  | x :: b, k + 1, h => by
    have ih := nT_set (b := b) (k := k) (by simpa using h)
    rw [List.set_cons_succ]
    unfold nT at ih ⊢
    rw [List.filter_cons, List.filter_cons]
    split <;> (try simp only [List.length_cons]) <;> omega
/-- the law of Apart -/
theorem apart_law {n : Nat} (hn : n ≤ 14) {L : List Nat} (hL : ∀ c ∈ L, c < 2 ^ n) {k c : Nat} (hk : L[k]? = some c) :
    k ∈ aprt L 0 (2 ^ n - 1) ↔ c ≠ 0 ∧ ∀ x ∈ aprt L 0 (2 ^ n - 1), x ≠ k → ∀ d, L[x]? = some d → ∀ t, c.testBit t = true → d.testBit t = false := by
  have p0 := Nat.two_pow_pos n
  have hR : 2 ^ n - 1 < 2 ^ n := by omega
  have hm : ∀ x, x ∈ aprt L 0 (2 ^ n - 1) ↔ (sel L (2 ^ n - 1))[x]? = some true := fun x => by
    rw [aprt_sel]; simp
  have hf := (fam_iff hn hL hR (sel_len L _)).1 (sel_fam L (2 ^ n - 1))
  have hmax := sel_max hn hL hR
  generalize hb : sel L (2 ^ n - 1) = b at *
  have hbl : b.length = L.length := by rw [← hb]; exact sel_len _ _
  rw [hm]
  constructor
  · intro h
    exact ⟨(hf.1 k c h hk).1, fun x hx hne d hd => hf.2 k x c d (fun e => hne e.symm) h ((hm x).1 hx) hk hd⟩
  · rintro ⟨h0, hdis⟩
    have hkl : k < L.length := (List.getElem?_eq_some_iff.1 hk).1
    cases hbk : b[k]? with
    | none => rw [List.getElem?_eq_none_iff] at hbk; omega
    | some v =>
      cases v with
      | true => rfl
      | false =>
        exfalso
        have hset : ∀ x, (b.set k true)[x]? = some true → x = k ∨ b[x]? = some true := fun x hx => by
          rw [List.getElem?_set] at hx
          split at hx
          · rename_i e; exact .inl e.symm
          · exact .inr hx
        have hcR : ∀ t, c.testBit t = true → (2 ^ n - 1).testBit t = true := fun t ht => by
          rw [Nat.testBit_two_pow_sub_one]
          rcases Nat.lt_or_ge t n with q | q
          · simp [q]
          · rw [bit_out (hL c (List.mem_of_getElem? hk)) q] at ht; cases ht
        have hF : FamP L (2 ^ n - 1) (b.set k true) := by
          refine ⟨fun i d hi hd => ?_, fun i j d e hij hi hj hd he => ?_⟩
          · rcases hset i hi with rfl | q
            · rw [hk] at hd; injection hd with hd; subst hd; exact ⟨h0, hcR⟩
            · exact hf.1 i d q hd
          · rcases hset i hi with rfl | q
            · rcases hset j hj with rfl | q'
              · exact absurd rfl hij
              · rw [hk] at hd; injection hd with hd; subst hd
                exact hdis j ((hm j).2 q') (fun z => hij z.symm) e he
            · rcases hset j hj with rfl | q'
              · rw [hk] at he; injection he with he; subst he
                intro t ht
                cases hct : c.testBit t with
                | false => rfl
                | true =>
                  have := hdis i ((hm i).2 q) hij d hd t hct
                  rw [ht] at this; cases this
              · exact hf.2 i j d e hij q q' hd he
        have h1 := fam_le hn hL hR (by rw [List.length_set]; exact hbl) ((fam_iff hn hL hR (by rw [List.length_set]; exact hbl)).2 hF)
        rw [nT_set hbk] at h1
        omega
def smB (M : List (List Bool)) (k : Nat) : Nat → Bool
  | 0 => false
  | i + 1 => smB M k i || bm M i k
def hit (M : List (List Bool)) (k i x : Nat) : Bool := bm M i k && (decide (x ≠ k) && bm M i x)
def frB (M : List (List Bool)) (A : List Nat) (k : Nat) : Nat → Bool
  | 0 => true
  | i + 1 => frB M A k i && A.all fun x => !hit M k i x
theorem smB_iff {M : List (List Bool)} {k n : Nat} : smB M k n = true ↔ ∃ i, i < n ∧ bm M i k = true := by
  induction n with
  | zero => simp [smB]
  | succ n ih =>
    simp only [smB, Bool.or_eq_true]
    rw [ih]
    constructor
    · rintro (⟨i, h1, h2⟩ | h)
      · exact ⟨i, by omega, h2⟩
      · exact ⟨n, by omega, h⟩
    · rintro ⟨i, h1, h2⟩
      rcases Nat.lt_or_ge i n with q | q
      · exact .inl ⟨i, q, h2⟩
      · have : i = n := by omega
        subst this; exact .inr h2
theorem frB_iff {M : List (List Bool)} {A : List Nat} {k n : Nat} : frB M A k n = true ↔ ∀ i, i < n → ∀ x ∈ A, x ≠ k → bm M i k = true → bm M i x = false := by
  induction n with
  | zero => simp [frB]
  | succ n ih =>
    simp only [frB, Bool.and_eq_true]
    rw [ih, List.all_eq_true]
    constructor
    · rintro ⟨h1, h2⟩ i hi x hx hne hb
      rcases Nat.lt_or_ge i n with q | q
      · exact h1 i q x hx hne hb
      · have : i = n := by omega
        subst this
        have := h2 x hx
        unfold hit at this
        simp [hb, hne] at this
        exact this
    · intro h
      refine ⟨fun i hi => h i (by omega), fun x hx => ?_⟩
      unfold hit
      by_cases hne : x = k
      · simp [hne]
      · cases hb : bm M n k with
        | false => simp
        | true =>
          have := h n (by omega) x hx hne hb
          simp [this]
theorem apart_iff {M : List (List Bool)} (V : ValidM M) {k : Nat} (hk : k < width M) : k ∈ aprt (masks M) 0 (2 ^ M.length - 1) ↔ (smB M k M.length && frB M (aprt (masks M) 0 (2 ^ M.length - 1)) k M.length) = true := by
  rw [apart_law V.n masks_lt (masks_at hk), Bool.and_eq_true, smB_iff, frB_iff]
  have hA : ∀ x ∈ aprt (masks M) 0 (2 ^ M.length - 1), x < width M := fun x hx => by
    rw [aprt_sel] at hx
    have := (List.getElem?_eq_some_iff.1 hx.2).1
    rw [sel_len, masks_len] at this
    omega
  refine and_congr ?_ ?_
  · rw [ne_zero_bit]
    constructor
    · rintro ⟨i, hi⟩
      rw [msk_bit] at hi
      simp at hi
      exact ⟨i, hi.1, hi.2⟩
    · rintro ⟨i, h1, h2⟩
      exact ⟨i, by rw [msk_bit]; simp [h1, h2]⟩
  · constructor
    · intro h i hi x hx hne hb
      have := h x hx hne _ (masks_at (hA x hx)) i (by rw [msk_bit]; simp [hi, hb])
      rw [msk_bit] at this
      simp [hi] at this
      exact this
    · intro h x hx hne d hd t ht
      rw [masks_at (hA x hx)] at hd
      injection hd with hd
      subst hd
      rw [msk_bit] at ht ⊢
      simp at ht ⊢
      intro _
      exact h t ht.1 x hx hne ht.2
set_option maxHeartbeats 3200000 in
theorem suApart (l : Hdr) (L : List Int) (w : World) (HL : SlI w l L) (hI : ∀ x ∈ L, I64 x) :
    Calls Try.prog 5 #[.slice l.1 l.2.1 l.2.2] w (fun e w' => e = .returned (.bool true) ∧ Below w.heap.size w w') := by
  refine Calls.mono (S5_calls l.1 l.2.1 l.2.2 w (fun v w' => v = .bool true ∧ bel w w') ?_) (by rintro e w' ⟨v, rfl, rfl, hb⟩; exact ⟨rfl, hb⟩)
  unfold S5
  refine call_mono (newF l L w HL hI) ?_
  rintro _ w2 ⟨tb, l', L', rfl, etb, ht, h2⟩
  refine call_mono (matrixF 7 16 ht (by omega) (by omega)) ?_
  rintro (x3 : Hdr) w4 ⟨M, hs, n, HM, hM1, hM2, hM3, _, g4⟩
  have V := MatR.valid hM1 hM2 hM3 (by omega) (by omega)
  have h : bel w w4 := h2.grownAt g4 (by omega)
  replace HM := HM.tab
  have hl := HM.len
  refine call_mono (ApartF x3 M w4 HM) ?_
  rintro (x5 : HI) w6 ⟨R5, h'⟩
  obtain ⟨e5, P5⟩ := R5.get V
  have S5 := Own.sl P5
  have l5 := S5.nat
  replace HM := HM.up h'; replace h := h.trans h'
  refine br_ne (fun q => absurd e5 q) (fun _ => ?_)
  refine nat_eq0 (fun e0 => ?_) (fun e0 => ?_)
  · have : M = [] := List.eq_nil_of_length_eq_zero (by omega)
    subst this
    refine nat_eq0 (fun _ => ?_) (fun q => absurd (by rw [← l5]; rfl) q)
    refine call_mono (awakeF w6) ?_
    rintro (x7 : Bool) w8 ⟨hx, h8⟩
    exact ⟨by rw [hx], h.trans h8⟩
  refine row_up HM (bel.refl _) (i := 0) rfl (by omega) fun x10 r0 hr0 S10 => ?_
  have l10 := S10.bool
  have hw := width_at hr0
  have v2 := V.w400
  have v1 := V.n
  have law := fun k (hk : k < width M) => apart_iff V hk
  have hA : ∀ x ∈ aprt (masks M) 0 (2 ^ M.length - 1), x < width M := fun x hx => by
    rw [aprt_sel] at hx
    have := (List.getElem?_eq_some_iff.1 hx.2).1
    rw [sel_len, masks_len] at this
    omega
  have hAl : (aprt (masks M) 0 (2 ^ M.length - 1)).length ≤ 100000 := by
    rw [aprt_len]
    have := sel_max v1 (masks_lt (M := M)) (show 2 ^ M.length - 1 < 2 ^ M.length by have := Nat.two_pow_pos M.length; omega)
    have := mst_le v1 (masks_lt (M := M)) (show 2 ^ M.length - 1 < 2 ^ M.length by have := Nat.two_pow_pos M.length; omega)
    have := pc_le (2 ^ M.length - 1) M.length
    omega
  generalize aprt (masks M) 0 (2 ^ M.length - 1) = A at *
  refine loop_up (width M) (fun k w' => bel w6 w') (bel.refl _) fun k w13 hk hb again hag _ => ?_
  refine br_dec (fun e => ?_) (fun e => ?_)
  · dsimp only at e
    have hkw : k < width M := by omega
    refine join_mk (fun _ w' => bel w6 w') (fun K hK => ?_) (fun _ w16 hJ _ => ?_)
    · refine loop_gh (G := Nat) (fun i s w' => s = (smB M k i, frB M A k i, (i : Int), ()) ∧ i ≤ M.length ∧ w13 = w') (fun i => M.length - i) 0 ⟨rfl, Nat.zero_le _, rfl⟩ ?_
      rintro i s w20 ⟨rfl, hi, rfl⟩ again2 hag2 _
      refine br_dec (fun e1 => ?_) (fun e1 => ?_)
      · dsimp only at e1
        have hin : i < M.length := by omega
        refine row_up HM hb rfl hin fun x22 r hr S22 => ?_
        have l22 := S22.bool
        have lr := (V.row r (mem_at hr)).1
        have rdb : ∀ {x : Nat} {xx : Int} {K : Bool → Prop}, xx = (x : Int) → x < width M → K (bm M i x) → rdp Try.prog (Instr.indexAt 35 (.slice x22.1 x22.2.1 x22.2.2) (.int .i64 xx)) (.one .addr) fun b => rd Try.prog (Instr.loadAt 4 (.pointer (some b))) (.one .bool) w13 K := fun {x xx K} hxx hx hK =>
          at_bool tyB (by kernel_rfl) (S22.up hb) hxx (by omega) fun b hbb => by rw [← bm_at hr hbb]; exact hK
        refine join_mk (fun s w' => s.1 = smB M k (i + 1) ∧ w13 = w') (fun K2 hK2 => ?_) (fun s w25 hJ _ => ?_)
        · refine br_mk (fun q => hK2 _ _ ⟨by dsimp only at q ⊢; simp [smB, q], rfl⟩) (fun q => ?_)
          refine rdb rfl hkw ?_
          exact hK2 _ _ ⟨by dsimp only at q ⊢; simp [smB, q], rfl⟩
        · obtain ⟨hs1, rfl⟩ := hJ
          obtain ⟨sv, _⟩ := s
          dsimp only at hs1
          subst hs1
          have stp : ∀ {j x : Nat}, A[j]? = some x → (A.take (j + 1)).all (fun x => !hit M k i x) = ((A.take j).all (fun x => !hit M k i x) && !hit M k i x) := fun {j x} hx => by
            rw [List.take_add_one, hx]
            show (A.take j ++ [x]).all _ = _
            rw [List.all_append]; simp
          refine loop_upA A.length (fun j a w' => a = (frB M A k i && (A.take j).all fun x => !hit M k i x) ∧ w13 = w') ⟨by simp, rfl⟩ fun j a w28 hj ⟨ha, hw28⟩ again3 hag3 _ => ?_
          subst hw28
          refine br_dec (fun e2 => ?_) (fun e2 => ?_)
          · dsimp only at e2
            have hjA : j < A.length := by omega
            refine nat_mk (S5.up hb) rfl hjA fun x hx => ?_
            have hxw := hA x (List.mem_of_getElem? hx)
            have hst := stp hx
            have fin : ∀ {v : Bool}, v = (a && !hit M k i x) → z (IntKind.wrap .i64 ((j : Int) + 1)) fun z40 => again3 (v, z40, ()) w13 := fun {v} hv => by
              refine z_i64 (by omega) ?_
              refine hag3 v w13 hjA ⟨?_, rfl⟩
              rw [hv, ha, hst, Bool.and_assoc]
            refine br_mk (fun qa => ?_) (fun qa => fin (by dsimp only at qa; rw [qa]; rfl))
            dsimp only at qa
            refine rdb rfl hkw ?_
            refine br_mk (fun qb => ?_) (fun qb => fin (by rw [qa]; unfold hit; rw [qb]; rfl))
            refine br_ne (fun qc => ?_) (fun qc => fin (by rw [qa]; unfold hit; rw [decide_eq_false (by simp; omega)]; simp))
            refine br_dec (fun _ => ?_) (fun q => absurd q (by omega))
            refine br_dec (fun _ => ?_) (fun q => absurd q (by omega))
            refine rdb rfl hxw ?_
            refine fin ?_
            rw [qa]; unfold hit
            rw [qb, decide_eq_true (show x ≠ k from fun q => qc (by rw [q]))]
            simp
          · dsimp only at e2
            have hjA : j = A.length := by omega
            subst hjA
            refine z_i64 (by dsimp only; omega) ?_
            refine hag2 (i + 1) _ _ ⟨?_, by omega, rfl⟩ (by omega)
            rw [ha, List.take_length]; rfl
      · dsimp only at e1
        have hin : i = M.length := by omega
        subst hin
        have lw := law k hkw
        generalize smB M k M.length = sm at *
        generalize frB M A k M.length = fr at *
        refine join_mk (fun s w' => s.1 = false ∧ bel w6 w') (fun K2 hK2 => ?_) (fun s w46 hJ _ => ?_)
        · have sk := S5.up hb
          refine call_mono (inF x5.1 A (k : Int) w13 sk) ?_
          rintro (x47 : Bool) w48 ⟨hx, h48⟩
          have hin2 : (∃ y ∈ A, (y : Int) = (k : Int)) ↔ k ∈ A := by
            constructor
            · rintro ⟨y, h1, h2⟩
              have : y = k := by omega
              subst this; exact h1
            · intro h; exact ⟨k, h, rfl⟩
          rw [hin2, lw] at hx
          refine br_mk (fun q => ?_) (fun q => ?_)
          · have hq := hx.1 q
            rw [Bool.and_eq_true] at hq
            obtain ⟨rfl, rfl⟩ := hq
            refine br_not (fun z => by cases z) (fun _ => ?_)
            refine br_not (fun z => by cases z) (fun _ => ?_)
            refine call_mono (inF x5.1 A (k : Int) w48 (sk.up h48)) ?_
            rintro (x49 : Bool) w50 ⟨hx2, h50⟩
            rw [hin2, lw] at hx2
            refine br_not (fun z => ?_) (fun _ => hK2 _ _ ⟨rfl, (hb.trans h48).trans h50⟩)
            rw [hx2.2 rfl] at z; cases z
          · refine call_mono (inF x5.1 A (k : Int) w48 (sk.up h48)) ?_
            rintro (x51 : Bool) w52 ⟨_, h52⟩
            have hb52 := (hb.trans h48).trans h52
            refine br_not (fun _ => ?_) (fun _ => hK2 _ _ ⟨rfl, hb52⟩)
            refine br_mk (fun z => hK2 _ _ ⟨?_, hb52⟩) (fun _ => hK2 _ _ ⟨rfl, hb52⟩)
            dsimp only at z ⊢
            subst z
            cases fr with
            | false => rfl
            | true => rw [hx.2 rfl] at q; cases q
        · obtain ⟨h1, h2⟩ := hJ
          obtain ⟨sv, _⟩ := s
          dsimp only at h1
          subst h1
          exact br_f rfl (hK () _ h2)
    · refine z_i64 (by dsimp only; omega) ?_
      exact hag _ hkw hJ
  · refine call_mono (awakeF w13) ?_
    rintro (x48 : Bool) w49 ⟨hx, h49⟩
    exact ⟨by rw [hx], (h.trans hb).trans h49⟩
end Go.Proofs.Ytaomejbaocehnaa

/- Arguments of the statements about suites. -/

namespace Go.Proofs.Ytaomejbaocehnaa
open Go.RowKit Go.Q Go.V

theorem bounds_i64 {n : Int} (h : (Lit.int .i64 n).wf = true) : I64 n := by
  simp only [Lit.wf, Bool.and_eq_true, decide_eq_true_eq] at h
  exact ⟨h.1, h.2⟩
set_option maxRecDepth 100000 in
theorem argTape {w : World} {v : Value} (h : Go.Q.Arg Try.prog w 22 v) : ∃ x xs, v = hv x ∧ SlI w x xs ∧ ∀ n ∈ xs, I64 n := by
  obtain ⟨a, n, c, rfl, h⟩ := Go.V.Arg.slice Try.underlying22 h
  obtain ⟨a1, n1, c1, xs, q1, _, s1, b1⟩ := Go.V.Read.ints Try.underlying22 Try.underlying3 (by kernel_rfl) h
  cases q1
  exact ⟨(a, n, c), xs, rfl, s1, fun x hx => bounds_i64 (b1 x hx)⟩
end Go.Proofs.Ytaomejbaocehnaa
