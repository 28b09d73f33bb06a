import Derived.KernelRfl
import Derived.Test.YtajpdnphamomjaaPackLinearSolves3

/- The conditions of functions, printed by our tool; each is checked against the code by the kernel. -/



namespace Go.Proofs
open Go Go.V Go.RowKit
def S114d (s_a : Option Addr) (s_n : Nat) (s_c : Nat) (w0 : World) (R : Value → World → Prop) : Prop :=
 loop (T := (Int × Unit)) (0, ()) w0 fun (again1 : (Int × Unit) → World → Prop) (s2 : (Int × Unit)) w3 => ∀ _ : Nat → Value,
 br (decide (s2.1 < ((s_n : Nat) : Int))) (rdp Try.prog (Instr.indexAt 33 (.slice s_a s_n s_c) (.int .i64 s2.1)) (.one .addr) fun (x4 : Addr) =>
 rd Try.prog (Instr.loadAt 23 (.pointer (some x4))) (.agg [(.int .i64), (.int .i64)]) w3 fun (x5 : (Int × Int × Unit)) =>
 call Try.prog 85 [(.agg #[(.int .i64 x5.1), (.int .i64 x5.2.1)])] (.one (.one .bool)) w3 fun (x6 : Bool) w7 =>
 br x6 (R (.int .i64 s2.1) w7)
 (z (IntKind.wrap .i64 (s2.1 + 1)) fun (z8 : Int) =>
 again1 (z8, ()) w7))
 (R (.int .i64 (-1)) w3)
def H114d : Hints := ⟨[(2, 0, [(8, (.one (.int .i64)))])], [], [], []⟩
set_option maxRecDepth 100000 in
theorem S114d_eq (s_a : Option Addr) (s_n : Nat) (s_c : Nat) (w0 : World) (R : Value → World → Prop) : vcFn Try.prog H114d Try.f114 [(.slice s_a s_n s_c), (.func (.func 85) #[] #[])] w0 R = S114d s_a s_n s_c w0 R := by kernel_rfl
set_option maxRecDepth 100000 in
theorem S114d_calls (s_a : Option Addr) (s_n : Nat) (s_c : Nat) (w0 : World) (R : Value → World → Prop) (h : S114d s_a s_n s_c w0 R) : Calls Try.prog 114 #[(.slice s_a s_n s_c), (.func (.func 85) #[] #[])] w0 (ret R) := by
  rw [← S114d_eq] at h; exact vcFn_sound follows_ Try.func114 h

def S84d (s_a : Option Addr) (s_n : Nat) (s_c : Nat) (w0 : World) (R : Value → World → Prop) : Prop :=
 call Try.prog 114 [(.slice s_a s_n s_c), (.func (.func 85) #[] #[])] (.one (.one (.int .i64))) w0 fun (x1 : Int) w2 =>
 R (.bool (decide (x1 ≥ 0))) w2
def H84d : Hints := ⟨[], [], [], []⟩
set_option maxRecDepth 100000 in
theorem S84d_eq (s_a : Option Addr) (s_n : Nat) (s_c : Nat) (w0 : World) (R : Value → World → Prop) : vcFn Try.prog H84d Try.f84 [(.slice s_a s_n s_c), (.func (.func 85) #[] #[])] w0 R = S84d s_a s_n s_c w0 R := by kernel_rfl
set_option maxRecDepth 100000 in
theorem S84d_calls (s_a : Option Addr) (s_n : Nat) (s_c : Nat) (w0 : World) (R : Value → World → Prop) (h : S84d s_a s_n s_c w0 R) : Calls Try.prog 84 #[(.slice s_a s_n s_c), (.func (.func 85) #[] #[])] w0 (ret R) := by
  rw [← S84d_eq] at h; exact vcFn_sound follows_ Try.func84 h

def S85 (f_0 : Int) (f_1 : Int) (w0 : World) (R : Value → World → Prop) : Prop :=
 wr Try.prog (Instr.box 23 (.agg #[(.int .i64 f_0), (.int .i64 f_1)])) (.one .addr) w0 fun (x1 : Addr) w2 =>
 rd Try.prog (Instr.loadAt 23 (.pointer (some x1))) (.agg [(.int .i64), (.int .i64)]) w2 fun (x3 : (Int × Int × Unit)) =>
 call Try.prog 20 [(.agg #[(.int .i64 x3.1), (.int .i64 x3.2.1)])] (.one (.one .bool)) w2 fun (x4 : Bool) w5 =>
 R (.bool (!x4)) w5
def H85 : Hints := ⟨[], [], [], []⟩
set_option maxRecDepth 100000 in
theorem S85_eq (f_0 : Int) (f_1 : Int) (w0 : World) (R : Value → World → Prop) : vcFn Try.prog H85 Try.f85 [(.agg #[(.int .i64 f_0), (.int .i64 f_1)])] w0 R = S85 f_0 f_1 w0 R := by kernel_rfl
set_option maxRecDepth 100000 in
theorem S85_calls (f_0 : Int) (f_1 : Int) (w0 : World) (R : Value → World → Prop) (h : S85 f_0 f_1 w0 R) : Calls Try.prog 85 #[(.agg #[(.int .i64 f_0), (.int .i64 f_1)])] w0 (ret R) := by
  rw [← S85_eq] at h; exact vcFn_sound follows_ Try.func85 h

def S88 (row_ : Int) (cap0 : Addr) (cap1 : Addr) (w0 : World) (R : Value → World → Prop) : Prop :=
 drw w0 fun w1 =>
 rd Try.prog (Instr.loadAt 41 (.pointer (some (Addr.add cap0 1)))) (.one .slice) w1 fun (x2 : Hd3) =>
 rdp Try.prog (Instr.indexAt 41 (.slice x2.1 x2.2.1 x2.2.2) (.int .i64 row_)) (.one .addr) fun (x3 : Addr) =>
 rd Try.prog (Instr.loadAt 40 (.pointer (some x3))) (.one .slice) w1 fun (x4 : Hd3) =>
 rd Try.prog (Instr.loadAt 3 (.pointer (some cap1))) (.one (.int .i64)) w1 fun (x5 : Int) =>
 rdp Try.prog (Instr.indexAt 40 (.slice x4.1 x4.2.1 x4.2.2) (.int .i64 x5)) (.one .addr) fun (x6 : Addr) =>
 rd Try.prog (Instr.loadAt 2 (.pointer (some x6))) (.one (.int .i64)) w1 fun (x7 : Int) =>
 R (.int .i64 x7) w1
def H88 : Hints := ⟨[], [(1, 6)], [], []⟩
set_option maxRecDepth 100000 in
theorem S88_eq (row_ : Int) (cap0 : Addr) (cap1 : Addr) (w0 : World) (R : Value → World → Prop) : vcFn Try.prog H88 Try.f88 [(.int .i64 row_), (.pointer (some cap0)), (.pointer (some cap1))] w0 R = S88 row_ cap0 cap1 w0 R := by kernel_rfl
set_option maxRecDepth 100000 in
theorem S88_calls (row_ : Int) (cap0 : Addr) (cap1 : Addr) (w0 : World) (R : Value → World → Prop) (h : S88 row_ cap0 cap1 w0 R) : Calls Try.prog 88 #[(.int .i64 row_), (.pointer (some cap0)), (.pointer (some cap1))] w0 (ret R) := by
  rw [← S88_eq] at h; exact vcFn_sound follows_ Try.func88 h

def S89 (row_ : Int) (cap0 : Addr) (w0 : World) (R : Value → World → Prop) : Prop :=
 rd Try.prog (Instr.loadAt 40 (.pointer (some (Addr.add cap0 2)))) (.one .slice) w0 fun (x1 : Hd3) =>
 rdp Try.prog (Instr.indexAt 40 (.slice x1.1 x1.2.1 x1.2.2) (.int .i64 row_)) (.one .addr) fun (x2 : Addr) =>
 rd Try.prog (Instr.loadAt 2 (.pointer (some x2))) (.one (.int .i64)) w0 fun (x3 : Int) =>
 R (.int .i64 x3) w0
def H89 : Hints := ⟨[], [], [], []⟩
set_option maxRecDepth 100000 in
theorem S89_eq (row_ : Int) (cap0 : Addr) (w0 : World) (R : Value → World → Prop) : vcFn Try.prog H89 Try.f89 [(.int .i64 row_), (.pointer (some cap0))] w0 R = S89 row_ cap0 w0 R := by kernel_rfl
set_option maxRecDepth 100000 in
theorem S89_calls (row_ : Int) (cap0 : Addr) (w0 : World) (R : Value → World → Prop) (h : S89 row_ cap0 w0 R) : Calls Try.prog 89 #[(.int .i64 row_), (.pointer (some cap0))] w0 (ret R) := by
  rw [← S89_eq] at h; exact vcFn_sound follows_ Try.func89 h

def S86c (cap0_0 : Addr) (cap0_1 : Addr) (cap0 : Addr) (w0 : World) (R : Value → World → Prop) : Prop :=
 wr Try.prog (Instr.alloc 23 true (.tuple #[])) (.one .addr) w0 fun (x1 : Addr) w2 =>
 call Try.prog 81 [(.int .i64 0)] (.one (.agg [.bool, .slice, .slice])) w2 fun (x3 : (Bool × Hd3 × Hd3 × Unit)) w4 =>
 wr Try.prog (Instr.alloc 81 true (.tuple #[])) (.one .addr) w4 fun (x5 : Addr) w6 =>
 wu Try.prog (Instr.storeAt 81 (.pointer (some x5)) (.agg #[(.bool x3.1), (.slice x3.2.1.1 x3.2.1.2.1 x3.2.1.2.2), (.slice x3.2.2.1.1 x3.2.2.1.2.1 x3.2.2.1.2.2)])) w6 fun w7 =>
 rd Try.prog (Instr.loadAt 33 (.pointer (some cap0))) (.one .slice) w7 fun (x8 : Hd3) =>
 loop (T := (Int × Unit)) (0, ()) w7 fun (again9 : (Int × Unit) → World → Prop) (s10 : (Int × Unit)) w11 => ∀ _ : Nat → Value,
 br (decide (s10.1 < ((x8.2.1 : Nat) : Int))) (join (T := (Unit)) (fun (_s13 : (Unit)) w14 => ∀ _ : Nat → Value,
 z (IntKind.wrap .i64 (s10.1 + 1)) fun (z15 : Int) =>
 again9 (z15, ()) w14)
  fun (K12 : (Unit) → World → Prop) =>
 rdp Try.prog (Instr.indexAt 33 (.slice x8.1 x8.2.1 x8.2.2) (.int .i64 s10.1)) (.one .addr) fun (x16 : Addr) =>
 rd Try.prog (Instr.loadAt 23 (.pointer (some x16))) (.agg [(.int .i64), (.int .i64)]) w11 fun (x17 : (Int × Int × Unit)) =>
 wr Try.prog (Instr.alloc 23 true (.tuple #[])) (.one .addr) w11 fun (x18 : Addr) w19 =>
 wu Try.prog (Instr.storeAt 23 (.pointer (some x18)) (.agg #[(.int .i64 x17.1), (.int .i64 x17.2.1)])) w19 fun w20 =>
 call Try.prog 88 [(.int .i64 s10.1), (.pointer (some cap0_0)), (.pointer (some cap0_1))] (.one (.one (.int .i64))) w20 fun (x21 : Int) w22 =>
 br (x21 != 0) (rd Try.prog (Instr.loadAt 2 (.pointer (some x18))) (.one (.int .i64)) w22 fun (x23 : Int) =>
 br (x23 != 0) (drw w22 fun w24 => flEx fun F25 =>
 rd Try.prog (Instr.loadAt 81 (.pointer (some x5))) (.agg [.bool, .slice, .slice]) w24 fun (x26 : (Bool × Hd3 × Hd3 × Unit)) =>
 rd Try.prog (Instr.loadAt 23 (.pointer (some x18))) (.agg [(.int .i64), (.int .i64)]) w24 fun (x27 : (Int × Int × Unit)) =>
 flc bel w24 (fun _w29 => True) (fun w28 =>
   call Try.prog 56 [(.agg #[(.int .i64 x27.1), (.int .i64 x27.2.1)])] (.one (.agg [.bool, .slice, .slice])) w28 fun (x30 : (Bool × Hd3 × Hd3 × Unit)) w31 =>
 (bel w28 w31 ∧ F25 2 [(.agg #[(.int .i64 x27.1), (.int .i64 x27.2.1)])] (.agg #[(.bool x30.1), (.slice x30.2.1.1 x30.2.1.2.1 x30.2.1.2.2), (.slice x30.2.2.1.1 x30.2.2.1.2.1 x30.2.2.1.2.2)]) w31))
  fun (x32 : (Bool × Hd3 × Hd3 × Unit)) =>
 flc bel w24 (fun w34 => F25 2 [(.agg #[(.int .i64 x27.1), (.int .i64 x27.2.1)])] (.agg #[(.bool x32.1), (.slice x32.2.1.1 x32.2.1.2.1 x32.2.1.2.2), (.slice x32.2.2.1.1 x32.2.2.1.2.1 x32.2.2.1.2.2)]) w34 ∧ True) (fun w33 =>
   call Try.prog 81 [(.int .i64 x21)] (.one (.agg [.bool, .slice, .slice])) w33 fun (x35 : (Bool × Hd3 × Hd3 × Unit)) w36 =>
 (bel w33 w36 ∧ F25 4 [(.int .i64 x21)] (.agg #[(.bool x35.1), (.slice x35.2.1.1 x35.2.1.2.1 x35.2.1.2.2), (.slice x35.2.2.1.1 x35.2.2.1.2.1 x35.2.2.1.2.2)]) w36))
  fun (x37 : (Bool × Hd3 × Hd3 × Unit)) =>
 flc bel w24 (fun w39 => F25 4 [(.int .i64 x21)] (.agg #[(.bool x37.1), (.slice x37.2.1.1 x37.2.1.2.1 x37.2.1.2.2), (.slice x37.2.2.1.1 x37.2.2.1.2.1 x37.2.2.1.2.2)]) w39 ∧ F25 2 [(.agg #[(.int .i64 x27.1), (.int .i64 x27.2.1)])] (.agg #[(.bool x32.1), (.slice x32.2.1.1 x32.2.1.2.1 x32.2.1.2.2), (.slice x32.2.2.1.1 x32.2.2.1.2.1 x32.2.2.1.2.2)]) w39 ∧ True) (fun w38 =>
   call Try.prog 68 [(.agg #[(.bool x32.1), (.slice x32.2.1.1 x32.2.1.2.1 x32.2.1.2.2), (.slice x32.2.2.1.1 x32.2.2.1.2.1 x32.2.2.1.2.2)]), (.agg #[(.bool x37.1), (.slice x37.2.1.1 x37.2.1.2.1 x37.2.1.2.2), (.slice x37.2.2.1.1 x37.2.2.1.2.1 x37.2.2.1.2.2)])] (.one (.agg [.bool, .slice, .slice])) w38 fun (x40 : (Bool × Hd3 × Hd3 × Unit)) w41 =>
 (bel w38 w41 ∧ F25 5 [(.agg #[(.bool x32.1), (.slice x32.2.1.1 x32.2.1.2.1 x32.2.1.2.2), (.slice x32.2.2.1.1 x32.2.2.1.2.1 x32.2.2.1.2.2)]), (.agg #[(.bool x37.1), (.slice x37.2.1.1 x37.2.1.2.1 x37.2.1.2.2), (.slice x37.2.2.1.1 x37.2.2.1.2.1 x37.2.2.1.2.2)])] (.agg #[(.bool x40.1), (.slice x40.2.1.1 x40.2.1.2.1 x40.2.1.2.2), (.slice x40.2.2.1.1 x40.2.2.1.2.1 x40.2.2.1.2.2)]) w41))
  fun (x42 : (Bool × Hd3 × Hd3 × Unit)) =>
 flend bel w24 (fun w44 => F25 5 [(.agg #[(.bool x32.1), (.slice x32.2.1.1 x32.2.1.2.1 x32.2.1.2.2), (.slice x32.2.2.1.1 x32.2.2.1.2.1 x32.2.2.1.2.2)]), (.agg #[(.bool x37.1), (.slice x37.2.1.1 x37.2.1.2.1 x37.2.1.2.2), (.slice x37.2.2.1.1 x37.2.2.1.2.1 x37.2.2.1.2.2)])] (.agg #[(.bool x42.1), (.slice x42.2.1.1 x42.2.1.2.1 x42.2.1.2.2), (.slice x42.2.2.1.1 x42.2.2.1.2.1 x42.2.2.1.2.2)]) w44 ∧ F25 4 [(.int .i64 x21)] (.agg #[(.bool x37.1), (.slice x37.2.1.1 x37.2.1.2.1 x37.2.1.2.2), (.slice x37.2.2.1.1 x37.2.2.1.2.1 x37.2.2.1.2.2)]) w44 ∧ F25 2 [(.agg #[(.int .i64 x27.1), (.int .i64 x27.2.1)])] (.agg #[(.bool x32.1), (.slice x32.2.1.1 x32.2.1.2.1 x32.2.1.2.2), (.slice x32.2.2.1.1 x32.2.2.1.2.1 x32.2.2.1.2.2)]) w44 ∧ True) fun w43 =>
 call Try.prog 60 [(.agg #[(.bool x26.1), (.slice x26.2.1.1 x26.2.1.2.1 x26.2.1.2.2), (.slice x26.2.2.1.1 x26.2.2.1.2.1 x26.2.2.1.2.2)]), (.agg #[(.bool x42.1), (.slice x42.2.1.1 x42.2.1.2.1 x42.2.1.2.2), (.slice x42.2.2.1.1 x42.2.2.1.2.1 x42.2.2.1.2.2)])] (.one (.agg [.bool, .slice, .slice])) w43 fun (x45 : (Bool × Hd3 × Hd3 × Unit)) w46 =>
 wu Try.prog (Instr.storeAt 81 (.pointer (some x5)) (.agg #[(.bool x45.1), (.slice x45.2.1.1 x45.2.1.2.1 x45.2.1.2.2), (.slice x45.2.2.1.1 x45.2.2.1.2.1 x45.2.2.1.2.2)])) w46 fun w47 =>
 K12 (()) w47)
 (K12 (()) w22))
 (K12 (()) w22))
 (rd Try.prog (Instr.loadAt 81 (.pointer (some x5))) (.agg [.bool, .slice, .slice]) w11 fun (x48 : (Bool × Hd3 × Hd3 × Unit)) =>
 call Try.prog 87 [(.agg #[(.bool x48.1), (.slice x48.2.1.1 x48.2.1.2.1 x48.2.1.2.2), (.slice x48.2.2.1.1 x48.2.2.1.2.1 x48.2.2.1.2.2)])] (.many [(.agg [(.int .i64), (.int .i64)]), (.one .bool)]) w11 fun (x49 : ((Int × Int × Unit) × Bool × Unit)) w50 =>
 wu Try.prog (Instr.storeAt 23 (.pointer (some x1)) (.agg #[(.int .i64 x49.1.1), (.int .i64 x49.1.2.1)])) w50 fun w51 =>
 rd Try.prog (loadVar 23 x1) (.agg [(.int .i64), (.int .i64)]) w51 fun (x52 : (Int × Int × Unit)) =>
 R (.tuple #[(.agg #[(.int .i64 x52.1), (.int .i64 x52.2.1)]), (.bool x49.2.1)]) w51)
def H86c : Hints := ⟨[(2, 0, [(12, (.one (.int .i64)))]), (1, 1, [])], [(7, 6)], [], []⟩
set_option maxRecDepth 100000 in
theorem S86c_eq (cap0_0 : Addr) (cap0_1 : Addr) (cap0 : Addr) (w0 : World) (R : Value → World → Prop) : vcFn Try.prog H86c Try.f86 [(.func (.func 88) #[] #[(.pointer (some cap0_0)), (.pointer (some cap0_1))]), (.pointer (some cap0))] w0 R = S86c cap0_0 cap0_1 cap0 w0 R := by kernel_rfl
set_option maxRecDepth 100000 in
theorem S86c_calls (cap0_0 : Addr) (cap0_1 : Addr) (cap0 : Addr) (w0 : World) (R : Value → World → Prop) (h : S86c cap0_0 cap0_1 cap0 w0 R) : Calls Try.prog 86 #[(.func (.func 88) #[] #[(.pointer (some cap0_0)), (.pointer (some cap0_1))]), (.pointer (some cap0))] w0 (ret R) := by
  rw [← S86c_eq] at h; exact vcFn_sound follows_ Try.func86 h

def S86d (cap0_0 : Addr) (cap0 : Addr) (w0 : World) (R : Value → World → Prop) : Prop :=
 wr Try.prog (Instr.alloc 23 true (.tuple #[])) (.one .addr) w0 fun (x1 : Addr) w2 =>
 call Try.prog 81 [(.int .i64 0)] (.one (.agg [.bool, .slice, .slice])) w2 fun (x3 : (Bool × Hd3 × Hd3 × Unit)) w4 =>
 wr Try.prog (Instr.alloc 81 true (.tuple #[])) (.one .addr) w4 fun (x5 : Addr) w6 =>
 wu Try.prog (Instr.storeAt 81 (.pointer (some x5)) (.agg #[(.bool x3.1), (.slice x3.2.1.1 x3.2.1.2.1 x3.2.1.2.2), (.slice x3.2.2.1.1 x3.2.2.1.2.1 x3.2.2.1.2.2)])) w6 fun w7 =>
 rd Try.prog (Instr.loadAt 33 (.pointer (some cap0))) (.one .slice) w7 fun (x8 : Hd3) =>
 loop (T := (Int × Unit)) (0, ()) w7 fun (again9 : (Int × Unit) → World → Prop) (s10 : (Int × Unit)) w11 => ∀ _ : Nat → Value,
 br (decide (s10.1 < ((x8.2.1 : Nat) : Int))) (join (T := (Unit)) (fun (_s13 : (Unit)) w14 => ∀ _ : Nat → Value,
 z (IntKind.wrap .i64 (s10.1 + 1)) fun (z15 : Int) =>
 again9 (z15, ()) w14)
  fun (K12 : (Unit) → World → Prop) =>
 rdp Try.prog (Instr.indexAt 33 (.slice x8.1 x8.2.1 x8.2.2) (.int .i64 s10.1)) (.one .addr) fun (x16 : Addr) =>
 rd Try.prog (Instr.loadAt 23 (.pointer (some x16))) (.agg [(.int .i64), (.int .i64)]) w11 fun (x17 : (Int × Int × Unit)) =>
 wr Try.prog (Instr.alloc 23 true (.tuple #[])) (.one .addr) w11 fun (x18 : Addr) w19 =>
 wu Try.prog (Instr.storeAt 23 (.pointer (some x18)) (.agg #[(.int .i64 x17.1), (.int .i64 x17.2.1)])) w19 fun w20 =>
 call Try.prog 89 [(.int .i64 s10.1), (.pointer (some cap0_0))] (.one (.one (.int .i64))) w20 fun (x21 : Int) w22 =>
 br (x21 != 0) (rd Try.prog (Instr.loadAt 2 (.pointer (some x18))) (.one (.int .i64)) w22 fun (x23 : Int) =>
 br (x23 != 0) (drw w22 fun w24 => flEx fun F25 =>
 rd Try.prog (Instr.loadAt 81 (.pointer (some x5))) (.agg [.bool, .slice, .slice]) w24 fun (x26 : (Bool × Hd3 × Hd3 × Unit)) =>
 rd Try.prog (Instr.loadAt 23 (.pointer (some x18))) (.agg [(.int .i64), (.int .i64)]) w24 fun (x27 : (Int × Int × Unit)) =>
 flc bel w24 (fun _w29 => True) (fun w28 =>
   call Try.prog 56 [(.agg #[(.int .i64 x27.1), (.int .i64 x27.2.1)])] (.one (.agg [.bool, .slice, .slice])) w28 fun (x30 : (Bool × Hd3 × Hd3 × Unit)) w31 =>
 (bel w28 w31 ∧ F25 2 [(.agg #[(.int .i64 x27.1), (.int .i64 x27.2.1)])] (.agg #[(.bool x30.1), (.slice x30.2.1.1 x30.2.1.2.1 x30.2.1.2.2), (.slice x30.2.2.1.1 x30.2.2.1.2.1 x30.2.2.1.2.2)]) w31))
  fun (x32 : (Bool × Hd3 × Hd3 × Unit)) =>
 flc bel w24 (fun w34 => F25 2 [(.agg #[(.int .i64 x27.1), (.int .i64 x27.2.1)])] (.agg #[(.bool x32.1), (.slice x32.2.1.1 x32.2.1.2.1 x32.2.1.2.2), (.slice x32.2.2.1.1 x32.2.2.1.2.1 x32.2.2.1.2.2)]) w34 ∧ True) (fun w33 =>
   call Try.prog 81 [(.int .i64 x21)] (.one (.agg [.bool, .slice, .slice])) w33 fun (x35 : (Bool × Hd3 × Hd3 × Unit)) w36 =>
 (bel w33 w36 ∧ F25 4 [(.int .i64 x21)] (.agg #[(.bool x35.1), (.slice x35.2.1.1 x35.2.1.2.1 x35.2.1.2.2), (.slice x35.2.2.1.1 x35.2.2.1.2.1 x35.2.2.1.2.2)]) w36))
  fun (x37 : (Bool × Hd3 × Hd3 × Unit)) =>
 flc bel w24 (fun w39 => F25 4 [(.int .i64 x21)] (.agg #[(.bool x37.1), (.slice x37.2.1.1 x37.2.1.2.1 x37.2.1.2.2), (.slice x37.2.2.1.1 x37.2.2.1.2.1 x37.2.2.1.2.2)]) w39 ∧ F25 2 [(.agg #[(.int .i64 x27.1), (.int .i64 x27.2.1)])] (.agg #[(.bool x32.1), (.slice x32.2.1.1 x32.2.1.2.1 x32.2.1.2.2), (.slice x32.2.2.1.1 x32.2.2.1.2.1 x32.2.2.1.2.2)]) w39 ∧ True) (fun w38 =>
   call Try.prog 68 [(.agg #[(.bool x32.1), (.slice x32.2.1.1 x32.2.1.2.1 x32.2.1.2.2), (.slice x32.2.2.1.1 x32.2.2.1.2.1 x32.2.2.1.2.2)]), (.agg #[(.bool x37.1), (.slice x37.2.1.1 x37.2.1.2.1 x37.2.1.2.2), (.slice x37.2.2.1.1 x37.2.2.1.2.1 x37.2.2.1.2.2)])] (.one (.agg [.bool, .slice, .slice])) w38 fun (x40 : (Bool × Hd3 × Hd3 × Unit)) w41 =>
 (bel w38 w41 ∧ F25 5 [(.agg #[(.bool x32.1), (.slice x32.2.1.1 x32.2.1.2.1 x32.2.1.2.2), (.slice x32.2.2.1.1 x32.2.2.1.2.1 x32.2.2.1.2.2)]), (.agg #[(.bool x37.1), (.slice x37.2.1.1 x37.2.1.2.1 x37.2.1.2.2), (.slice x37.2.2.1.1 x37.2.2.1.2.1 x37.2.2.1.2.2)])] (.agg #[(.bool x40.1), (.slice x40.2.1.1 x40.2.1.2.1 x40.2.1.2.2), (.slice x40.2.2.1.1 x40.2.2.1.2.1 x40.2.2.1.2.2)]) w41))
  fun (x42 : (Bool × Hd3 × Hd3 × Unit)) =>
 flend bel w24 (fun w44 => F25 5 [(.agg #[(.bool x32.1), (.slice x32.2.1.1 x32.2.1.2.1 x32.2.1.2.2), (.slice x32.2.2.1.1 x32.2.2.1.2.1 x32.2.2.1.2.2)]), (.agg #[(.bool x37.1), (.slice x37.2.1.1 x37.2.1.2.1 x37.2.1.2.2), (.slice x37.2.2.1.1 x37.2.2.1.2.1 x37.2.2.1.2.2)])] (.agg #[(.bool x42.1), (.slice x42.2.1.1 x42.2.1.2.1 x42.2.1.2.2), (.slice x42.2.2.1.1 x42.2.2.1.2.1 x42.2.2.1.2.2)]) w44 ∧ F25 4 [(.int .i64 x21)] (.agg #[(.bool x37.1), (.slice x37.2.1.1 x37.2.1.2.1 x37.2.1.2.2), (.slice x37.2.2.1.1 x37.2.2.1.2.1 x37.2.2.1.2.2)]) w44 ∧ F25 2 [(.agg #[(.int .i64 x27.1), (.int .i64 x27.2.1)])] (.agg #[(.bool x32.1), (.slice x32.2.1.1 x32.2.1.2.1 x32.2.1.2.2), (.slice x32.2.2.1.1 x32.2.2.1.2.1 x32.2.2.1.2.2)]) w44 ∧ True) fun w43 =>
 call Try.prog 60 [(.agg #[(.bool x26.1), (.slice x26.2.1.1 x26.2.1.2.1 x26.2.1.2.2), (.slice x26.2.2.1.1 x26.2.2.1.2.1 x26.2.2.1.2.2)]), (.agg #[(.bool x42.1), (.slice x42.2.1.1 x42.2.1.2.1 x42.2.1.2.2), (.slice x42.2.2.1.1 x42.2.2.1.2.1 x42.2.2.1.2.2)])] (.one (.agg [.bool, .slice, .slice])) w43 fun (x45 : (Bool × Hd3 × Hd3 × Unit)) w46 =>
 wu Try.prog (Instr.storeAt 81 (.pointer (some x5)) (.agg #[(.bool x45.1), (.slice x45.2.1.1 x45.2.1.2.1 x45.2.1.2.2), (.slice x45.2.2.1.1 x45.2.2.1.2.1 x45.2.2.1.2.2)])) w46 fun w47 =>
 K12 (()) w47)
 (K12 (()) w22))
 (K12 (()) w22))
 (rd Try.prog (Instr.loadAt 81 (.pointer (some x5))) (.agg [.bool, .slice, .slice]) w11 fun (x48 : (Bool × Hd3 × Hd3 × Unit)) =>
 call Try.prog 87 [(.agg #[(.bool x48.1), (.slice x48.2.1.1 x48.2.1.2.1 x48.2.1.2.2), (.slice x48.2.2.1.1 x48.2.2.1.2.1 x48.2.2.1.2.2)])] (.many [(.agg [(.int .i64), (.int .i64)]), (.one .bool)]) w11 fun (x49 : ((Int × Int × Unit) × Bool × Unit)) w50 =>
 wu Try.prog (Instr.storeAt 23 (.pointer (some x1)) (.agg #[(.int .i64 x49.1.1), (.int .i64 x49.1.2.1)])) w50 fun w51 =>
 rd Try.prog (loadVar 23 x1) (.agg [(.int .i64), (.int .i64)]) w51 fun (x52 : (Int × Int × Unit)) =>
 R (.tuple #[(.agg #[(.int .i64 x52.1), (.int .i64 x52.2.1)]), (.bool x49.2.1)]) w51)
def H86d : Hints := ⟨[(2, 0, [(12, (.one (.int .i64)))]), (1, 1, [])], [(7, 6)], [], []⟩
set_option maxRecDepth 100000 in
theorem S86d_eq (cap0_0 : Addr) (cap0 : Addr) (w0 : World) (R : Value → World → Prop) : vcFn Try.prog H86d Try.f86 [(.func (.func 89) #[] #[(.pointer (some cap0_0))]), (.pointer (some cap0))] w0 R = S86d cap0_0 cap0 w0 R := by kernel_rfl
set_option maxRecDepth 100000 in
theorem S86d_calls (cap0_0 : Addr) (cap0 : Addr) (w0 : World) (R : Value → World → Prop) (h : S86d cap0_0 cap0 w0 R) : Calls Try.prog 86 #[(.func (.func 89) #[] #[(.pointer (some cap0_0))]), (.pointer (some cap0))] w0 (ret R) := by
  rw [← S86d_eq] at h; exact vcFn_sound follows_ Try.func86 h

def S36 (s_0a : Option Addr) (s_0n : Nat) (s_0c : Nat) (s_1a : Option Addr) (s_1n : Nat) (s_1c : Nat) (s_2a : Option Addr) (s_2n : Nat) (s_2c : Nat) (m_a : Option Addr) (m_n : Nat) (m_c : Nat) (w0 : World) (R : Value → World → Prop) : Prop :=
 wr Try.prog (Instr.box 43 (.agg #[(.slice s_0a s_0n s_0c), (.slice s_1a s_1n s_1c), (.slice s_2a s_2n s_2c)])) (.one .addr) w0 fun (x1 : Addr) w2 =>
 wr Try.prog (Instr.box 33 (.slice m_a m_n m_c)) (.one .addr) w2 fun (x3 : Addr) w4 =>
 wr Try.prog (Instr.alloc 23 true (.tuple #[])) (.one .addr) w4 fun (x5 : Addr) w6 =>
 rd Try.prog (Instr.loadAt 43 (.pointer (some x1))) (.agg [.slice, .slice, .slice]) w6 fun (x7 : (Hd3 × Hd3 × Hd3 × Unit)) =>
 call Try.prog 30 [(.agg #[(.slice x7.1.1 x7.1.2.1 x7.1.2.2), (.slice x7.2.1.1 x7.2.1.2.1 x7.2.1.2.2), (.slice x7.2.2.1.1 x7.2.2.1.2.1 x7.2.2.1.2.2)])] (.one (.one (.int .i64))) w6 fun (x8 : Int) w9 =>
 br (x8 != 0) (wu Try.prog (Instr.storeAt 23 (.pointer (some x5)) (.agg #[(.int .i64 0), (.int .i64 0)])) w9 fun w10 =>
 rd Try.prog (loadVar 23 x5) (.agg [(.int .i64), (.int .i64)]) w10 fun (x11 : (Int × Int × Unit)) =>
 R (.tuple #[(.slice none 0 0), (.agg #[(.int .i64 x11.1), (.int .i64 x11.2.1)]), (.int .i64 x8)]) w10)
 (rd Try.prog (Instr.loadAt 33 (.pointer (some x3))) (.one .slice) w9 fun (x12 : Hd3) =>
 rd Try.prog (Instr.loadAt 41 (.pointer (some (Addr.add x1 1)))) (.one .slice) w9 fun (x13 : Hd3) =>
 br (((x12.2.1 : Nat) : Int) != ((x13.2.1 : Nat) : Int)) (wu Try.prog (Instr.storeAt 23 (.pointer (some x5)) (.agg #[(.int .i64 0), (.int .i64 0)])) w9 fun w14 =>
 rd Try.prog (loadVar 23 x5) (.agg [(.int .i64), (.int .i64)]) w14 fun (x15 : (Int × Int × Unit)) =>
 R (.tuple #[(.slice none 0 0), (.agg #[(.int .i64 x15.1), (.int .i64 x15.2.1)]), (.int .i64 9)]) w14)
 (rd Try.prog (Instr.loadAt 33 (.pointer (some x3))) (.one .slice) w9 fun (x16 : Hd3) =>
 call Try.prog 84 [(.slice x16.1 x16.2.1 x16.2.2), (.func (.func 85) #[] #[])] (.one (.one .bool)) w9 fun (x17 : Bool) w18 =>
 br x17 (wu Try.prog (Instr.storeAt 23 (.pointer (some x5)) (.agg #[(.int .i64 0), (.int .i64 0)])) w18 fun w19 =>
 rd Try.prog (loadVar 23 x5) (.agg [(.int .i64), (.int .i64)]) w19 fun (x20 : (Int × Int × Unit)) =>
 R (.tuple #[(.slice none 0 0), (.agg #[(.int .i64 x20.1), (.int .i64 x20.2.1)]), (.int .i64 1)]) w19)
 (rd Try.prog (Instr.loadAt 40 (.pointer (some x1))) (.one .slice) w18 fun (x21 : Hd3) =>
 loop (T := (Hd3 × Int × Unit)) ((none, 0, 0), 0, ()) w18 fun (again22 : (Hd3 × Int × Unit) → World → Prop) (s23 : (Hd3 × Int × Unit)) w24 => ∀ _ : Nat → Value,
 br (decide (s23.2.1 < ((x21.2.1 : Nat) : Int))) (wr Try.prog (Instr.alloc 3 true (.tuple #[])) (.one .addr) w24 fun (x25 : Addr) w26 =>
 wu Try.prog (Instr.storeAt 3 (.pointer (some x25)) (.int .i64 s23.2.1)) w26 fun w27 =>
 call Try.prog 86 [(.func (.func 88) #[] #[(.pointer (some x1)), (.pointer (some x25))]), (.pointer (some x3))] (.many [(.agg [(.int .i64), (.int .i64)]), (.one .bool)]) w27 fun (x28 : ((Int × Int × Unit) × Bool × Unit)) w29 =>
 wr Try.prog (Instr.alloc 23 true (.tuple #[])) (.one .addr) w29 fun (x30 : Addr) w31 =>
 wu Try.prog (Instr.storeAt 23 (.pointer (some x30)) (.agg #[(.int .i64 x28.1.1), (.int .i64 x28.1.2.1)])) w31 fun w32 =>
 br (!x28.2.1) (wu Try.prog (Instr.storeAt 23 (.pointer (some x5)) (.agg #[(.int .i64 0), (.int .i64 0)])) w32 fun w33 =>
 rd Try.prog (loadVar 23 x5) (.agg [(.int .i64), (.int .i64)]) w33 fun (x34 : (Int × Int × Unit)) =>
 R (.tuple #[(.slice none 0 0), (.agg #[(.int .i64 x34.1), (.int .i64 x34.2.1)]), (.int .i64 8)]) w33)
 (rd Try.prog (Instr.loadAt 23 (.pointer (some x30))) (.agg [(.int .i64), (.int .i64)]) w32 fun (x35 : (Int × Int × Unit)) =>
 wr Try.prog (Instr.buildSlice 33 1 #[(0, (.agg #[(.int .i64 x35.1), (.int .i64 x35.2.1)]))]) (.one .slice) w32 fun (x36 : Hd3) w37 =>
 wr Try.prog (Builtin.append_ #[33, 33] 33 #[(.slice s23.1.1 s23.1.2.1 s23.1.2.2), (.slice x36.1 x36.2.1 x36.2.2)]) (.one .slice) w37 fun (x38 : Hd3) w39 =>
 z (IntKind.wrap .i64 (s23.2.1 + 1)) fun (z40 : Int) =>
 again22 ((x38.1, x38.2.1, x38.2.2), z40, ()) w39))
 (call Try.prog 86 [(.func (.func 89) #[] #[(.pointer (some x1))]), (.pointer (some x3))] (.many [(.agg [(.int .i64), (.int .i64)]), (.one .bool)]) w24 fun (x41 : ((Int × Int × Unit) × Bool × Unit)) w42 =>
 wr Try.prog (Instr.alloc 23 true (.tuple #[])) (.one .addr) w42 fun (x43 : Addr) w44 =>
 wu Try.prog (Instr.storeAt 23 (.pointer (some x43)) (.agg #[(.int .i64 x41.1.1), (.int .i64 x41.1.2.1)])) w44 fun w45 =>
 br (!x41.2.1) (wu Try.prog (Instr.storeAt 23 (.pointer (some x5)) (.agg #[(.int .i64 0), (.int .i64 0)])) w45 fun w46 =>
 rd Try.prog (loadVar 23 x5) (.agg [(.int .i64), (.int .i64)]) w46 fun (x47 : (Int × Int × Unit)) =>
 R (.tuple #[(.slice none 0 0), (.agg #[(.int .i64 x47.1), (.int .i64 x47.2.1)]), (.int .i64 8)]) w46)
 (drw w45 fun w48 =>
 rd Try.prog (Instr.loadAt 23 (.pointer (some x43))) (.agg [(.int .i64), (.int .i64)]) w48 fun (x49 : (Int × Int × Unit)) =>
 wu Try.prog (Instr.storeAt 23 (.pointer (some x5)) (.agg #[(.int .i64 x49.1), (.int .i64 x49.2.1)])) w48 fun w50 =>
 rd Try.prog (loadVar 23 x5) (.agg [(.int .i64), (.int .i64)]) w50 fun (x51 : (Int × Int × Unit)) =>
 R (.tuple #[(.slice s23.1.1 s23.1.2.1 s23.1.2.2), (.agg #[(.int .i64 x51.1), (.int .i64 x51.2.1)]), (.int .i64 0)]) w50)))))
def H36 : Hints := ⟨[(2, 0, [(9, (.one .slice)), (35, (.one (.int .i64)))])], [(21, 3)], [], []⟩
set_option maxRecDepth 100000 in
theorem S36_eq (s_0a : Option Addr) (s_0n : Nat) (s_0c : Nat) (s_1a : Option Addr) (s_1n : Nat) (s_1c : Nat) (s_2a : Option Addr) (s_2n : Nat) (s_2c : Nat) (m_a : Option Addr) (m_n : Nat) (m_c : Nat) (w0 : World) (R : Value → World → Prop) : vcFn Try.prog H36 Try.f36 [(.agg #[(.slice s_0a s_0n s_0c), (.slice s_1a s_1n s_1c), (.slice s_2a s_2n s_2c)]), (.slice m_a m_n m_c)] w0 R = S36 s_0a s_0n s_0c s_1a s_1n s_1c s_2a s_2n s_2c m_a m_n m_c w0 R := by kernel_rfl
set_option maxRecDepth 100000 in
theorem S36_calls (s_0a : Option Addr) (s_0n : Nat) (s_0c : Nat) (s_1a : Option Addr) (s_1n : Nat) (s_1c : Nat) (s_2a : Option Addr) (s_2n : Nat) (s_2c : Nat) (m_a : Option Addr) (m_n : Nat) (m_c : Nat) (w0 : World) (R : Value → World → Prop) (h : S36 s_0a s_0n s_0c s_1a s_1n s_1c s_2a s_2n s_2c m_a m_n m_c w0 R) : Calls Try.prog 36 #[(.agg #[(.slice s_0a s_0n s_0c), (.slice s_1a s_1n s_1c), (.slice s_2a s_2n s_2c)]), (.slice m_a m_n m_c)] w0 (ret R) := by
  rw [← S36_eq] at h; exact vcFn_sound follows_ Try.func36 h

def S90 (s_0a : Option Addr) (s_0n : Nat) (s_0c : Nat) (s_1a : Option Addr) (s_1n : Nat) (s_1c : Nat) (s_2a : Option Addr) (s_2n : Nat) (s_2c : Nat) (m_a : Option Addr) (m_n : Nat) (m_c : Nat) (w0 : World) (R : Value → World → Prop) : Prop :=
 wr Try.prog (Instr.box 43 (.agg #[(.slice s_0a s_0n s_0c), (.slice s_1a s_1n s_1c), (.slice s_2a s_2n s_2c)])) (.one .addr) w0 fun (x1 : Addr) w2 =>
 wr Try.prog (Instr.alloc 90 true (.tuple #[])) (.one .addr) w2 fun (x3 : Addr) w4 =>
 rd Try.prog (Instr.loadAt 43 (.pointer (some x1))) (.agg [.slice, .slice, .slice]) w4 fun (x5 : (Hd3 × Hd3 × Hd3 × Unit)) =>
 call Try.prog 31 [(.agg #[(.slice x5.1.1 x5.1.2.1 x5.1.2.2), (.slice x5.2.1.1 x5.2.1.2.1 x5.2.1.2.2), (.slice x5.2.2.1.1 x5.2.2.1.2.1 x5.2.2.1.2.2)])] (.one (.one (.int .i64))) w4 fun (x6 : Int) w7 =>
 br (x6 != 0) (wu Try.prog (Instr.storeAt 90 (.pointer (some x3)) (.agg #[(.bool false), (.slice none 0 0), (.slice none 0 0)])) w7 fun w8 =>
 rd Try.prog (loadVar 90 x3) (.agg [.bool, .slice, .slice]) w8 fun (x9 : (Bool × Hd3 × Hd3 × Unit)) =>
 R (.tuple #[(.slice none 0 0), (.agg #[(.bool x9.1), (.slice x9.2.1.1 x9.2.1.2.1 x9.2.1.2.2), (.slice x9.2.2.1.1 x9.2.2.1.2.1 x9.2.2.1.2.2)]), (.int .i64 x6)]) w8)
 (rd Try.prog (Instr.loadAt 41 (.pointer (some (Addr.add x1 1)))) (.one .slice) w7 fun (x10 : Hd3) =>
 br (((m_n : Nat) : Int) != ((x10.2.1 : Nat) : Int)) (wu Try.prog (Instr.storeAt 90 (.pointer (some x3)) (.agg #[(.bool false), (.slice none 0 0), (.slice none 0 0)])) w7 fun w11 =>
 rd Try.prog (loadVar 90 x3) (.agg [.bool, .slice, .slice]) w11 fun (x12 : (Bool × Hd3 × Hd3 × Unit)) =>
 R (.tuple #[(.slice none 0 0), (.agg #[(.bool x12.1), (.slice x12.2.1.1 x12.2.1.2.1 x12.2.1.2.2), (.slice x12.2.2.1.1 x12.2.2.1.2.1 x12.2.2.1.2.2)]), (.int .i64 9)]) w11)
 (loop (T := (Int × Unit)) (0, ()) w7 fun (again13 : (Int × Unit) → World → Prop) (s14 : (Int × Unit)) w15 => ∀ _ : Nat → Value,
 br (decide (s14.1 < ((m_n : Nat) : Int))) (rdp Try.prog (Instr.indexAt 33 (.slice m_a m_n m_c) (.int .i64 s14.1)) (.one .addr) fun (x16 : Addr) =>
 rd Try.prog (Instr.loadAt 23 (.pointer (some x16))) (.agg [(.int .i64), (.int .i64)]) w15 fun (x17 : (Int × Int × Unit)) =>
 call Try.prog 15 [(.agg #[(.int .i64 x17.1), (.int .i64 x17.2.1)])] (.one (.one .bool)) w15 fun (x18 : Bool) w19 =>
 br (!x18) (wu Try.prog (Instr.storeAt 90 (.pointer (some x3)) (.agg #[(.bool false), (.slice none 0 0), (.slice none 0 0)])) w19 fun w20 =>
 rd Try.prog (loadVar 90 x3) (.agg [.bool, .slice, .slice]) w20 fun (x21 : (Bool × Hd3 × Hd3 × Unit)) =>
 R (.tuple #[(.slice none 0 0), (.agg #[(.bool x21.1), (.slice x21.2.1.1 x21.2.1.2.1 x21.2.1.2.2), (.slice x21.2.2.1.1 x21.2.2.1.2.1 x21.2.2.1.2.2)]), (.int .i64 1)]) w20)
 (z (IntKind.wrap .i64 (s14.1 + 1)) fun (z22 : Int) =>
 again13 (z22, ()) w19))
 (loop (T := (Hd3 × Int × Unit)) ((none, 0, 0), 0, ()) w15 fun (again23 : (Hd3 × Int × Unit) → World → Prop) (s24 : (Hd3 × Int × Unit)) w25 => ∀ _ : Nat → Value,
 rd Try.prog (Instr.loadAt 40 (.pointer (some x1))) (.one .slice) w25 fun (x26 : Hd3) =>
 br (decide (s24.2.1 < ((x26.2.1 : Nat) : Int))) (call Try.prog 83 [(.int .i64 0)] (.one (.agg [.bool, .slice, .slice])) w25 fun (x27 : (Bool × Hd3 × Hd3 × Unit)) w28 =>
 wr Try.prog (Instr.alloc 90 true (.tuple #[])) (.one .addr) w28 fun (x29 : Addr) w30 =>
 wu Try.prog (Instr.storeAt 90 (.pointer (some x29)) (.agg #[(.bool x27.1), (.slice x27.2.1.1 x27.2.1.2.1 x27.2.1.2.2), (.slice x27.2.2.1.1 x27.2.2.1.2.1 x27.2.2.1.2.2)])) w30 fun w31 =>
 loop (T := (Int × Unit)) (0, ()) w31 fun (again32 : (Int × Unit) → World → Prop) (s33 : (Int × Unit)) w34 => ∀ _ : Nat → Value,
 br (decide (s33.1 < ((m_n : Nat) : Int))) (join (T := (Unit)) (fun (_s36 : (Unit)) w37 => ∀ _ : Nat → Value,
 z (IntKind.wrap .i64 (s33.1 + 1)) fun (z38 : Int) =>
 again32 (z38, ()) w37)
  fun (K35 : (Unit) → World → Prop) =>
 rdp Try.prog (Instr.indexAt 33 (.slice m_a m_n m_c) (.int .i64 s33.1)) (.one .addr) fun (x39 : Addr) =>
 rd Try.prog (Instr.loadAt 2 (.pointer (some x39))) (.one (.int .i64)) w34 fun (x40 : Int) =>
 br (x40 != 0) (rd Try.prog (Instr.loadAt 41 (.pointer (some (Addr.add x1 1)))) (.one .slice) w34 fun (x41 : Hd3) =>
 rdp Try.prog (Instr.indexAt 41 (.slice x41.1 x41.2.1 x41.2.2) (.int .i64 s33.1)) (.one .addr) fun (x42 : Addr) =>
 rd Try.prog (Instr.loadAt 40 (.pointer (some x42))) (.one .slice) w34 fun (x43 : Hd3) =>
 rdp Try.prog (Instr.indexAt 40 (.slice x43.1 x43.2.1 x43.2.2) (.int .i64 s24.2.1)) (.one .addr) fun (x44 : Addr) =>
 rd Try.prog (Instr.loadAt 2 (.pointer (some x44))) (.one (.int .i64)) w34 fun (x45 : Int) =>
 br (x45 != 0) (drw w34 fun w46 => flEx fun F47 =>
 rd Try.prog (Instr.loadAt 90 (.pointer (some x29))) (.agg [.bool, .slice, .slice]) w46 fun (x48 : (Bool × Hd3 × Hd3 × Unit)) =>
 rdp Try.prog (Instr.indexAt 33 (.slice m_a m_n m_c) (.int .i64 s33.1)) (.one .addr) fun (x49 : Addr) =>
 rd Try.prog (Instr.loadAt 23 (.pointer (some x49))) (.agg [(.int .i64), (.int .i64)]) w46 fun (x50 : (Int × Int × Unit)) =>
 flc bel w46 (fun _w52 => True) (fun w51 =>
   call Try.prog 63 [(.agg #[(.int .i64 x50.1), (.int .i64 x50.2.1)])] (.one (.agg [.bool, .slice, .slice])) w51 fun (x53 : (Bool × Hd3 × Hd3 × Unit)) w54 =>
 (bel w51 w54 ∧ F47 5 [(.agg #[(.int .i64 x50.1), (.int .i64 x50.2.1)])] (.agg #[(.bool x53.1), (.slice x53.2.1.1 x53.2.1.2.1 x53.2.1.2.2), (.slice x53.2.2.1.1 x53.2.2.1.2.1 x53.2.2.1.2.2)]) w54))
  fun (x55 : (Bool × Hd3 × Hd3 × Unit)) =>
 rd Try.prog (Instr.loadAt 41 (.pointer (some (Addr.add x1 1)))) (.one .slice) w46 fun (x56 : Hd3) =>
 rdp Try.prog (Instr.indexAt 41 (.slice x56.1 x56.2.1 x56.2.2) (.int .i64 s33.1)) (.one .addr) fun (x57 : Addr) =>
 rd Try.prog (Instr.loadAt 40 (.pointer (some x57))) (.one .slice) w46 fun (x58 : Hd3) =>
 rdp Try.prog (Instr.indexAt 40 (.slice x58.1 x58.2.1 x58.2.2) (.int .i64 s24.2.1)) (.one .addr) fun (x59 : Addr) =>
 rd Try.prog (Instr.loadAt 2 (.pointer (some x59))) (.one (.int .i64)) w46 fun (x60 : Int) =>
 flc bel w46 (fun w62 => F47 5 [(.agg #[(.int .i64 x50.1), (.int .i64 x50.2.1)])] (.agg #[(.bool x55.1), (.slice x55.2.1.1 x55.2.1.2.1 x55.2.1.2.2), (.slice x55.2.2.1.1 x55.2.2.1.2.1 x55.2.2.1.2.2)]) w62 ∧ True) (fun w61 =>
   call Try.prog 83 [(.int .i64 x60)] (.one (.agg [.bool, .slice, .slice])) w61 fun (x63 : (Bool × Hd3 × Hd3 × Unit)) w64 =>
 (bel w61 w64 ∧ F47 14 [(.int .i64 x60)] (.agg #[(.bool x63.1), (.slice x63.2.1.1 x63.2.1.2.1 x63.2.1.2.2), (.slice x63.2.2.1.1 x63.2.2.1.2.1 x63.2.2.1.2.2)]) w64))
  fun (x65 : (Bool × Hd3 × Hd3 × Unit)) =>
 flc bel w46 (fun w67 => F47 14 [(.int .i64 x60)] (.agg #[(.bool x65.1), (.slice x65.2.1.1 x65.2.1.2.1 x65.2.1.2.2), (.slice x65.2.2.1.1 x65.2.2.1.2.1 x65.2.2.1.2.2)]) w67 ∧ F47 5 [(.agg #[(.int .i64 x50.1), (.int .i64 x50.2.1)])] (.agg #[(.bool x55.1), (.slice x55.2.1.1 x55.2.1.2.1 x55.2.1.2.2), (.slice x55.2.2.1.1 x55.2.2.1.2.1 x55.2.2.1.2.2)]) w67 ∧ True) (fun w66 =>
   call Try.prog 69 [(.agg #[(.bool x55.1), (.slice x55.2.1.1 x55.2.1.2.1 x55.2.1.2.2), (.slice x55.2.2.1.1 x55.2.2.1.2.1 x55.2.2.1.2.2)]), (.agg #[(.bool x65.1), (.slice x65.2.1.1 x65.2.1.2.1 x65.2.1.2.2), (.slice x65.2.2.1.1 x65.2.2.1.2.1 x65.2.2.1.2.2)])] (.one (.agg [.bool, .slice, .slice])) w66 fun (x68 : (Bool × Hd3 × Hd3 × Unit)) w69 =>
 (bel w66 w69 ∧ F47 15 [(.agg #[(.bool x55.1), (.slice x55.2.1.1 x55.2.1.2.1 x55.2.1.2.2), (.slice x55.2.2.1.1 x55.2.2.1.2.1 x55.2.2.1.2.2)]), (.agg #[(.bool x65.1), (.slice x65.2.1.1 x65.2.1.2.1 x65.2.1.2.2), (.slice x65.2.2.1.1 x65.2.2.1.2.1 x65.2.2.1.2.2)])] (.agg #[(.bool x68.1), (.slice x68.2.1.1 x68.2.1.2.1 x68.2.1.2.2), (.slice x68.2.2.1.1 x68.2.2.1.2.1 x68.2.2.1.2.2)]) w69))
  fun (x70 : (Bool × Hd3 × Hd3 × Unit)) =>
 flend bel w46 (fun w72 => F47 15 [(.agg #[(.bool x55.1), (.slice x55.2.1.1 x55.2.1.2.1 x55.2.1.2.2), (.slice x55.2.2.1.1 x55.2.2.1.2.1 x55.2.2.1.2.2)]), (.agg #[(.bool x65.1), (.slice x65.2.1.1 x65.2.1.2.1 x65.2.1.2.2), (.slice x65.2.2.1.1 x65.2.2.1.2.1 x65.2.2.1.2.2)])] (.agg #[(.bool x70.1), (.slice x70.2.1.1 x70.2.1.2.1 x70.2.1.2.2), (.slice x70.2.2.1.1 x70.2.2.1.2.1 x70.2.2.1.2.2)]) w72 ∧ F47 14 [(.int .i64 x60)] (.agg #[(.bool x65.1), (.slice x65.2.1.1 x65.2.1.2.1 x65.2.1.2.2), (.slice x65.2.2.1.1 x65.2.2.1.2.1 x65.2.2.1.2.2)]) w72 ∧ F47 5 [(.agg #[(.int .i64 x50.1), (.int .i64 x50.2.1)])] (.agg #[(.bool x55.1), (.slice x55.2.1.1 x55.2.1.2.1 x55.2.1.2.2), (.slice x55.2.2.1.1 x55.2.2.1.2.1 x55.2.2.1.2.2)]) w72 ∧ True) fun w71 =>
 call Try.prog 62 [(.agg #[(.bool x48.1), (.slice x48.2.1.1 x48.2.1.2.1 x48.2.1.2.2), (.slice x48.2.2.1.1 x48.2.2.1.2.1 x48.2.2.1.2.2)]), (.agg #[(.bool x70.1), (.slice x70.2.1.1 x70.2.1.2.1 x70.2.1.2.2), (.slice x70.2.2.1.1 x70.2.2.1.2.1 x70.2.2.1.2.2)])] (.one (.agg [.bool, .slice, .slice])) w71 fun (x73 : (Bool × Hd3 × Hd3 × Unit)) w74 =>
 wu Try.prog (Instr.storeAt 90 (.pointer (some x29)) (.agg #[(.bool x73.1), (.slice x73.2.1.1 x73.2.1.2.1 x73.2.1.2.2), (.slice x73.2.2.1.1 x73.2.2.1.2.1 x73.2.2.1.2.2)])) w74 fun w75 =>
 K35 (()) w75)
 (K35 (()) w34))
 (K35 (()) w34))
 (rd Try.prog (Instr.loadAt 90 (.pointer (some x29))) (.agg [.bool, .slice, .slice]) w34 fun (x76 : (Bool × Hd3 × Hd3 × Unit)) =>
 wr Try.prog (Instr.buildSlice 112 1 #[(0, (.agg #[(.bool x76.1), (.slice x76.2.1.1 x76.2.1.2.1 x76.2.1.2.2), (.slice x76.2.2.1.1 x76.2.2.1.2.1 x76.2.2.1.2.2)]))]) (.one .slice) w34 fun (x77 : Hd3) w78 =>
 wr Try.prog (Builtin.append_ #[112, 112] 112 #[(.slice s24.1.1 s24.1.2.1 s24.1.2.2), (.slice x77.1 x77.2.1 x77.2.2)]) (.one .slice) w78 fun (x79 : Hd3) w80 =>
 z (IntKind.wrap .i64 (s24.2.1 + 1)) fun (z81 : Int) =>
 again23 ((x79.1, x79.2.1, x79.2.2), z81, ()) w80))
 (call Try.prog 83 [(.int .i64 0)] (.one (.agg [.bool, .slice, .slice])) w25 fun (x82 : (Bool × Hd3 × Hd3 × Unit)) w83 =>
 wr Try.prog (Instr.alloc 90 true (.tuple #[])) (.one .addr) w83 fun (x84 : Addr) w85 =>
 wu Try.prog (Instr.storeAt 90 (.pointer (some x84)) (.agg #[(.bool x82.1), (.slice x82.2.1.1 x82.2.1.2.1 x82.2.1.2.2), (.slice x82.2.2.1.1 x82.2.2.1.2.1 x82.2.2.1.2.2)])) w85 fun w86 =>
 loop (T := (Int × Unit)) (0, ()) w86 fun (again87 : (Int × Unit) → World → Prop) (s88 : (Int × Unit)) w89 => ∀ _ : Nat → Value,
 br (decide (s88.1 < ((m_n : Nat) : Int))) (drw w89 fun w90 => flEx fun F91 =>
 rd Try.prog (Instr.loadAt 90 (.pointer (some x84))) (.agg [.bool, .slice, .slice]) w90 fun (x92 : (Bool × Hd3 × Hd3 × Unit)) =>
 rdp Try.prog (Instr.indexAt 33 (.slice m_a m_n m_c) (.int .i64 s88.1)) (.one .addr) fun (x93 : Addr) =>
 rd Try.prog (Instr.loadAt 23 (.pointer (some x93))) (.agg [(.int .i64), (.int .i64)]) w90 fun (x94 : (Int × Int × Unit)) =>
 flc bel w90 (fun _w96 => True) (fun w95 =>
   call Try.prog 63 [(.agg #[(.int .i64 x94.1), (.int .i64 x94.2.1)])] (.one (.agg [.bool, .slice, .slice])) w95 fun (x97 : (Bool × Hd3 × Hd3 × Unit)) w98 =>
 (bel w95 w98 ∧ F91 5 [(.agg #[(.int .i64 x94.1), (.int .i64 x94.2.1)])] (.agg #[(.bool x97.1), (.slice x97.2.1.1 x97.2.1.2.1 x97.2.1.2.2), (.slice x97.2.2.1.1 x97.2.2.1.2.1 x97.2.2.1.2.2)]) w98))
  fun (x99 : (Bool × Hd3 × Hd3 × Unit)) =>
 rd Try.prog (Instr.loadAt 40 (.pointer (some (Addr.add x1 2)))) (.one .slice) w90 fun (x100 : Hd3) =>
 rdp Try.prog (Instr.indexAt 40 (.slice x100.1 x100.2.1 x100.2.2) (.int .i64 s88.1)) (.one .addr) fun (x101 : Addr) =>
 rd Try.prog (Instr.loadAt 2 (.pointer (some x101))) (.one (.int .i64)) w90 fun (x102 : Int) =>
 flc bel w90 (fun w104 => F91 5 [(.agg #[(.int .i64 x94.1), (.int .i64 x94.2.1)])] (.agg #[(.bool x99.1), (.slice x99.2.1.1 x99.2.1.2.1 x99.2.1.2.2), (.slice x99.2.2.1.1 x99.2.2.1.2.1 x99.2.2.1.2.2)]) w104 ∧ True) (fun w103 =>
   call Try.prog 83 [(.int .i64 x102)] (.one (.agg [.bool, .slice, .slice])) w103 fun (x105 : (Bool × Hd3 × Hd3 × Unit)) w106 =>
 (bel w103 w106 ∧ F91 11 [(.int .i64 x102)] (.agg #[(.bool x105.1), (.slice x105.2.1.1 x105.2.1.2.1 x105.2.1.2.2), (.slice x105.2.2.1.1 x105.2.2.1.2.1 x105.2.2.1.2.2)]) w106))
  fun (x107 : (Bool × Hd3 × Hd3 × Unit)) =>
 flc bel w90 (fun w109 => F91 11 [(.int .i64 x102)] (.agg #[(.bool x107.1), (.slice x107.2.1.1 x107.2.1.2.1 x107.2.1.2.2), (.slice x107.2.2.1.1 x107.2.2.1.2.1 x107.2.2.1.2.2)]) w109 ∧ F91 5 [(.agg #[(.int .i64 x94.1), (.int .i64 x94.2.1)])] (.agg #[(.bool x99.1), (.slice x99.2.1.1 x99.2.1.2.1 x99.2.1.2.2), (.slice x99.2.2.1.1 x99.2.2.1.2.1 x99.2.2.1.2.2)]) w109 ∧ True) (fun w108 =>
   call Try.prog 69 [(.agg #[(.bool x99.1), (.slice x99.2.1.1 x99.2.1.2.1 x99.2.1.2.2), (.slice x99.2.2.1.1 x99.2.2.1.2.1 x99.2.2.1.2.2)]), (.agg #[(.bool x107.1), (.slice x107.2.1.1 x107.2.1.2.1 x107.2.1.2.2), (.slice x107.2.2.1.1 x107.2.2.1.2.1 x107.2.2.1.2.2)])] (.one (.agg [.bool, .slice, .slice])) w108 fun (x110 : (Bool × Hd3 × Hd3 × Unit)) w111 =>
 (bel w108 w111 ∧ F91 12 [(.agg #[(.bool x99.1), (.slice x99.2.1.1 x99.2.1.2.1 x99.2.1.2.2), (.slice x99.2.2.1.1 x99.2.2.1.2.1 x99.2.2.1.2.2)]), (.agg #[(.bool x107.1), (.slice x107.2.1.1 x107.2.1.2.1 x107.2.1.2.2), (.slice x107.2.2.1.1 x107.2.2.1.2.1 x107.2.2.1.2.2)])] (.agg #[(.bool x110.1), (.slice x110.2.1.1 x110.2.1.2.1 x110.2.1.2.2), (.slice x110.2.2.1.1 x110.2.2.1.2.1 x110.2.2.1.2.2)]) w111))
  fun (x112 : (Bool × Hd3 × Hd3 × Unit)) =>
 flend bel w90 (fun w114 => F91 12 [(.agg #[(.bool x99.1), (.slice x99.2.1.1 x99.2.1.2.1 x99.2.1.2.2), (.slice x99.2.2.1.1 x99.2.2.1.2.1 x99.2.2.1.2.2)]), (.agg #[(.bool x107.1), (.slice x107.2.1.1 x107.2.1.2.1 x107.2.1.2.2), (.slice x107.2.2.1.1 x107.2.2.1.2.1 x107.2.2.1.2.2)])] (.agg #[(.bool x112.1), (.slice x112.2.1.1 x112.2.1.2.1 x112.2.1.2.2), (.slice x112.2.2.1.1 x112.2.2.1.2.1 x112.2.2.1.2.2)]) w114 ∧ F91 11 [(.int .i64 x102)] (.agg #[(.bool x107.1), (.slice x107.2.1.1 x107.2.1.2.1 x107.2.1.2.2), (.slice x107.2.2.1.1 x107.2.2.1.2.1 x107.2.2.1.2.2)]) w114 ∧ F91 5 [(.agg #[(.int .i64 x94.1), (.int .i64 x94.2.1)])] (.agg #[(.bool x99.1), (.slice x99.2.1.1 x99.2.1.2.1 x99.2.1.2.2), (.slice x99.2.2.1.1 x99.2.2.1.2.1 x99.2.2.1.2.2)]) w114 ∧ True) fun w113 =>
 call Try.prog 62 [(.agg #[(.bool x92.1), (.slice x92.2.1.1 x92.2.1.2.1 x92.2.1.2.2), (.slice x92.2.2.1.1 x92.2.2.1.2.1 x92.2.2.1.2.2)]), (.agg #[(.bool x112.1), (.slice x112.2.1.1 x112.2.1.2.1 x112.2.1.2.2), (.slice x112.2.2.1.1 x112.2.2.1.2.1 x112.2.2.1.2.2)])] (.one (.agg [.bool, .slice, .slice])) w113 fun (x115 : (Bool × Hd3 × Hd3 × Unit)) w116 =>
 wu Try.prog (Instr.storeAt 90 (.pointer (some x84)) (.agg #[(.bool x115.1), (.slice x115.2.1.1 x115.2.1.2.1 x115.2.1.2.2), (.slice x115.2.2.1.1 x115.2.2.1.2.1 x115.2.2.1.2.2)])) w116 fun w117 =>
 z (IntKind.wrap .i64 (s88.1 + 1)) fun (z118 : Int) =>
 again87 (z118, ()) w117)
 (drw w89 fun w119 =>
 rd Try.prog (Instr.loadAt 90 (.pointer (some x84))) (.agg [.bool, .slice, .slice]) w119 fun (x120 : (Bool × Hd3 × Hd3 × Unit)) =>
 wu Try.prog (Instr.storeAt 90 (.pointer (some x3)) (.agg #[(.bool x120.1), (.slice x120.2.1.1 x120.2.1.2.1 x120.2.1.2.2), (.slice x120.2.2.1.1 x120.2.2.1.2.1 x120.2.2.1.2.2)])) w119 fun w121 =>
 rd Try.prog (loadVar 90 x3) (.agg [.bool, .slice, .slice]) w121 fun (x122 : (Bool × Hd3 × Hd3 × Unit)) =>
 R (.tuple #[(.slice s24.1.1 s24.1.2.1 s24.1.2.2), (.agg #[(.bool x122.1), (.slice x122.2.1.1 x122.2.1.2.1 x122.2.1.2.2), (.slice x122.2.2.1.1 x122.2.2.1.2.1 x122.2.2.1.2.2)]), (.int .i64 0)]) w121)))))
def H90 : Hints := ⟨[(2, 0, [(8, (.one (.int .i64)))]), (2, 2, [(9, (.one .slice)), (10, (.one (.int .i64)))]), (2, 4, [(12, (.one (.int .i64)))]), (1, 5, []), (2, 6, [(14, (.one (.int .i64)))])], [(20, 16), (26, 13), (27, 3)], [], []⟩
set_option maxRecDepth 100000 in
theorem S90_eq (s_0a : Option Addr) (s_0n : Nat) (s_0c : Nat) (s_1a : Option Addr) (s_1n : Nat) (s_1c : Nat) (s_2a : Option Addr) (s_2n : Nat) (s_2c : Nat) (m_a : Option Addr) (m_n : Nat) (m_c : Nat) (w0 : World) (R : Value → World → Prop) : vcFn Try.prog H90 Try.f90 [(.agg #[(.slice s_0a s_0n s_0c), (.slice s_1a s_1n s_1c), (.slice s_2a s_2n s_2c)]), (.slice m_a m_n m_c)] w0 R = S90 s_0a s_0n s_0c s_1a s_1n s_1c s_2a s_2n s_2c m_a m_n m_c w0 R := by kernel_rfl
set_option maxRecDepth 100000 in
theorem S90_calls (s_0a : Option Addr) (s_0n : Nat) (s_0c : Nat) (s_1a : Option Addr) (s_1n : Nat) (s_1c : Nat) (s_2a : Option Addr) (s_2n : Nat) (s_2c : Nat) (m_a : Option Addr) (m_n : Nat) (m_c : Nat) (w0 : World) (R : Value → World → Prop) (h : S90 s_0a s_0n s_0c s_1a s_1n s_1c s_2a s_2n s_2c m_a m_n m_c w0 R) : Calls Try.prog 90 #[(.agg #[(.slice s_0a s_0n s_0c), (.slice s_1a s_1n s_1c), (.slice s_2a s_2n s_2c)]), (.slice m_a m_n m_c)] w0 (ret R) := by
  rw [← S90_eq] at h; exact vcFn_sound follows_ Try.func90 h

def S37 (s_0a : Option Addr) (s_0n : Nat) (s_0c : Nat) (s_1a : Option Addr) (s_1n : Nat) (s_1c : Nat) (s_2a : Option Addr) (s_2n : Nat) (s_2c : Nat) (m_a : Option Addr) (m_n : Nat) (m_c : Nat) (w0 : World) (R : Value → World → Prop) : Prop :=
 wr Try.prog (Instr.box 43 (.agg #[(.slice s_0a s_0n s_0c), (.slice s_1a s_1n s_1c), (.slice s_2a s_2n s_2c)])) (.one .addr) w0 fun (x1 : Addr) w2 =>
 wr Try.prog (Instr.alloc 23 true (.tuple #[])) (.one .addr) w2 fun (x3 : Addr) w4 =>
 rd Try.prog (Instr.loadAt 43 (.pointer (some x1))) (.agg [.slice, .slice, .slice]) w4 fun (x5 : (Hd3 × Hd3 × Hd3 × Unit)) =>
 call Try.prog 90 [(.agg #[(.slice x5.1.1 x5.1.2.1 x5.1.2.2), (.slice x5.2.1.1 x5.2.1.2.1 x5.2.1.2.2), (.slice x5.2.2.1.1 x5.2.2.1.2.1 x5.2.2.1.2.2)]), (.slice m_a m_n m_c)] (.many [(.one .slice), (.agg [.bool, .slice, .slice]), (.one (.int .i64))]) w4 fun (x6 : (Hd3 × (Bool × Hd3 × Hd3 × Unit) × Int × Unit)) w7 =>
 wr Try.prog (Instr.alloc 90 true (.tuple #[])) (.one .addr) w7 fun (x8 : Addr) w9 =>
 wu Try.prog (Instr.storeAt 90 (.pointer (some x8)) (.agg #[(.bool x6.2.1.1), (.slice x6.2.1.2.1.1 x6.2.1.2.1.2.1 x6.2.1.2.1.2.2), (.slice x6.2.1.2.2.1.1 x6.2.1.2.2.1.2.1 x6.2.1.2.2.1.2.2)])) w9 fun w10 =>
 br (x6.2.2.1 != 0) (wu Try.prog (Instr.storeAt 23 (.pointer (some x3)) (.agg #[(.int .i64 0), (.int .i64 0)])) w10 fun w11 =>
 rd Try.prog (loadVar 23 x3) (.agg [(.int .i64), (.int .i64)]) w11 fun (x12 : (Int × Int × Unit)) =>
 R (.tuple #[(.slice none 0 0), (.agg #[(.int .i64 x12.1), (.int .i64 x12.2.1)]), (.int .i64 x6.2.2.1)]) w11)
 (loop (T := (Hd3 × Int × Unit)) ((none, 0, 0), 0, ()) w10 fun (again13 : (Hd3 × Int × Unit) → World → Prop) (s14 : (Hd3 × Int × Unit)) w15 => ∀ _ : Nat → Value,
 br (decide (s14.2.1 < ((x6.1.2.1 : Nat) : Int))) (rdp Try.prog (Instr.indexAt 112 (.slice x6.1.1 x6.1.2.1 x6.1.2.2) (.int .i64 s14.2.1)) (.one .addr) fun (x16 : Addr) =>
 rd Try.prog (Instr.loadAt 90 (.pointer (some x16))) (.agg [.bool, .slice, .slice]) w15 fun (x17 : (Bool × Hd3 × Hd3 × Unit)) =>
 call Try.prog 61 [(.agg #[(.bool x17.1), (.slice x17.2.1.1 x17.2.1.2.1 x17.2.1.2.2), (.slice x17.2.2.1.1 x17.2.2.1.2.1 x17.2.2.1.2.2)])] (.many [(.agg [(.int .i64), (.int .i64)]), (.one (.int .i64))]) w15 fun (x18 : ((Int × Int × Unit) × Int × Unit)) w19 =>
 wr Try.prog (Instr.alloc 23 true (.tuple #[])) (.one .addr) w19 fun (x20 : Addr) w21 =>
 wu Try.prog (Instr.storeAt 23 (.pointer (some x20)) (.agg #[(.int .i64 x18.1.1), (.int .i64 x18.1.2.1)])) w21 fun w22 =>
 br (x18.2.1 != 0) (wu Try.prog (Instr.storeAt 23 (.pointer (some x3)) (.agg #[(.int .i64 0), (.int .i64 0)])) w22 fun w23 =>
 rd Try.prog (loadVar 23 x3) (.agg [(.int .i64), (.int .i64)]) w23 fun (x24 : (Int × Int × Unit)) =>
 R (.tuple #[(.slice none 0 0), (.agg #[(.int .i64 x24.1), (.int .i64 x24.2.1)]), (.int .i64 x18.2.1)]) w23)
 (rd Try.prog (Instr.loadAt 23 (.pointer (some x20))) (.agg [(.int .i64), (.int .i64)]) w22 fun (x25 : (Int × Int × Unit)) =>
 wr Try.prog (Instr.buildSlice 33 1 #[(0, (.agg #[(.int .i64 x25.1), (.int .i64 x25.2.1)]))]) (.one .slice) w22 fun (x26 : Hd3) w27 =>
 wr Try.prog (Builtin.append_ #[33, 33] 33 #[(.slice s14.1.1 s14.1.2.1 s14.1.2.2), (.slice x26.1 x26.2.1 x26.2.2)]) (.one .slice) w27 fun (x28 : Hd3) w29 =>
 z (IntKind.wrap .i64 (s14.2.1 + 1)) fun (z30 : Int) =>
 again13 ((x28.1, x28.2.1, x28.2.2), z30, ()) w29))
 (rd Try.prog (Instr.loadAt 90 (.pointer (some x8))) (.agg [.bool, .slice, .slice]) w15 fun (x31 : (Bool × Hd3 × Hd3 × Unit)) =>
 call Try.prog 61 [(.agg #[(.bool x31.1), (.slice x31.2.1.1 x31.2.1.2.1 x31.2.1.2.2), (.slice x31.2.2.1.1 x31.2.2.1.2.1 x31.2.2.1.2.2)])] (.many [(.agg [(.int .i64), (.int .i64)]), (.one (.int .i64))]) w15 fun (x32 : ((Int × Int × Unit) × Int × Unit)) w33 =>
 wr Try.prog (Instr.alloc 23 true (.tuple #[])) (.one .addr) w33 fun (x34 : Addr) w35 =>
 wu Try.prog (Instr.storeAt 23 (.pointer (some x34)) (.agg #[(.int .i64 x32.1.1), (.int .i64 x32.1.2.1)])) w35 fun w36 =>
 br (x32.2.1 != 0) (wu Try.prog (Instr.storeAt 23 (.pointer (some x3)) (.agg #[(.int .i64 0), (.int .i64 0)])) w36 fun w37 =>
 rd Try.prog (loadVar 23 x3) (.agg [(.int .i64), (.int .i64)]) w37 fun (x38 : (Int × Int × Unit)) =>
 R (.tuple #[(.slice none 0 0), (.agg #[(.int .i64 x38.1), (.int .i64 x38.2.1)]), (.int .i64 x32.2.1)]) w37)
 (drw w36 fun w39 =>
 rd Try.prog (Instr.loadAt 23 (.pointer (some x34))) (.agg [(.int .i64), (.int .i64)]) w39 fun (x40 : (Int × Int × Unit)) =>
 wu Try.prog (Instr.storeAt 23 (.pointer (some x3)) (.agg #[(.int .i64 x40.1), (.int .i64 x40.2.1)])) w39 fun w41 =>
 rd Try.prog (loadVar 23 x3) (.agg [(.int .i64), (.int .i64)]) w41 fun (x42 : (Int × Int × Unit)) =>
 R (.tuple #[(.slice s14.1.1 s14.1.2.1 s14.1.2.2), (.agg #[(.int .i64 x42.1), (.int .i64 x42.2.1)]), (.int .i64 0)]) w41)))
def H37 : Hints := ⟨[(2, 0, [(10, (.one .slice)), (11, (.one (.int .i64)))])], [(15, 3)], [], []⟩
set_option maxRecDepth 100000 in
theorem S37_eq (s_0a : Option Addr) (s_0n : Nat) (s_0c : Nat) (s_1a : Option Addr) (s_1n : Nat) (s_1c : Nat) (s_2a : Option Addr) (s_2n : Nat) (s_2c : Nat) (m_a : Option Addr) (m_n : Nat) (m_c : Nat) (w0 : World) (R : Value → World → Prop) : vcFn Try.prog H37 Try.f37 [(.agg #[(.slice s_0a s_0n s_0c), (.slice s_1a s_1n s_1c), (.slice s_2a s_2n s_2c)]), (.slice m_a m_n m_c)] w0 R = S37 s_0a s_0n s_0c s_1a s_1n s_1c s_2a s_2n s_2c m_a m_n m_c w0 R := by kernel_rfl
set_option maxRecDepth 100000 in
theorem S37_calls (s_0a : Option Addr) (s_0n : Nat) (s_0c : Nat) (s_1a : Option Addr) (s_1n : Nat) (s_1c : Nat) (s_2a : Option Addr) (s_2n : Nat) (s_2c : Nat) (m_a : Option Addr) (m_n : Nat) (m_c : Nat) (w0 : World) (R : Value → World → Prop) (h : S37 s_0a s_0n s_0c s_1a s_1n s_1c s_2a s_2n s_2c m_a m_n m_c w0 R) : Calls Try.prog 37 #[(.agg #[(.slice s_0a s_0n s_0c), (.slice s_1a s_1n s_1c), (.slice s_2a s_2n s_2c)]), (.slice m_a m_n m_c)] w0 (ret R) := by
  rw [← S37_eq] at h; exact vcFn_sound follows_ Try.func37 h

def S112b (s_a : Option Addr) (s_n : Nat) (s_c : Nat) (w0 : World) (R : Value → World → Prop) : Prop :=
 loop (T := (Int × Unit)) (0, ()) w0 fun (again1 : (Int × Unit) → World → Prop) (s2 : (Int × Unit)) w3 => ∀ _ : Nat → Value,
 br (decide (s2.1 < ((s_n : Nat) : Int))) (rdp Try.prog (Instr.indexAt 40 (.slice s_a s_n s_c) (.int .i64 s2.1)) (.one .addr) fun (x4 : Addr) =>
 rd Try.prog (Instr.loadAt 2 (.pointer (some x4))) (.one (.int .i64)) w3 fun (x5 : Int) =>
 call Try.prog 93 [(.int .i64 x5)] (.one (.one .bool)) w3 fun (x6 : Bool) w7 =>
 br x6 (R (.int .i64 s2.1) w7)
 (z (IntKind.wrap .i64 (s2.1 + 1)) fun (z8 : Int) =>
 again1 (z8, ()) w7))
 (R (.int .i64 (-1)) w3)
def H112b : Hints := ⟨[(2, 0, [(8, (.one (.int .i64)))])], [], [], []⟩
set_option maxRecDepth 100000 in
theorem S112b_eq (s_a : Option Addr) (s_n : Nat) (s_c : Nat) (w0 : World) (R : Value → World → Prop) : vcFn Try.prog H112b Try.f112 [(.slice s_a s_n s_c), (.func (.func 93) #[] #[])] w0 R = S112b s_a s_n s_c w0 R := by kernel_rfl
set_option maxRecDepth 100000 in
theorem S112b_calls (s_a : Option Addr) (s_n : Nat) (s_c : Nat) (w0 : World) (R : Value → World → Prop) (h : S112b s_a s_n s_c w0 R) : Calls Try.prog 112 #[(.slice s_a s_n s_c), (.func (.func 93) #[] #[])] w0 (ret R) := by
  rw [← S112b_eq] at h; exact vcFn_sound follows_ Try.func112 h

def S74b (s_a : Option Addr) (s_n : Nat) (s_c : Nat) (w0 : World) (R : Value → World → Prop) : Prop :=
 call Try.prog 112 [(.slice s_a s_n s_c), (.func (.func 93) #[] #[])] (.one (.one (.int .i64))) w0 fun (x1 : Int) w2 =>
 R (.bool (decide (x1 ≥ 0))) w2
def H74b : Hints := ⟨[], [], [], []⟩
set_option maxRecDepth 100000 in
theorem S74b_eq (s_a : Option Addr) (s_n : Nat) (s_c : Nat) (w0 : World) (R : Value → World → Prop) : vcFn Try.prog H74b Try.f74 [(.slice s_a s_n s_c), (.func (.func 93) #[] #[])] w0 R = S74b s_a s_n s_c w0 R := by kernel_rfl
set_option maxRecDepth 100000 in
theorem S74b_calls (s_a : Option Addr) (s_n : Nat) (s_c : Nat) (w0 : World) (R : Value → World → Prop) (h : S74b s_a s_n s_c w0 R) : Calls Try.prog 74 #[(.slice s_a s_n s_c), (.func (.func 93) #[] #[])] w0 (ret R) := by
  rw [← S74b_eq] at h; exact vcFn_sound follows_ Try.func74 h

def S93 (n_ : Int) (w0 : World) (R : Value → World → Prop) : Prop :=
 call Try.prog 76 [(.int .i64 n_), (.int .i64 (-1000000000)), (.int .i64 1000000000)] (.one (.one .bool)) w0 fun (x1 : Bool) w2 =>
 R (.bool x1) w2
def H93 : Hints := ⟨[], [], [], []⟩
set_option maxRecDepth 100000 in
theorem S93_eq (n_ : Int) (w0 : World) (R : Value → World → Prop) : vcFn Try.prog H93 Try.f93 [(.int .i64 n_)] w0 R = S93 n_ w0 R := by kernel_rfl
set_option maxRecDepth 100000 in
theorem S93_calls (n_ : Int) (w0 : World) (R : Value → World → Prop) (h : S93 n_ w0 R) : Calls Try.prog 93 #[(.int .i64 n_)] w0 (ret R) := by
  rw [← S93_eq] at h; exact vcFn_sound follows_ Try.func93 h

def S92 (l_a : Option Addr) (l_n : Nat) (l_c : Nat) (cap0 : Addr) (w0 : World) (R : Value → World → Prop) : Prop :=
 rd Try.prog (Instr.loadAt 40 (.pointer (some cap0))) (.one .slice) w0 fun (x1 : Hd3) =>
 br (((l_n : Nat) : Int) != ((x1.2.1 : Nat) : Int)) (R (.bool true) w0)
 (call Try.prog 74 [(.slice l_a l_n l_c), (.func (.func 93) #[] #[])] (.one (.one .bool)) w0 fun (x2 : Bool) w3 =>
 R (.bool x2) w3)
def H92 : Hints := ⟨[], [], [], []⟩
set_option maxRecDepth 100000 in
theorem S92_eq (l_a : Option Addr) (l_n : Nat) (l_c : Nat) (cap0 : Addr) (w0 : World) (R : Value → World → Prop) : vcFn Try.prog H92 Try.f92 [(.slice l_a l_n l_c), (.pointer (some cap0))] w0 R = S92 l_a l_n l_c cap0 w0 R := by kernel_rfl
set_option maxRecDepth 100000 in
theorem S92_calls (l_a : Option Addr) (l_n : Nat) (l_c : Nat) (cap0 : Addr) (w0 : World) (R : Value → World → Prop) (h : S92 l_a l_n l_c cap0 w0 R) : Calls Try.prog 92 #[(.slice l_a l_n l_c), (.pointer (some cap0))] w0 (ret R) := by
  rw [← S92_eq] at h; exact vcFn_sound follows_ Try.func92 h

def S41 (s_0a : Option Addr) (s_0n : Nat) (s_0c : Nat) (s_1a : Option Addr) (s_1n : Nat) (s_1c : Nat) (s_2a : Option Addr) (s_2n : Nat) (s_2c : Nat) (lower_a : Option Addr) (lower_n : Nat) (lower_c : Nat) (upper_a : Option Addr) (upper_n : Nat) (upper_c : Nat) (m_a : Option Addr) (m_n : Nat) (m_c : Nat) (w0 : World) (R : Value → World → Prop) : Prop :=
 wr Try.prog (Instr.box 43 (.agg #[(.slice s_0a s_0n s_0c), (.slice s_1a s_1n s_1c), (.slice s_2a s_2n s_2c)])) (.one .addr) w0 fun (x1 : Addr) w2 =>
 rd Try.prog (Instr.loadAt 43 (.pointer (some x1))) (.agg [.slice, .slice, .slice]) w2 fun (x3 : (Hd3 × Hd3 × Hd3 × Unit)) =>
 call Try.prog 36 [(.agg #[(.slice x3.1.1 x3.1.2.1 x3.1.2.2), (.slice x3.2.1.1 x3.2.1.2.1 x3.2.1.2.2), (.slice x3.2.2.1.1 x3.2.2.1.2.1 x3.2.2.1.2.2)]), (.slice m_a m_n m_c)] (.many [(.one .slice), (.agg [(.int .i64), (.int .i64)]), (.one (.int .i64))]) w2 fun (x4 : (Hd3 × (Int × Int × Unit) × Int × Unit)) w5 =>
 wr Try.prog (Instr.alloc 23 true (.tuple #[])) (.one .addr) w5 fun (x6 : Addr) w7 =>
 wu Try.prog (Instr.storeAt 23 (.pointer (some x6)) (.agg #[(.int .i64 x4.2.1.1), (.int .i64 x4.2.1.2.1)])) w7 fun w8 =>
 br (x4.2.2.1 != 0) (R (.bool false) w8)
 (call Try.prog 92 [(.slice lower_a lower_n lower_c), (.pointer (some x1))] (.one (.one .bool)) w8 fun (x9 : Bool) w10 =>
 br x9 (R (.bool false) w10)
 (call Try.prog 92 [(.slice upper_a upper_n upper_c), (.pointer (some x1))] (.one (.one .bool)) w10 fun (x11 : Bool) w12 =>
 br x11 (R (.bool false) w12)
 (call Try.prog 81 [(.int .i64 0)] (.one (.agg [.bool, .slice, .slice])) w12 fun (x13 : (Bool × Hd3 × Hd3 × Unit)) w14 =>
 call Try.prog 81 [(.int .i64 0)] (.one (.agg [.bool, .slice, .slice])) w14 fun (x15 : (Bool × Hd3 × Hd3 × Unit)) w16 =>
 wr Try.prog (Instr.alloc 81 true (.tuple #[])) (.one .addr) w16 fun (x17 : Addr) w18 =>
 wr Try.prog (Instr.alloc 81 true (.tuple #[])) (.one .addr) w18 fun (x19 : Addr) w20 =>
 wu Try.prog (Instr.storeAt 81 (.pointer (some x17)) (.agg #[(.bool x13.1), (.slice x13.2.1.1 x13.2.1.2.1 x13.2.1.2.2), (.slice x13.2.2.1.1 x13.2.2.1.2.1 x13.2.2.1.2.2)])) w20 fun w21 =>
 wu Try.prog (Instr.storeAt 81 (.pointer (some x19)) (.agg #[(.bool x15.1), (.slice x15.2.1.1 x15.2.1.2.1 x15.2.1.2.2), (.slice x15.2.2.1.1 x15.2.2.1.2.1 x15.2.2.1.2.2)])) w21 fun w22 =>
 loop (T := (Int × Unit)) (0, ()) w22 fun (again23 : (Int × Unit) → World → Prop) (s24 : (Int × Unit)) w25 => ∀ _ : Nat → Value,
 br (decide (s24.1 < ((x4.1.2.1 : Nat) : Int))) (join (T := (Unit)) (fun (_s27 : (Unit)) w28 => ∀ _ : Nat → Value,
 z (IntKind.wrap .i64 (s24.1 + 1)) fun (z29 : Int) =>
 again23 (z29, ()) w28)
  fun (K26 : (Unit) → World → Prop) =>
 rdp Try.prog (Instr.indexAt 33 (.slice x4.1.1 x4.1.2.1 x4.1.2.2) (.int .i64 s24.1)) (.one .addr) fun (x30 : Addr) =>
 rd Try.prog (Instr.loadAt 23 (.pointer (some x30))) (.agg [(.int .i64), (.int .i64)]) w25 fun (x31 : (Int × Int × Unit)) =>
 wr Try.prog (Instr.alloc 23 true (.tuple #[])) (.one .addr) w25 fun (x32 : Addr) w33 =>
 wu Try.prog (Instr.storeAt 23 (.pointer (some x32)) (.agg #[(.int .i64 x31.1), (.int .i64 x31.2.1)])) w33 fun w34 =>
 drw w34 fun w35 =>
 rdp Try.prog (Instr.indexAt 40 (.slice lower_a lower_n lower_c) (.int .i64 s24.1)) (.one .addr) fun (x36 : Addr) =>
 rd Try.prog (Instr.loadAt 2 (.pointer (some x36))) (.one (.int .i64)) w35 fun (x37 : Int) =>
 rdp Try.prog (Instr.indexAt 40 (.slice upper_a upper_n upper_c) (.int .i64 s24.1)) (.one .addr) fun (x38 : Addr) =>
 rd Try.prog (Instr.loadAt 2 (.pointer (some x38))) (.one (.int .i64)) w35 fun (x39 : Int) =>
 br (decide (x37 > x39)) (R (.bool true) w35)
 (rd Try.prog (Instr.loadAt 2 (.pointer (some x32))) (.one (.int .i64)) w35 fun (x40 : Int) =>
 br (x40 == 0) (K26 (()) w35)
 (join (T := (Int × Int × Unit)) (fun (s42 : (Int × Int × Unit)) w43 => ∀ _ : Nat → Value,
 drw w43 fun w44 => flEx fun F45 =>
 rd Try.prog (Instr.loadAt 81 (.pointer (some x17))) (.agg [.bool, .slice, .slice]) w44 fun (x46 : (Bool × Hd3 × Hd3 × Unit)) =>
 rd Try.prog (Instr.loadAt 23 (.pointer (some x32))) (.agg [(.int .i64), (.int .i64)]) w44 fun (x47 : (Int × Int × Unit)) =>
 flc bel w44 (fun _w49 => True) (fun w48 =>
   call Try.prog 56 [(.agg #[(.int .i64 x47.1), (.int .i64 x47.2.1)])] (.one (.agg [.bool, .slice, .slice])) w48 fun (x50 : (Bool × Hd3 × Hd3 × Unit)) w51 =>
 (bel w48 w51 ∧ F45 2 [(.agg #[(.int .i64 x47.1), (.int .i64 x47.2.1)])] (.agg #[(.bool x50.1), (.slice x50.2.1.1 x50.2.1.2.1 x50.2.1.2.2), (.slice x50.2.2.1.1 x50.2.2.1.2.1 x50.2.2.1.2.2)]) w51))
  fun (x52 : (Bool × Hd3 × Hd3 × Unit)) =>
 flc bel w44 (fun w54 => F45 2 [(.agg #[(.int .i64 x47.1), (.int .i64 x47.2.1)])] (.agg #[(.bool x52.1), (.slice x52.2.1.1 x52.2.1.2.1 x52.2.1.2.2), (.slice x52.2.2.1.1 x52.2.2.1.2.1 x52.2.2.1.2.2)]) w54 ∧ True) (fun w53 =>
   call Try.prog 81 [(.int .i64 s42.1)] (.one (.agg [.bool, .slice, .slice])) w53 fun (x55 : (Bool × Hd3 × Hd3 × Unit)) w56 =>
 (bel w53 w56 ∧ F45 4 [(.int .i64 s42.1)] (.agg #[(.bool x55.1), (.slice x55.2.1.1 x55.2.1.2.1 x55.2.1.2.2), (.slice x55.2.2.1.1 x55.2.2.1.2.1 x55.2.2.1.2.2)]) w56))
  fun (x57 : (Bool × Hd3 × Hd3 × Unit)) =>
 flc bel w44 (fun w59 => F45 4 [(.int .i64 s42.1)] (.agg #[(.bool x57.1), (.slice x57.2.1.1 x57.2.1.2.1 x57.2.1.2.2), (.slice x57.2.2.1.1 x57.2.2.1.2.1 x57.2.2.1.2.2)]) w59 ∧ F45 2 [(.agg #[(.int .i64 x47.1), (.int .i64 x47.2.1)])] (.agg #[(.bool x52.1), (.slice x52.2.1.1 x52.2.1.2.1 x52.2.1.2.2), (.slice x52.2.2.1.1 x52.2.2.1.2.1 x52.2.2.1.2.2)]) w59 ∧ True) (fun w58 =>
   call Try.prog 68 [(.agg #[(.bool x52.1), (.slice x52.2.1.1 x52.2.1.2.1 x52.2.1.2.2), (.slice x52.2.2.1.1 x52.2.2.1.2.1 x52.2.2.1.2.2)]), (.agg #[(.bool x57.1), (.slice x57.2.1.1 x57.2.1.2.1 x57.2.1.2.2), (.slice x57.2.2.1.1 x57.2.2.1.2.1 x57.2.2.1.2.2)])] (.one (.agg [.bool, .slice, .slice])) w58 fun (x60 : (Bool × Hd3 × Hd3 × Unit)) w61 =>
 (bel w58 w61 ∧ F45 5 [(.agg #[(.bool x52.1), (.slice x52.2.1.1 x52.2.1.2.1 x52.2.1.2.2), (.slice x52.2.2.1.1 x52.2.2.1.2.1 x52.2.2.1.2.2)]), (.agg #[(.bool x57.1), (.slice x57.2.1.1 x57.2.1.2.1 x57.2.1.2.2), (.slice x57.2.2.1.1 x57.2.2.1.2.1 x57.2.2.1.2.2)])] (.agg #[(.bool x60.1), (.slice x60.2.1.1 x60.2.1.2.1 x60.2.1.2.2), (.slice x60.2.2.1.1 x60.2.2.1.2.1 x60.2.2.1.2.2)]) w61))
  fun (x62 : (Bool × Hd3 × Hd3 × Unit)) =>
 flend bel w44 (fun w64 => F45 5 [(.agg #[(.bool x52.1), (.slice x52.2.1.1 x52.2.1.2.1 x52.2.1.2.2), (.slice x52.2.2.1.1 x52.2.2.1.2.1 x52.2.2.1.2.2)]), (.agg #[(.bool x57.1), (.slice x57.2.1.1 x57.2.1.2.1 x57.2.1.2.2), (.slice x57.2.2.1.1 x57.2.2.1.2.1 x57.2.2.1.2.2)])] (.agg #[(.bool x62.1), (.slice x62.2.1.1 x62.2.1.2.1 x62.2.1.2.2), (.slice x62.2.2.1.1 x62.2.2.1.2.1 x62.2.2.1.2.2)]) w64 ∧ F45 4 [(.int .i64 s42.1)] (.agg #[(.bool x57.1), (.slice x57.2.1.1 x57.2.1.2.1 x57.2.1.2.2), (.slice x57.2.2.1.1 x57.2.2.1.2.1 x57.2.2.1.2.2)]) w64 ∧ F45 2 [(.agg #[(.int .i64 x47.1), (.int .i64 x47.2.1)])] (.agg #[(.bool x52.1), (.slice x52.2.1.1 x52.2.1.2.1 x52.2.1.2.2), (.slice x52.2.2.1.1 x52.2.2.1.2.1 x52.2.2.1.2.2)]) w64 ∧ True) fun w63 =>
 call Try.prog 60 [(.agg #[(.bool x46.1), (.slice x46.2.1.1 x46.2.1.2.1 x46.2.1.2.2), (.slice x46.2.2.1.1 x46.2.2.1.2.1 x46.2.2.1.2.2)]), (.agg #[(.bool x62.1), (.slice x62.2.1.1 x62.2.1.2.1 x62.2.1.2.2), (.slice x62.2.2.1.1 x62.2.2.1.2.1 x62.2.2.1.2.2)])] (.one (.agg [.bool, .slice, .slice])) w63 fun (x65 : (Bool × Hd3 × Hd3 × Unit)) w66 =>
 wu Try.prog (Instr.storeAt 81 (.pointer (some x17)) (.agg #[(.bool x65.1), (.slice x65.2.1.1 x65.2.1.2.1 x65.2.1.2.2), (.slice x65.2.2.1.1 x65.2.2.1.2.1 x65.2.2.1.2.2)])) w66 fun w67 =>
 drw w67 fun w68 => flEx fun F69 =>
 rd Try.prog (Instr.loadAt 81 (.pointer (some x19))) (.agg [.bool, .slice, .slice]) w68 fun (x70 : (Bool × Hd3 × Hd3 × Unit)) =>
 rd Try.prog (Instr.loadAt 23 (.pointer (some x32))) (.agg [(.int .i64), (.int .i64)]) w68 fun (x71 : (Int × Int × Unit)) =>
 flc bel w68 (fun _w73 => True) (fun w72 =>
   call Try.prog 56 [(.agg #[(.int .i64 x71.1), (.int .i64 x71.2.1)])] (.one (.agg [.bool, .slice, .slice])) w72 fun (x74 : (Bool × Hd3 × Hd3 × Unit)) w75 =>
 (bel w72 w75 ∧ F69 2 [(.agg #[(.int .i64 x71.1), (.int .i64 x71.2.1)])] (.agg #[(.bool x74.1), (.slice x74.2.1.1 x74.2.1.2.1 x74.2.1.2.2), (.slice x74.2.2.1.1 x74.2.2.1.2.1 x74.2.2.1.2.2)]) w75))
  fun (x76 : (Bool × Hd3 × Hd3 × Unit)) =>
 flc bel w68 (fun w78 => F69 2 [(.agg #[(.int .i64 x71.1), (.int .i64 x71.2.1)])] (.agg #[(.bool x76.1), (.slice x76.2.1.1 x76.2.1.2.1 x76.2.1.2.2), (.slice x76.2.2.1.1 x76.2.2.1.2.1 x76.2.2.1.2.2)]) w78 ∧ True) (fun w77 =>
   call Try.prog 81 [(.int .i64 s42.2.1)] (.one (.agg [.bool, .slice, .slice])) w77 fun (x79 : (Bool × Hd3 × Hd3 × Unit)) w80 =>
 (bel w77 w80 ∧ F69 4 [(.int .i64 s42.2.1)] (.agg #[(.bool x79.1), (.slice x79.2.1.1 x79.2.1.2.1 x79.2.1.2.2), (.slice x79.2.2.1.1 x79.2.2.1.2.1 x79.2.2.1.2.2)]) w80))
  fun (x81 : (Bool × Hd3 × Hd3 × Unit)) =>
 flc bel w68 (fun w83 => F69 4 [(.int .i64 s42.2.1)] (.agg #[(.bool x81.1), (.slice x81.2.1.1 x81.2.1.2.1 x81.2.1.2.2), (.slice x81.2.2.1.1 x81.2.2.1.2.1 x81.2.2.1.2.2)]) w83 ∧ F69 2 [(.agg #[(.int .i64 x71.1), (.int .i64 x71.2.1)])] (.agg #[(.bool x76.1), (.slice x76.2.1.1 x76.2.1.2.1 x76.2.1.2.2), (.slice x76.2.2.1.1 x76.2.2.1.2.1 x76.2.2.1.2.2)]) w83 ∧ True) (fun w82 =>
   call Try.prog 68 [(.agg #[(.bool x76.1), (.slice x76.2.1.1 x76.2.1.2.1 x76.2.1.2.2), (.slice x76.2.2.1.1 x76.2.2.1.2.1 x76.2.2.1.2.2)]), (.agg #[(.bool x81.1), (.slice x81.2.1.1 x81.2.1.2.1 x81.2.1.2.2), (.slice x81.2.2.1.1 x81.2.2.1.2.1 x81.2.2.1.2.2)])] (.one (.agg [.bool, .slice, .slice])) w82 fun (x84 : (Bool × Hd3 × Hd3 × Unit)) w85 =>
 (bel w82 w85 ∧ F69 5 [(.agg #[(.bool x76.1), (.slice x76.2.1.1 x76.2.1.2.1 x76.2.1.2.2), (.slice x76.2.2.1.1 x76.2.2.1.2.1 x76.2.2.1.2.2)]), (.agg #[(.bool x81.1), (.slice x81.2.1.1 x81.2.1.2.1 x81.2.1.2.2), (.slice x81.2.2.1.1 x81.2.2.1.2.1 x81.2.2.1.2.2)])] (.agg #[(.bool x84.1), (.slice x84.2.1.1 x84.2.1.2.1 x84.2.1.2.2), (.slice x84.2.2.1.1 x84.2.2.1.2.1 x84.2.2.1.2.2)]) w85))
  fun (x86 : (Bool × Hd3 × Hd3 × Unit)) =>
 flend bel w68 (fun w88 => F69 5 [(.agg #[(.bool x76.1), (.slice x76.2.1.1 x76.2.1.2.1 x76.2.1.2.2), (.slice x76.2.2.1.1 x76.2.2.1.2.1 x76.2.2.1.2.2)]), (.agg #[(.bool x81.1), (.slice x81.2.1.1 x81.2.1.2.1 x81.2.1.2.2), (.slice x81.2.2.1.1 x81.2.2.1.2.1 x81.2.2.1.2.2)])] (.agg #[(.bool x86.1), (.slice x86.2.1.1 x86.2.1.2.1 x86.2.1.2.2), (.slice x86.2.2.1.1 x86.2.2.1.2.1 x86.2.2.1.2.2)]) w88 ∧ F69 4 [(.int .i64 s42.2.1)] (.agg #[(.bool x81.1), (.slice x81.2.1.1 x81.2.1.2.1 x81.2.1.2.2), (.slice x81.2.2.1.1 x81.2.2.1.2.1 x81.2.2.1.2.2)]) w88 ∧ F69 2 [(.agg #[(.int .i64 x71.1), (.int .i64 x71.2.1)])] (.agg #[(.bool x76.1), (.slice x76.2.1.1 x76.2.1.2.1 x76.2.1.2.2), (.slice x76.2.2.1.1 x76.2.2.1.2.1 x76.2.2.1.2.2)]) w88 ∧ True) fun w87 =>
 call Try.prog 60 [(.agg #[(.bool x70.1), (.slice x70.2.1.1 x70.2.1.2.1 x70.2.1.2.2), (.slice x70.2.2.1.1 x70.2.2.1.2.1 x70.2.2.1.2.2)]), (.agg #[(.bool x86.1), (.slice x86.2.1.1 x86.2.1.2.1 x86.2.1.2.2), (.slice x86.2.2.1.1 x86.2.2.1.2.1 x86.2.2.1.2.2)])] (.one (.agg [.bool, .slice, .slice])) w87 fun (x89 : (Bool × Hd3 × Hd3 × Unit)) w90 =>
 wu Try.prog (Instr.storeAt 81 (.pointer (some x19)) (.agg #[(.bool x89.1), (.slice x89.2.1.1 x89.2.1.2.1 x89.2.1.2.2), (.slice x89.2.2.1.1 x89.2.2.1.2.1 x89.2.2.1.2.2)])) w90 fun w91 =>
 K26 (()) w91)
  fun (K41 : (Int × Int × Unit) → World → Prop) =>
 rd Try.prog (Instr.loadAt 2 (.pointer (some x32))) (.one (.int .i64)) w35 fun (x92 : Int) =>
 br (decide (x92 < 0)) (K41 (x39, x37, ()) w35)
 (K41 (x37, x39, ()) w35))))
 (drw w25 fun w93 => flEx fun F94 =>
 rd Try.prog (Instr.loadAt 81 (.pointer (some x17))) (.agg [.bool, .slice, .slice]) w93 fun (x95 : (Bool × Hd3 × Hd3 × Unit)) =>
 rd Try.prog (Instr.loadAt 23 (.pointer (some x6))) (.agg [(.int .i64), (.int .i64)]) w93 fun (x96 : (Int × Int × Unit)) =>
 flc bel w93 (fun _w98 => True) (fun w97 =>
   call Try.prog 56 [(.agg #[(.int .i64 x96.1), (.int .i64 x96.2.1)])] (.one (.agg [.bool, .slice, .slice])) w97 fun (x99 : (Bool × Hd3 × Hd3 × Unit)) w100 =>
 (bel w97 w100 ∧ F94 2 [(.agg #[(.int .i64 x96.1), (.int .i64 x96.2.1)])] (.agg #[(.bool x99.1), (.slice x99.2.1.1 x99.2.1.2.1 x99.2.1.2.2), (.slice x99.2.2.1.1 x99.2.2.1.2.1 x99.2.2.1.2.2)]) w100))
  fun (x101 : (Bool × Hd3 × Hd3 × Unit)) =>
 flc bel w93 (fun w103 => F94 2 [(.agg #[(.int .i64 x96.1), (.int .i64 x96.2.1)])] (.agg #[(.bool x101.1), (.slice x101.2.1.1 x101.2.1.2.1 x101.2.1.2.2), (.slice x101.2.2.1.1 x101.2.2.1.2.1 x101.2.2.1.2.2)]) w103 ∧ True) (fun w102 =>
   call Try.prog 57 [(.agg #[(.bool x95.1), (.slice x95.2.1.1 x95.2.1.2.1 x95.2.1.2.2), (.slice x95.2.2.1.1 x95.2.2.1.2.1 x95.2.2.1.2.2)]), (.agg #[(.bool x101.1), (.slice x101.2.1.1 x101.2.1.2.1 x101.2.1.2.2), (.slice x101.2.2.1.1 x101.2.2.1.2.1 x101.2.2.1.2.2)])] (.one (.one (.int .i64))) w102 fun (x104 : Int) w105 =>
 (bel w102 w105 ∧ F94 3 [(.agg #[(.bool x95.1), (.slice x95.2.1.1 x95.2.1.2.1 x95.2.1.2.2), (.slice x95.2.2.1.1 x95.2.2.1.2.1 x95.2.2.1.2.2)]), (.agg #[(.bool x101.1), (.slice x101.2.1.1 x101.2.1.2.1 x101.2.1.2.2), (.slice x101.2.2.1.1 x101.2.2.1.2.1 x101.2.2.1.2.2)])] (.int .i64 x104) w105))
  fun (x106 : Int) =>
 br (decide (x106 > 0)) (flend bel w93 (fun w108 => F94 3 [(.agg #[(.bool x95.1), (.slice x95.2.1.1 x95.2.1.2.1 x95.2.1.2.2), (.slice x95.2.2.1.1 x95.2.2.1.2.1 x95.2.2.1.2.2)]), (.agg #[(.bool x101.1), (.slice x101.2.1.1 x101.2.1.2.1 x101.2.1.2.2), (.slice x101.2.2.1.1 x101.2.2.1.2.1 x101.2.2.1.2.2)])] (.int .i64 x106) w108 ∧ F94 2 [(.agg #[(.int .i64 x96.1), (.int .i64 x96.2.1)])] (.agg #[(.bool x101.1), (.slice x101.2.1.1 x101.2.1.2.1 x101.2.1.2.2), (.slice x101.2.2.1.1 x101.2.2.1.2.1 x101.2.2.1.2.2)]) w108 ∧ True) fun w107 =>
 R (.bool true) w107)
 (rd Try.prog (Instr.loadAt 81 (.pointer (some x19))) (.agg [.bool, .slice, .slice]) w93 fun (x109 : (Bool × Hd3 × Hd3 × Unit)) =>
 rd Try.prog (Instr.loadAt 23 (.pointer (some x6))) (.agg [(.int .i64), (.int .i64)]) w93 fun (x110 : (Int × Int × Unit)) =>
 flc bel w93 (fun w112 => F94 3 [(.agg #[(.bool x95.1), (.slice x95.2.1.1 x95.2.1.2.1 x95.2.1.2.2), (.slice x95.2.2.1.1 x95.2.2.1.2.1 x95.2.2.1.2.2)]), (.agg #[(.bool x101.1), (.slice x101.2.1.1 x101.2.1.2.1 x101.2.1.2.2), (.slice x101.2.2.1.1 x101.2.2.1.2.1 x101.2.2.1.2.2)])] (.int .i64 x106) w112 ∧ F94 2 [(.agg #[(.int .i64 x96.1), (.int .i64 x96.2.1)])] (.agg #[(.bool x101.1), (.slice x101.2.1.1 x101.2.1.2.1 x101.2.1.2.2), (.slice x101.2.2.1.1 x101.2.2.1.2.1 x101.2.2.1.2.2)]) w112 ∧ True) (fun w111 =>
   call Try.prog 56 [(.agg #[(.int .i64 x110.1), (.int .i64 x110.2.1)])] (.one (.agg [.bool, .slice, .slice])) w111 fun (x113 : (Bool × Hd3 × Hd3 × Unit)) w114 =>
 (bel w111 w114 ∧ F94 8 [(.agg #[(.int .i64 x110.1), (.int .i64 x110.2.1)])] (.agg #[(.bool x113.1), (.slice x113.2.1.1 x113.2.1.2.1 x113.2.1.2.2), (.slice x113.2.2.1.1 x113.2.2.1.2.1 x113.2.2.1.2.2)]) w114))
  fun (x115 : (Bool × Hd3 × Hd3 × Unit)) =>
 flend bel w93 (fun w117 => F94 8 [(.agg #[(.int .i64 x110.1), (.int .i64 x110.2.1)])] (.agg #[(.bool x115.1), (.slice x115.2.1.1 x115.2.1.2.1 x115.2.1.2.2), (.slice x115.2.2.1.1 x115.2.2.1.2.1 x115.2.2.1.2.2)]) w117 ∧ F94 3 [(.agg #[(.bool x95.1), (.slice x95.2.1.1 x95.2.1.2.1 x95.2.1.2.2), (.slice x95.2.2.1.1 x95.2.2.1.2.1 x95.2.2.1.2.2)]), (.agg #[(.bool x101.1), (.slice x101.2.1.1 x101.2.1.2.1 x101.2.1.2.2), (.slice x101.2.2.1.1 x101.2.2.1.2.1 x101.2.2.1.2.2)])] (.int .i64 x106) w117 ∧ F94 2 [(.agg #[(.int .i64 x96.1), (.int .i64 x96.2.1)])] (.agg #[(.bool x101.1), (.slice x101.2.1.1 x101.2.1.2.1 x101.2.1.2.2), (.slice x101.2.2.1.1 x101.2.2.1.2.1 x101.2.2.1.2.2)]) w117 ∧ True) fun w116 =>
 call Try.prog 57 [(.agg #[(.bool x109.1), (.slice x109.2.1.1 x109.2.1.2.1 x109.2.1.2.2), (.slice x109.2.2.1.1 x109.2.2.1.2.1 x109.2.2.1.2.2)]), (.agg #[(.bool x115.1), (.slice x115.2.1.1 x115.2.1.2.1 x115.2.1.2.2), (.slice x115.2.2.1.1 x115.2.2.1.2.1 x115.2.2.1.2.2)])] (.one (.one (.int .i64))) w116 fun (x118 : Int) w119 =>
 R (.bool (decide (x118 < 0))) w119)))))
def H41 : Hints := ⟨[(2, 0, [(43, (.one (.int .i64)))]), (0, 64, [(17, (.one (.int .i64))), (18, (.one (.int .i64)))]), (1, 1, [])], [(9, 9), (15, 6), (16, 6), (18, 9)], [], []⟩
set_option maxRecDepth 100000 in
theorem S41_eq (s_0a : Option Addr) (s_0n : Nat) (s_0c : Nat) (s_1a : Option Addr) (s_1n : Nat) (s_1c : Nat) (s_2a : Option Addr) (s_2n : Nat) (s_2c : Nat) (lower_a : Option Addr) (lower_n : Nat) (lower_c : Nat) (upper_a : Option Addr) (upper_n : Nat) (upper_c : Nat) (m_a : Option Addr) (m_n : Nat) (m_c : Nat) (w0 : World) (R : Value → World → Prop) : vcFn Try.prog H41 Try.f41 [(.agg #[(.slice s_0a s_0n s_0c), (.slice s_1a s_1n s_1c), (.slice s_2a s_2n s_2c)]), (.slice lower_a lower_n lower_c), (.slice upper_a upper_n upper_c), (.slice m_a m_n m_c)] w0 R = S41 s_0a s_0n s_0c s_1a s_1n s_1c s_2a s_2n s_2c lower_a lower_n lower_c upper_a upper_n upper_c m_a m_n m_c w0 R := by kernel_rfl
set_option maxRecDepth 100000 in
theorem S41_calls (s_0a : Option Addr) (s_0n : Nat) (s_0c : Nat) (s_1a : Option Addr) (s_1n : Nat) (s_1c : Nat) (s_2a : Option Addr) (s_2n : Nat) (s_2c : Nat) (lower_a : Option Addr) (lower_n : Nat) (lower_c : Nat) (upper_a : Option Addr) (upper_n : Nat) (upper_c : Nat) (m_a : Option Addr) (m_n : Nat) (m_c : Nat) (w0 : World) (R : Value → World → Prop) (h : S41 s_0a s_0n s_0c s_1a s_1n s_1c s_2a s_2n s_2c lower_a lower_n lower_c upper_a upper_n upper_c m_a m_n m_c w0 R) : Calls Try.prog 41 #[(.agg #[(.slice s_0a s_0n s_0c), (.slice s_1a s_1n s_1c), (.slice s_2a s_2n s_2c)]), (.slice lower_a lower_n lower_c), (.slice upper_a upper_n upper_c), (.slice m_a m_n m_c)] w0 (ret R) := by
  rw [← S41_eq] at h; exact vcFn_sound follows_ Try.func41 h

def S42 (s_0a : Option Addr) (s_0n : Nat) (s_0c : Nat) (s_1a : Option Addr) (s_1n : Nat) (s_1c : Nat) (s_2a : Option Addr) (s_2n : Nat) (s_2c : Nat) (lower_a : Option Addr) (lower_n : Nat) (lower_c : Nat) (upper_a : Option Addr) (upper_n : Nat) (upper_c : Nat) (m_a : Option Addr) (m_n : Nat) (m_c : Nat) (w0 : World) (R : Value → World → Prop) : Prop :=
 wr Try.prog (Instr.box 43 (.agg #[(.slice s_0a s_0n s_0c), (.slice s_1a s_1n s_1c), (.slice s_2a s_2n s_2c)])) (.one .addr) w0 fun (x1 : Addr) w2 =>
 rd Try.prog (Instr.loadAt 43 (.pointer (some x1))) (.agg [.slice, .slice, .slice]) w2 fun (x3 : (Hd3 × Hd3 × Hd3 × Unit)) =>
 call Try.prog 37 [(.agg #[(.slice x3.1.1 x3.1.2.1 x3.1.2.2), (.slice x3.2.1.1 x3.2.1.2.1 x3.2.1.2.2), (.slice x3.2.2.1.1 x3.2.2.1.2.1 x3.2.2.1.2.2)]), (.slice m_a m_n m_c)] (.many [(.one .slice), (.agg [(.int .i64), (.int .i64)]), (.one (.int .i64))]) w2 fun (x4 : (Hd3 × (Int × Int × Unit) × Int × Unit)) w5 =>
 wr Try.prog (Instr.alloc 23 true (.tuple #[])) (.one .addr) w5 fun (x6 : Addr) w7 =>
 wu Try.prog (Instr.storeAt 23 (.pointer (some x6)) (.agg #[(.int .i64 x4.2.1.1), (.int .i64 x4.2.1.2.1)])) w7 fun w8 =>
 br (x4.2.2.1 != 0) (R (.bool false) w8)
 (rd Try.prog (Instr.loadAt 40 (.pointer (some x1))) (.one .slice) w8 fun (x9 : Hd3) =>
 br (((lower_n : Nat) : Int) != ((x9.2.1 : Nat) : Int)) (R (.bool false) w8)
 (rd Try.prog (Instr.loadAt 40 (.pointer (some x1))) (.one .slice) w8 fun (x10 : Hd3) =>
 br (((upper_n : Nat) : Int) != ((x10.2.1 : Nat) : Int)) (R (.bool false) w8)
 (loop (T := (Int × Unit)) (0, ()) w8 fun (again11 : (Int × Unit) → World → Prop) (s12 : (Int × Unit)) w13 => ∀ _ : Nat → Value,
 br (decide (s12.1 < ((lower_n : Nat) : Int))) (rdp Try.prog (Instr.indexAt 40 (.slice lower_a lower_n lower_c) (.int .i64 s12.1)) (.one .addr) fun (x14 : Addr) =>
 rd Try.prog (Instr.loadAt 2 (.pointer (some x14))) (.one (.int .i64)) w13 fun (x15 : Int) =>
 call Try.prog 80 [(.int .i64 x15), (.int .i64 1000000000)] (.one (.one .bool)) w13 fun (x16 : Bool) w17 =>
 br (!x16) (R (.bool false) w17)
 (rdp Try.prog (Instr.indexAt 40 (.slice upper_a upper_n upper_c) (.int .i64 s12.1)) (.one .addr) fun (x18 : Addr) =>
 rd Try.prog (Instr.loadAt 2 (.pointer (some x18))) (.one (.int .i64)) w17 fun (x19 : Int) =>
 call Try.prog 80 [(.int .i64 x19), (.int .i64 1000000000)] (.one (.one .bool)) w17 fun (x20 : Bool) w21 =>
 br (!x20) (R (.bool false) w21)
 (z (IntKind.wrap .i64 (s12.1 + 1)) fun (z22 : Int) =>
 again11 (z22, ()) w21)))
 (loop (T := (Int × Unit)) (0, ()) w13 fun (again23 : (Int × Unit) → World → Prop) (s24 : (Int × Unit)) w25 => ∀ _ : Nat → Value,
 br (decide (s24.1 < ((lower_n : Nat) : Int))) (drw w25 fun w26 =>
 rdp Try.prog (Instr.indexAt 40 (.slice lower_a lower_n lower_c) (.int .i64 s24.1)) (.one .addr) fun (x27 : Addr) =>
 rd Try.prog (Instr.loadAt 2 (.pointer (some x27))) (.one (.int .i64)) w26 fun (x28 : Int) =>
 rdp Try.prog (Instr.indexAt 40 (.slice upper_a upper_n upper_c) (.int .i64 s24.1)) (.one .addr) fun (x29 : Addr) =>
 rd Try.prog (Instr.loadAt 2 (.pointer (some x29))) (.one (.int .i64)) w26 fun (x30 : Int) =>
 br (decide (x28 > x30)) (R (.bool true) w26)
 (z (IntKind.wrap .i64 (s24.1 + 1)) fun (z31 : Int) =>
 again23 (z31, ()) w26))
 (rd Try.prog (Instr.loadAt 43 (.pointer (some x1))) (.agg [.slice, .slice, .slice]) w25 fun (x32 : (Hd3 × Hd3 × Hd3 × Unit)) =>
 call Try.prog 90 [(.agg #[(.slice x32.1.1 x32.1.2.1 x32.1.2.2), (.slice x32.2.1.1 x32.2.1.2.1 x32.2.1.2.2), (.slice x32.2.2.1.1 x32.2.2.1.2.1 x32.2.2.1.2.2)]), (.slice m_a m_n m_c)] (.many [(.one .slice), (.agg [.bool, .slice, .slice]), (.one (.int .i64))]) w25 fun (x33 : (Hd3 × (Bool × Hd3 × Hd3 × Unit) × Int × Unit)) w34 =>
 wr Try.prog (Instr.alloc 90 true (.tuple #[])) (.one .addr) w34 fun (x35 : Addr) w36 =>
 wu Try.prog (Instr.storeAt 90 (.pointer (some x35)) (.agg #[(.bool x33.2.1.1), (.slice x33.2.1.2.1.1 x33.2.1.2.1.2.1 x33.2.1.2.1.2.2), (.slice x33.2.1.2.2.1.1 x33.2.1.2.2.1.2.1 x33.2.1.2.2.1.2.2)])) w36 fun w37 =>
 call Try.prog 83 [(.int .i64 0)] (.one (.agg [.bool, .slice, .slice])) w37 fun (x38 : (Bool × Hd3 × Hd3 × Unit)) w39 =>
 call Try.prog 83 [(.int .i64 0)] (.one (.agg [.bool, .slice, .slice])) w39 fun (x40 : (Bool × Hd3 × Hd3 × Unit)) w41 =>
 wr Try.prog (Instr.alloc 90 true (.tuple #[])) (.one .addr) w41 fun (x42 : Addr) w43 =>
 wr Try.prog (Instr.alloc 90 true (.tuple #[])) (.one .addr) w43 fun (x44 : Addr) w45 =>
 wu Try.prog (Instr.storeAt 90 (.pointer (some x42)) (.agg #[(.bool x38.1), (.slice x38.2.1.1 x38.2.1.2.1 x38.2.1.2.2), (.slice x38.2.2.1.1 x38.2.2.1.2.1 x38.2.2.1.2.2)])) w45 fun w46 =>
 wu Try.prog (Instr.storeAt 90 (.pointer (some x44)) (.agg #[(.bool x40.1), (.slice x40.2.1.1 x40.2.1.2.1 x40.2.1.2.2), (.slice x40.2.2.1.1 x40.2.2.1.2.1 x40.2.2.1.2.2)])) w46 fun w47 =>
 loop (T := (Int × Unit)) (0, ()) w47 fun (again48 : (Int × Unit) → World → Prop) (s49 : (Int × Unit)) w50 => ∀ _ : Nat → Value,
 br (decide (s49.1 < ((x33.1.2.1 : Nat) : Int))) (join (T := (Unit)) (fun (_s52 : (Unit)) w53 => ∀ _ : Nat → Value,
 z (IntKind.wrap .i64 (s49.1 + 1)) fun (z54 : Int) =>
 again48 (z54, ()) w53)
  fun (K51 : (Unit) → World → Prop) =>
 drw w50 fun w55 => flEx fun F56 =>
 rdp Try.prog (Instr.indexAt 112 (.slice x33.1.1 x33.1.2.1 x33.1.2.2) (.int .i64 s49.1)) (.one .addr) fun (x57 : Addr) =>
 rd Try.prog (Instr.loadAt 90 (.pointer (some x57))) (.agg [.bool, .slice, .slice]) w55 fun (x58 : (Bool × Hd3 × Hd3 × Unit)) =>
 rdp Try.prog (Instr.indexAt 40 (.slice lower_a lower_n lower_c) (.int .i64 s49.1)) (.one .addr) fun (x59 : Addr) =>
 rd Try.prog (Instr.loadAt 2 (.pointer (some x59))) (.one (.int .i64)) w55 fun (x60 : Int) =>
 flc bel w55 (fun _w62 => True) (fun w61 =>
   call Try.prog 83 [(.int .i64 x60)] (.one (.agg [.bool, .slice, .slice])) w61 fun (x63 : (Bool × Hd3 × Hd3 × Unit)) w64 =>
 (bel w61 w64 ∧ F56 8 [(.int .i64 x60)] (.agg #[(.bool x63.1), (.slice x63.2.1.1 x63.2.1.2.1 x63.2.1.2.2), (.slice x63.2.2.1.1 x63.2.2.1.2.1 x63.2.2.1.2.2)]) w64))
  fun (x65 : (Bool × Hd3 × Hd3 × Unit)) =>
 flc bel w55 (fun w67 => F56 8 [(.int .i64 x60)] (.agg #[(.bool x65.1), (.slice x65.2.1.1 x65.2.1.2.1 x65.2.1.2.2), (.slice x65.2.2.1.1 x65.2.2.1.2.1 x65.2.2.1.2.2)]) w67 ∧ True) (fun w66 =>
   call Try.prog 69 [(.agg #[(.bool x58.1), (.slice x58.2.1.1 x58.2.1.2.1 x58.2.1.2.2), (.slice x58.2.2.1.1 x58.2.2.1.2.1 x58.2.2.1.2.2)]), (.agg #[(.bool x65.1), (.slice x65.2.1.1 x65.2.1.2.1 x65.2.1.2.2), (.slice x65.2.2.1.1 x65.2.2.1.2.1 x65.2.2.1.2.2)])] (.one (.agg [.bool, .slice, .slice])) w66 fun (x68 : (Bool × Hd3 × Hd3 × Unit)) w69 =>
 (bel w66 w69 ∧ F56 9 [(.agg #[(.bool x58.1), (.slice x58.2.1.1 x58.2.1.2.1 x58.2.1.2.2), (.slice x58.2.2.1.1 x58.2.2.1.2.1 x58.2.2.1.2.2)]), (.agg #[(.bool x65.1), (.slice x65.2.1.1 x65.2.1.2.1 x65.2.1.2.2), (.slice x65.2.2.1.1 x65.2.2.1.2.1 x65.2.2.1.2.2)])] (.agg #[(.bool x68.1), (.slice x68.2.1.1 x68.2.1.2.1 x68.2.1.2.2), (.slice x68.2.2.1.1 x68.2.2.1.2.1 x68.2.2.1.2.2)]) w69))
  fun (x70 : (Bool × Hd3 × Hd3 × Unit)) =>
 rdp Try.prog (Instr.indexAt 112 (.slice x33.1.1 x33.1.2.1 x33.1.2.2) (.int .i64 s49.1)) (.one .addr) fun (x71 : Addr) =>
 rd Try.prog (Instr.loadAt 90 (.pointer (some x71))) (.agg [.bool, .slice, .slice]) w55 fun (x72 : (Bool × Hd3 × Hd3 × Unit)) =>
 rdp Try.prog (Instr.indexAt 40 (.slice upper_a upper_n upper_c) (.int .i64 s49.1)) (.one .addr) fun (x73 : Addr) =>
 rd Try.prog (Instr.loadAt 2 (.pointer (some x73))) (.one (.int .i64)) w55 fun (x74 : Int) =>
 flc bel w55 (fun w76 => F56 9 [(.agg #[(.bool x58.1), (.slice x58.2.1.1 x58.2.1.2.1 x58.2.1.2.2), (.slice x58.2.2.1.1 x58.2.2.1.2.1 x58.2.2.1.2.2)]), (.agg #[(.bool x65.1), (.slice x65.2.1.1 x65.2.1.2.1 x65.2.1.2.2), (.slice x65.2.2.1.1 x65.2.2.1.2.1 x65.2.2.1.2.2)])] (.agg #[(.bool x70.1), (.slice x70.2.1.1 x70.2.1.2.1 x70.2.1.2.2), (.slice x70.2.2.1.1 x70.2.2.1.2.1 x70.2.2.1.2.2)]) w76 ∧ F56 8 [(.int .i64 x60)] (.agg #[(.bool x65.1), (.slice x65.2.1.1 x65.2.1.2.1 x65.2.1.2.2), (.slice x65.2.2.1.1 x65.2.2.1.2.1 x65.2.2.1.2.2)]) w76 ∧ True) (fun w75 =>
   call Try.prog 83 [(.int .i64 x74)] (.one (.agg [.bool, .slice, .slice])) w75 fun (x77 : (Bool × Hd3 × Hd3 × Unit)) w78 =>
 (bel w75 w78 ∧ F56 18 [(.int .i64 x74)] (.agg #[(.bool x77.1), (.slice x77.2.1.1 x77.2.1.2.1 x77.2.1.2.2), (.slice x77.2.2.1.1 x77.2.2.1.2.1 x77.2.2.1.2.2)]) w78))
  fun (x79 : (Bool × Hd3 × Hd3 × Unit)) =>
 flc bel w55 (fun w81 => F56 18 [(.int .i64 x74)] (.agg #[(.bool x79.1), (.slice x79.2.1.1 x79.2.1.2.1 x79.2.1.2.2), (.slice x79.2.2.1.1 x79.2.2.1.2.1 x79.2.2.1.2.2)]) w81 ∧ F56 9 [(.agg #[(.bool x58.1), (.slice x58.2.1.1 x58.2.1.2.1 x58.2.1.2.2), (.slice x58.2.2.1.1 x58.2.2.1.2.1 x58.2.2.1.2.2)]), (.agg #[(.bool x65.1), (.slice x65.2.1.1 x65.2.1.2.1 x65.2.1.2.2), (.slice x65.2.2.1.1 x65.2.2.1.2.1 x65.2.2.1.2.2)])] (.agg #[(.bool x70.1), (.slice x70.2.1.1 x70.2.1.2.1 x70.2.1.2.2), (.slice x70.2.2.1.1 x70.2.2.1.2.1 x70.2.2.1.2.2)]) w81 ∧ F56 8 [(.int .i64 x60)] (.agg #[(.bool x65.1), (.slice x65.2.1.1 x65.2.1.2.1 x65.2.1.2.2), (.slice x65.2.2.1.1 x65.2.2.1.2.1 x65.2.2.1.2.2)]) w81 ∧ True) (fun w80 =>
   call Try.prog 69 [(.agg #[(.bool x72.1), (.slice x72.2.1.1 x72.2.1.2.1 x72.2.1.2.2), (.slice x72.2.2.1.1 x72.2.2.1.2.1 x72.2.2.1.2.2)]), (.agg #[(.bool x79.1), (.slice x79.2.1.1 x79.2.1.2.1 x79.2.1.2.2), (.slice x79.2.2.1.1 x79.2.2.1.2.1 x79.2.2.1.2.2)])] (.one (.agg [.bool, .slice, .slice])) w80 fun (x82 : (Bool × Hd3 × Hd3 × Unit)) w83 =>
 (bel w80 w83 ∧ F56 19 [(.agg #[(.bool x72.1), (.slice x72.2.1.1 x72.2.1.2.1 x72.2.1.2.2), (.slice x72.2.2.1.1 x72.2.2.1.2.1 x72.2.2.1.2.2)]), (.agg #[(.bool x79.1), (.slice x79.2.1.1 x79.2.1.2.1 x79.2.1.2.2), (.slice x79.2.2.1.1 x79.2.2.1.2.1 x79.2.2.1.2.2)])] (.agg #[(.bool x82.1), (.slice x82.2.1.1 x82.2.1.2.1 x82.2.1.2.2), (.slice x82.2.2.1.1 x82.2.2.1.2.1 x82.2.2.1.2.2)]) w83))
  fun (x84 : (Bool × Hd3 × Hd3 × Unit)) =>
 flc bel w55 (fun _w86 => True) (fun w85 =>
   wr Try.prog (Instr.alloc 90 true (.tuple #[])) (.one .addr) w85 fun (x87 : Addr) w88 =>
 (bel w85 w88 ∧ F56 20 [] (.pointer (some x87)) w88))
  fun (x89 : Addr) =>
 flc bel w55 (fun _w91 => True) (fun w90 =>
   wr Try.prog (Instr.alloc 90 true (.tuple #[])) (.one .addr) w90 fun (x92 : Addr) w93 =>
 (bel w90 w93 ∧ F56 21 [] (.pointer (some x92)) w93))
  fun (x94 : Addr) =>
 flend bel w55 (fun w96 => (F56 21 [] (.pointer (some x94)) w96 ∧ F56 20 [] (.pointer (some x89)) w96 ∧ F56 19 [(.agg #[(.bool x72.1), (.slice x72.2.1.1 x72.2.1.2.1 x72.2.1.2.2), (.slice x72.2.2.1.1 x72.2.2.1.2.1 x72.2.2.1.2.2)]), (.agg #[(.bool x79.1), (.slice x79.2.1.1 x79.2.1.2.1 x79.2.1.2.2), (.slice x79.2.2.1.1 x79.2.2.1.2.1 x79.2.2.1.2.2)])] (.agg #[(.bool x84.1), (.slice x84.2.1.1 x84.2.1.2.1 x84.2.1.2.2), (.slice x84.2.2.1.1 x84.2.2.1.2.1 x84.2.2.1.2.2)]) w96 ∧ F56 18 [(.int .i64 x74)] (.agg #[(.bool x79.1), (.slice x79.2.1.1 x79.2.1.2.1 x79.2.1.2.2), (.slice x79.2.2.1.1 x79.2.2.1.2.1 x79.2.2.1.2.2)]) w96 ∧ F56 9 [(.agg #[(.bool x58.1), (.slice x58.2.1.1 x58.2.1.2.1 x58.2.1.2.2), (.slice x58.2.2.1.1 x58.2.2.1.2.1 x58.2.2.1.2.2)]), (.agg #[(.bool x65.1), (.slice x65.2.1.1 x65.2.1.2.1 x65.2.1.2.2), (.slice x65.2.2.1.1 x65.2.2.1.2.1 x65.2.2.1.2.2)])] (.agg #[(.bool x70.1), (.slice x70.2.1.1 x70.2.1.2.1 x70.2.1.2.2), (.slice x70.2.2.1.1 x70.2.2.1.2.1 x70.2.2.1.2.2)]) w96 ∧ F56 8 [(.int .i64 x60)] (.agg #[(.bool x65.1), (.slice x65.2.1.1 x65.2.1.2.1 x65.2.1.2.2), (.slice x65.2.2.1.1 x65.2.2.1.2.1 x65.2.2.1.2.2)]) w96 ∧ True) ∧ List.Pairwise (fun a b => vblk a ≠ vblk b) ([(.pointer (some x94)), (.pointer (some x89))] : List Value)) fun w95 =>
 wu Try.prog (Instr.storeAt 90 (.pointer (some x89)) (.agg #[(.bool x70.1), (.slice x70.2.1.1 x70.2.1.2.1 x70.2.1.2.2), (.slice x70.2.2.1.1 x70.2.2.1.2.1 x70.2.2.1.2.2)])) w95 fun w97 =>
 wu Try.prog (Instr.storeAt 90 (.pointer (some x94)) (.agg #[(.bool x84.1), (.slice x84.2.1.1 x84.2.1.2.1 x84.2.1.2.2), (.slice x84.2.2.1.1 x84.2.2.1.2.1 x84.2.2.1.2.2)])) w97 fun w98 =>
 join (T := (Unit)) (fun (_s100 : (Unit)) w101 => ∀ _ : Nat → Value,
 drw w101 fun w102 => flEx fun F103 =>
 rd Try.prog (Instr.loadAt 90 (.pointer (some x42))) (.agg [.bool, .slice, .slice]) w102 fun (x104 : (Bool × Hd3 × Hd3 × Unit)) =>
 rd Try.prog (Instr.loadAt 90 (.pointer (some x89))) (.agg [.bool, .slice, .slice]) w102 fun (x105 : (Bool × Hd3 × Hd3 × Unit)) =>
 flc bel w102 (fun _w107 => True) (fun w106 =>
   call Try.prog 62 [(.agg #[(.bool x104.1), (.slice x104.2.1.1 x104.2.1.2.1 x104.2.1.2.2), (.slice x104.2.2.1.1 x104.2.2.1.2.1 x104.2.2.1.2.2)]), (.agg #[(.bool x105.1), (.slice x105.2.1.1 x105.2.1.2.1 x105.2.1.2.2), (.slice x105.2.2.1.1 x105.2.2.1.2.1 x105.2.2.1.2.2)])] (.one (.agg [.bool, .slice, .slice])) w106 fun (x108 : (Bool × Hd3 × Hd3 × Unit)) w109 =>
 (bel w106 w109 ∧ F103 2 [(.agg #[(.bool x104.1), (.slice x104.2.1.1 x104.2.1.2.1 x104.2.1.2.2), (.slice x104.2.2.1.1 x104.2.2.1.2.1 x104.2.2.1.2.2)]), (.agg #[(.bool x105.1), (.slice x105.2.1.1 x105.2.1.2.1 x105.2.1.2.2), (.slice x105.2.2.1.1 x105.2.2.1.2.1 x105.2.2.1.2.2)])] (.agg #[(.bool x108.1), (.slice x108.2.1.1 x108.2.1.2.1 x108.2.1.2.2), (.slice x108.2.2.1.1 x108.2.2.1.2.1 x108.2.2.1.2.2)]) w109))
  fun (x110 : (Bool × Hd3 × Hd3 × Unit)) =>
 rd Try.prog (Instr.loadAt 90 (.pointer (some x44))) (.agg [.bool, .slice, .slice]) w102 fun (x111 : (Bool × Hd3 × Hd3 × Unit)) =>
 rd Try.prog (Instr.loadAt 90 (.pointer (some x94))) (.agg [.bool, .slice, .slice]) w102 fun (x112 : (Bool × Hd3 × Hd3 × Unit)) =>
 flend bel w102 (fun w114 => F103 2 [(.agg #[(.bool x104.1), (.slice x104.2.1.1 x104.2.1.2.1 x104.2.1.2.2), (.slice x104.2.2.1.1 x104.2.2.1.2.1 x104.2.2.1.2.2)]), (.agg #[(.bool x105.1), (.slice x105.2.1.1 x105.2.1.2.1 x105.2.1.2.2), (.slice x105.2.2.1.1 x105.2.2.1.2.1 x105.2.2.1.2.2)])] (.agg #[(.bool x110.1), (.slice x110.2.1.1 x110.2.1.2.1 x110.2.1.2.2), (.slice x110.2.2.1.1 x110.2.2.1.2.1 x110.2.2.1.2.2)]) w114 ∧ True) fun w113 =>
 call Try.prog 62 [(.agg #[(.bool x111.1), (.slice x111.2.1.1 x111.2.1.2.1 x111.2.1.2.2), (.slice x111.2.2.1.1 x111.2.2.1.2.1 x111.2.2.1.2.2)]), (.agg #[(.bool x112.1), (.slice x112.2.1.1 x112.2.1.2.1 x112.2.1.2.2), (.slice x112.2.2.1.1 x112.2.2.1.2.1 x112.2.2.1.2.2)])] (.one (.agg [.bool, .slice, .slice])) w113 fun (x115 : (Bool × Hd3 × Hd3 × Unit)) w116 =>
 wu Try.prog (Instr.storeAt 90 (.pointer (some x42)) (.agg #[(.bool x110.1), (.slice x110.2.1.1 x110.2.1.2.1 x110.2.1.2.2), (.slice x110.2.2.1.1 x110.2.2.1.2.1 x110.2.2.1.2.2)])) w116 fun w117 =>
 wu Try.prog (Instr.storeAt 90 (.pointer (some x44)) (.agg #[(.bool x115.1), (.slice x115.2.1.1 x115.2.1.2.1 x115.2.1.2.2), (.slice x115.2.2.1.1 x115.2.2.1.2.1 x115.2.2.1.2.2)])) w117 fun w118 =>
 K51 (()) w118)
  fun (K99 : (Unit) → World → Prop) =>
 rdp Try.prog (Instr.indexAt 112 (.slice x33.1.1 x33.1.2.1 x33.1.2.2) (.int .i64 s49.1)) (.one .addr) fun (x119 : Addr) =>
 rd Try.prog (Instr.loadAt 90 (.pointer (some x119))) (.agg [.bool, .slice, .slice]) w98 fun (x120 : (Bool × Hd3 × Hd3 × Unit)) =>
 call Try.prog 72 [(.agg #[(.bool x120.1), (.slice x120.2.1.1 x120.2.1.2.1 x120.2.1.2.2), (.slice x120.2.2.1.1 x120.2.2.1.2.1 x120.2.2.1.2.2)])] (.one (.one (.int .i64))) w98 fun (x121 : Int) w122 =>
 br (decide (x121 < 0)) (rd Try.prog (Instr.loadAt 90 (.pointer (some x94))) (.agg [.bool, .slice, .slice]) w122 fun (x123 : (Bool × Hd3 × Hd3 × Unit)) =>
 rd Try.prog (Instr.loadAt 90 (.pointer (some x89))) (.agg [.bool, .slice, .slice]) w122 fun (x124 : (Bool × Hd3 × Hd3 × Unit)) =>
 wu Try.prog (Instr.storeAt 90 (.pointer (some x89)) (.agg #[(.bool x123.1), (.slice x123.2.1.1 x123.2.1.2.1 x123.2.1.2.2), (.slice x123.2.2.1.1 x123.2.2.1.2.1 x123.2.2.1.2.2)])) w122 fun w125 =>
 wu Try.prog (Instr.storeAt 90 (.pointer (some x94)) (.agg #[(.bool x124.1), (.slice x124.2.1.1 x124.2.1.2.1 x124.2.1.2.2), (.slice x124.2.2.1.1 x124.2.2.1.2.1 x124.2.2.1.2.2)])) w125 fun w126 =>
 K99 (()) w126)
 (K99 (()) w122))
 (rd Try.prog (Instr.loadAt 90 (.pointer (some x35))) (.agg [.bool, .slice, .slice]) w50 fun (x127 : (Bool × Hd3 × Hd3 × Unit)) =>
 rd Try.prog (Instr.loadAt 90 (.pointer (some x42))) (.agg [.bool, .slice, .slice]) w50 fun (x128 : (Bool × Hd3 × Hd3 × Unit)) =>
 call Try.prog 82 [(.agg #[(.bool x127.1), (.slice x127.2.1.1 x127.2.1.2.1 x127.2.1.2.2), (.slice x127.2.2.1.1 x127.2.2.1.2.1 x127.2.2.1.2.2)]), (.agg #[(.bool x128.1), (.slice x128.2.1.1 x128.2.1.2.1 x128.2.1.2.2), (.slice x128.2.2.1.1 x128.2.2.1.2.1 x128.2.2.1.2.2)])] (.one (.one .bool)) w50 fun (x129 : Bool) w130 =>
 br x129 (R (.bool true) w130)
 (rd Try.prog (Instr.loadAt 90 (.pointer (some x44))) (.agg [.bool, .slice, .slice]) w130 fun (x131 : (Bool × Hd3 × Hd3 × Unit)) =>
 rd Try.prog (Instr.loadAt 90 (.pointer (some x35))) (.agg [.bool, .slice, .slice]) w130 fun (x132 : (Bool × Hd3 × Hd3 × Unit)) =>
 call Try.prog 82 [(.agg #[(.bool x131.1), (.slice x131.2.1.1 x131.2.1.2.1 x131.2.1.2.2), (.slice x131.2.2.1.1 x131.2.2.1.2.1 x131.2.2.1.2.2)]), (.agg #[(.bool x132.1), (.slice x132.2.1.1 x132.2.1.2.1 x132.2.1.2.2), (.slice x132.2.2.1.1 x132.2.2.1.2.1 x132.2.2.1.2.2)])] (.one (.one .bool)) w130 fun (x133 : Bool) w134 =>
 R (.bool x133) w134)))))))
def H42 : Hints := ⟨[(2, 0, [(12, (.one (.int .i64)))]), (2, 2, [(13, (.one (.int .i64)))]), (2, 4, [(19, (.one (.int .i64)))]), (0, 122, []), (1, 5, [])], [(12, 8), (19, 22), (22, 5)], [], []⟩
set_option maxRecDepth 100000 in
theorem S42_eq (s_0a : Option Addr) (s_0n : Nat) (s_0c : Nat) (s_1a : Option Addr) (s_1n : Nat) (s_1c : Nat) (s_2a : Option Addr) (s_2n : Nat) (s_2c : Nat) (lower_a : Option Addr) (lower_n : Nat) (lower_c : Nat) (upper_a : Option Addr) (upper_n : Nat) (upper_c : Nat) (m_a : Option Addr) (m_n : Nat) (m_c : Nat) (w0 : World) (R : Value → World → Prop) : vcFn Try.prog H42 Try.f42 [(.agg #[(.slice s_0a s_0n s_0c), (.slice s_1a s_1n s_1c), (.slice s_2a s_2n s_2c)]), (.slice lower_a lower_n lower_c), (.slice upper_a upper_n upper_c), (.slice m_a m_n m_c)] w0 R = S42 s_0a s_0n s_0c s_1a s_1n s_1c s_2a s_2n s_2c lower_a lower_n lower_c upper_a upper_n upper_c m_a m_n m_c w0 R := by kernel_rfl
set_option maxRecDepth 100000 in
theorem S42_calls (s_0a : Option Addr) (s_0n : Nat) (s_0c : Nat) (s_1a : Option Addr) (s_1n : Nat) (s_1c : Nat) (s_2a : Option Addr) (s_2n : Nat) (s_2c : Nat) (lower_a : Option Addr) (lower_n : Nat) (lower_c : Nat) (upper_a : Option Addr) (upper_n : Nat) (upper_c : Nat) (m_a : Option Addr) (m_n : Nat) (m_c : Nat) (w0 : World) (R : Value → World → Prop) (h : S42 s_0a s_0n s_0c s_1a s_1n s_1c s_2a s_2n s_2c lower_a lower_n lower_c upper_a upper_n upper_c m_a m_n m_c w0 R) : Calls Try.prog 42 #[(.agg #[(.slice s_0a s_0n s_0c), (.slice s_1a s_1n s_1c), (.slice s_2a s_2n s_2c)]), (.slice lower_a lower_n lower_c), (.slice upper_a upper_n upper_c), (.slice m_a m_n m_c)] w0 (ret R) := by
  rw [← S42_eq] at h; exact vcFn_sound follows_ Try.func42 h

end Go.Proofs

/- Combinations of rows: the program. -/


namespace Go.Proofs.Ytajpdnphamomjaa
open Go.RowKit Go.Q Go.Q.Num Go.V

def colI (T : List (List Int)) (k : Nat) : List Int := T.map fun r => r.getD k 0
def colQ (T : List (List Int)) (M : List (Int × Int)) (k : Nat) : Rat := dotN (colI T k) M T.length
def rhsQ (T : List (List Int)) (rt : List Int) (M : List (Int × Int)) : Rat := dotN rt M T.length
def fpair (r : Rat) : Int × Int := (r.num, ((r.den : Nat) : Int))
def cols (_up : List Int) (T : List (List Int)) (M : List (Int × Int)) (n : Nat) : List (Int × Int) := (List.range n).map fun k => fpair (colQ T M k)
def combE (up : List Int) (T : List (List Int)) (rt : List Int) (M : List (Int × Int)) : Int :=
  if sysE up T rt ≠ 0 then sysE up T rt else if M.length ≠ T.length then 9 else if ∀ p ∈ M, IsFrac p.1 p.2 then (if (∀ k, k < up.length → Fits (colQ T M k)) ∧ Fits (rhsQ T rt M) then 0 else 8) else 1
section
variable {up : List Int} {T : List (List Int)} {rt : List Int} {M : List (Int × Int)}
theorem combE_1 (h : sysE up T rt ≠ 0) : combE up T rt M = sysE up T rt := by unfold combE; rw [if_pos h]
theorem combE_2 (h : sysE up T rt = 0) (h2 : M.length ≠ T.length) : combE up T rt M = 9 := by unfold combE; rw [if_neg (by omega), if_pos h2]
theorem combE_3 (h : sysE up T rt = 0) (h2 : M.length = T.length) (h3 : ¬ ∀ p ∈ M, IsFrac p.1 p.2) : combE up T rt M = 1 := by unfold combE; rw [if_neg (by omega), if_neg (by omega), if_neg h3]
theorem combE_4 (h : sysE up T rt = 0) (h2 : M.length = T.length) (h3 : ∀ p ∈ M, IsFrac p.1 p.2) (h4 : ¬ ((∀ k, k < up.length → Fits (colQ T M k)) ∧ Fits (rhsQ T rt M))) : combE up T rt M = 8 := by unfold combE; rw [if_neg (by omega), if_neg (by omega), if_pos h3, if_neg h4]
theorem combE_0 (h : sysE up T rt = 0) (h2 : M.length = T.length) (h3 : ∀ p ∈ M, IsFrac p.1 p.2) (h4 : (∀ k, k < up.length → Fits (colQ T M k)) ∧ Fits (rhsQ T rt M)) : combE up T rt M = 0 := by unfold combE; rw [if_neg (by omega), if_neg (by omega), if_pos h3, if_pos h4]
theorem combE_ok (h : combE up T rt M = 0) : sysE up T rt = 0 ∧ M.length = T.length ∧ (∀ p ∈ M, IsFrac p.1 p.2) ∧ (∀ k, k < up.length → Fits (colQ T M k)) ∧ Fits (rhsQ T rt M) := by
  by_cases h1 : sysE up T rt = 0
  · by_cases h2 : M.length = T.length
    · by_cases h3 : ∀ p ∈ M, IsFrac p.1 p.2
      · by_cases h4 : (∀ k, k < up.length → Fits (colQ T M k)) ∧ Fits (rhsQ T rt M)
        · exact ⟨h1, h2, h3, h4⟩
        · rw [combE_4 h1 h2 h3 h4] at h; omega
      · rw [combE_3 h1 h2 h3] at h; omega
    · rw [combE_2 h1 h2] at h; omega
  · rw [combE_1 h1] at h; exact absurd h h1
end
abbrev CT := Hdr × (Int × Int × Unit) × Int × Unit
abbrev rCT : RS := .many [.one .slice, .agg [.int .i64, .int .i64], .one (.int .i64)]
def CombR (up : List Int) (T : List (List Int)) (rt : List Int) (M : List (Int × Int)) (x : CT) (w : World) : Prop :=
  x.2.2.1 = combE up T rt M ∧ (combE up T rt M = 0 → Sl w x.1.1 x.1.2.1 x.1.2.2 2 ((cols up T M up.length).flatMap encF) ∧ x.2.1 = ((rhsQ T rt M).num, (((rhsQ T rt M).den : Nat) : Int), ())) ∧ (combE up T rt M ≠ 0 → x.1 = (none, 0, 0) ∧ x.2.1 = (0, 0, ()))
theorem CombR.bad {up : List Int} {T : List (List Int)} {rt : List Int} {M : List (Int × Int)} {e : Int} {w : World} (he : combE up T rt M = e) (h0 : e ≠ 0) : CombR up T rt M ((none, 0, 0), (0, 0, ()), e, ()) w :=
  ⟨he.symm, fun q => absurd (he.symm.trans q) h0, fun _ => ⟨rfl, rfl⟩⟩
theorem cols_len (up : List Int) (T : List (List Int)) (M : List (Int × Int)) (n : Nat) : (cols up T M n).length = n := by simp [cols]
theorem cols_snoc (up : List Int) (T : List (List Int)) (M : List (Int × Int)) (n : Nat) : cols up T M (n + 1) = cols up T M n ++ [fpair (colQ T M n)] := by simp [cols, List.range_succ]
theorem cols_get {up : List Int} {T : List (List Int)} {M : List (Int × Int)} {n k : Nat} (h : k < n) : (cols up T M n)[k]? = some (fpair (colQ T M k)) := by simp [cols, h]
theorem colI_get {T : List (List Int)} {i k : Nat} {row : List Int} {c : Int} (h1 : T[i]? = some row) (h2 : row[k]? = some c) : (colI T k)[i]? = some c := by
  unfold colI; rw [List.getElem?_map, h1]; simp [List.getD, h2]
theorem colI_len (T : List (List Int)) (k : Nat) : (colI T k).length = T.length := by simp [colI]

/-! ### tests over fractions -/
theorem dec_frac : ∀ p : Int × Int, Lget [.int .i64, .int .i64] (encF p) = some (p.1, p.2, ()) := fun _ => rfl
theorem comb1F (p : Int × Int) (w : World) (h : I64 p.1 ∧ I64 p.2) : call Try.prog 85 [.agg #[.int .i64 p.1, .int .i64 p.2]] (.one (.one .bool)) w (fun x w' => x = (!decide (IsFrac p.1 p.2)) ∧ bel w w') := by
  refine call_of (S85_calls p.1 p.2 w _ ?_)
  unfold S85
  refine wr_box fun x1 w2 X h' _ _ => ?_
  refine rd_boxN X (by kernel_rfl) rfl ?_
  refine call_mono (callB (validF p.1 p.2 w2 h.1.1 h.1.2 h.2.1 h.2.2)) ?_
  rintro x w5 ⟨rfl, h2⟩
  exact ⟨_, rfl, rfl, h'.trans h2⟩
theorem hasD (m : Hdr) (M : List (Int × Int)) (w : World) (H : Sl w m.1 m.2.1 m.2.2 2 (M.flatMap encF)) (hI : ∀ p ∈ M, I64 p.1 ∧ I64 p.2) :
    call Try.prog 84 [.slice m.1 m.2.1 m.2.2, .func (.func 85) #[] #[]] (.one (.one .bool)) w (fun x w' => x = M.any (fun p => !decide (IsFrac p.1 p.2)) ∧ bel w w') := by
  refine call_of (S84d_calls m.1 m.2.1 m.2.2 w _ ?_)
  unfold S84d
  refine call_mono (r := .one (.one (.int .i64))) (Q := fun x w' => x = idxI (fun p : Int × Int => !decide (IsFrac p.1 p.2)) M ∧ bel w w') (call_of (S114d_calls m.1 m.2.1 m.2.2 w _ ?_)) ?_
  · unfold S114d
    exact idx_aggs tyFracs agFrac encF_len (by omega) (l := [.int .i64, .int .i64]) (dec := fun p => (p.1, p.2, ())) dec_frac (fargs := fun (x5 : Int × Int × Unit) => [.agg #[.int .i64 x5.1, .int .i64 x5.2.1]]) H (fun p => !decide (IsFrac p.1 p.2)) (fun j p hp w' hb => comb1F p w' (hI p (mem_at hp)))
  · rintro x w2 ⟨rfl, hb⟩
    exact ⟨_, rfl, idxI_any _ _, hb⟩

/-! ### the numbers that are summed -/
theorem of3 (u r b : Hdr) (up : List Int) (T : List (List Int)) (rt : List Int) (c0 c1 : Addr) (k i : Nat) (row : List Int) (c : Int) (w : World) (H : Sys w u r b up T rt) (X : Box w c0 (sysc u r b)) (Y : Box w c1 [.int .i64 (k : Int)]) (h1 : T[i]? = some row) (h2 : row[k]? = some c) :
    call Try.prog 88 [.int .i64 (i : Int), .pointer (some c0), .pointer (some c1)] (.one (.one (.int .i64))) w (fun x w' => x = c ∧ bel w w') := by
  refine call_of (S88_calls (i : Int) c0 c1 w _ ?_)
  unfold S88
  have hT := H.r.len
  have hi := (List.getElem?_eq_some_iff.1 h1).1
  refine drw_mk fun w1 h _ => ?_
  replace H := H.up h; replace X := X.up h; replace Y := Y.up h
  refine rd_box (by kernel_rfl) X (i := 1) rfl rfl ?_
  refine H.r.at tyTab (by kernel_rfl) rfl (by omega) fun y row' q HR => ?_
  rw [h1] at q; cases q
  refine rd_box0 (by kernel_rfl) Y rfl rfl ?_
  refine at_int tyI64 (by kernel_rfl) HR rfl (by have := Sl.int HR; have := (List.getElem?_eq_some_iff.1 h2).1; omega) fun c' q => ?_
  rw [h2] at q; cases q
  exact ⟨_, rfl, rfl, h⟩
theorem of4 (u r b : Hdr) (up : List Int) (T : List (List Int)) (rt : List Int) (c0 : Addr) (i : Nat) (c : Int) (w : World) (H : Sys w u r b up T rt) (X : Box w c0 (sysc u r b)) (h1 : rt[i]? = some c) :
    call Try.prog 89 [.int .i64 (i : Int), .pointer (some c0)] (.one (.one (.int .i64))) w (fun x w' => x = c ∧ bel w w') := by
  refine call_of (S89_calls (i : Int) c0 w _ ?_)
  unfold S89
  have hb := H.b.int
  have hi := (List.getElem?_eq_some_iff.1 h1).1
  refine rd_box (by kernel_rfl) X (i := 2) rfl rfl ?_
  refine at_int tyI64 (by kernel_rfl) H.b rfl (by omega) fun c' q => ?_
  rw [h1] at q; cases q
  exact ⟨_, rfl, rfl, bel.refl _⟩

set_option maxHeartbeats 800000 in
theorem sumc (c0 c1 cm : Addr) (m : Hdr) (M : List (Int × Int)) (col : List Int) (w : World) (C : Box w cm [.slice m.1 m.2.1 m.2.2]) (HM : Sl w m.1 m.2.1 m.2.2 2 (M.flatMap encF)) (hF : ∀ p ∈ M, IsFrac p.1 p.2) (hl : col.length = M.length) (hm : M.length ≤ 1000) (hc : ∀ c ∈ col, I64 c)
    (OF : ∀ (i : Nat) c, col[i]? = some c → ∀ w', bel w w' → call Try.prog 88 [.int .i64 (i : Int), .pointer (some c0), .pointer (some c1)] (.one (.one (.int .i64))) w' (fun x w'' => x = c ∧ bel w' w'')) :
    call Try.prog 86 [.func (.func 88) #[] #[.pointer (some c0), .pointer (some c1)], .pointer (some cm)] rFB w (fun x w' => x = fracT (dotN col M M.length) ∧ bel w w') := by
  refine call_of (S86c_calls c0 c1 cm w _ ?_)
  unfold S86c
  have hmn := fr_len HM
  refine wr_alloc (z := fracv 0 0) (by kernel_rfl) fun x1 w2 X h hx _ => ?_
  have hne : w.heap.size ≤ x1.block := by omega
  refine call_mono (wholeF 0 w2 ⟨by omega, by omega⟩) ?_
  rintro (t0 : TE) w4 ⟨hB0, _, _, h'⟩
  replace h := h.trans h'; replace X := X.up h'; clear h'
  refine var_mk (z := .agg #[.bool false, .slice none 0 0, .slice none 0 0]) (by kernel_rfl) (by kernel_rfl) rfl rfl fun x5 w7 Y h2' hy => ?_
  replace Y : Box w7 x5 (boxc t0) := Y
  have A0 : ApT x5 t0 (0 : Rat) := ApT.oldE hB0 (by omega)
  have hn5 : w4.heap.size ≤ x5.block := by omega
  refine rd_box0 (by kernel_rfl) (C.up (h.trans h2')) rfl rfl ?_
  refine loop_up m.2.1 (fun k w' => bel w4 w' ∧ ∃ t, Box w' x5 (boxc t) ∧ EX (2 + 5 * k) w' t (dotN col M k) ∧ ApT x5 t (dotN col M k)) ⟨h2', t0, Y, hB0.up h2', A0⟩ fun k w11 hk ⟨hw, t, Y, hB, hA⟩ again hag _ => ?_
  refine br_dec (fun e2 => ?_) (fun e2 => ?_)
  · dsimp only at e2
    obtain ⟨p, hp⟩ : ∃ p, M[k]? = some p := ⟨_, List.getElem?_eq_getElem (by omega)⟩
    obtain ⟨c, hcc⟩ : ∃ c, col[k]? = some c := ⟨_, List.getElem?_eq_getElem (by omega)⟩
    have hFp := hF p (mem_at hp)
    have hci := hc c (mem_at hcc)
    refine join_mk (fun _ w' => bel w4 w' ∧ ∃ t, Box w' x5 (boxc t) ∧ EX (2 + 5 * (k + 1)) w' t (dotN col M (k + 1)) ∧ ApT x5 t (dotN col M (k + 1))) (fun K hK => ?_) (fun _ w' hh _ => z_i64 (by dsimp only; omega) (hag _ (by omega) hh))
    refine at_frac (HM.up (h.trans hw)) rfl hp ?_
    refine boxF fun x18 w20 h' Z _ => ?_
    replace hw := hw.trans h'; replace Y := Y.up h'; replace hB := hB.up h'
    refine call_mono (OF k c hcc w20 (h.trans hw)) ?_
    rintro x21 w22 ⟨hx21, h'⟩
    have hx22 : c = x21 := hx21.symm
    subst hx22
    replace hw := hw.trans h'; replace Y := Y.up h'; replace hB := hB.up h'; replace Z := Z.up h'
    have same : dotT col M k = 0 → K () w22 := fun q => by
      have e : dotN col M (k + 1) = dotN col M k := by
        show dotN col M k + dotT col M k = _
        rw [q, Rat.add_zero]
      exact hK _ _ ⟨hw, t, Y, by rw [e]; exact hB.le (by omega), by rw [e]; exact hA⟩
    refine br_ne (fun n2 => ?_) (fun n2 => same (dotT_c0 hcc hp n2))
    refine rd_box0 (by kernel_rfl) Z rfl rfl ?_
    refine br_ne (fun n1 => ?_) (fun n1 => same (dotT_p0 hcc hp n1))
    refine drw_mk fun w24 h3' _ => ?_
    replace hw := hw.trans h3'; replace Y := Y.up h3'; replace hB := hB.up h3'; replace Z := Z.up h3'
    refine flEx_mk (fun i _ v w' => (i = 2 → ∃ t : TE, v = exV t ∧ EX 2 w' t (ratv p.1 p.2)) ∧ (i = 4 → ∃ t : TE, v = exV t ∧ EX 2 w' t (c : Rat)) ∧ (i = 5 → ∃ t : TE, v = exV t ∧ EX 4 w' t (ratv p.1 p.2 * (c : Rat))))
      (fun _ _ _ _ _ h hb => ⟨fun e => by obtain ⟨t, q1, q2⟩ := h.1 e; exact ⟨t, q1, q2.up hb⟩, fun e => by obtain ⟨t, q1, q2⟩ := h.2.1 e; exact ⟨t, q1, q2.up hb⟩, fun e => by obtain ⟨t, q1, q2⟩ := h.2.2 e; exact ⟨t, q1, q2.up hb⟩⟩) ?_
    refine rd_boxN Y (by kernel_rfl) rfl ?_
    refine rd_boxN Z (by kernel_rfl) rfl ?_
    refine flc_mk (fun w70 hb _ => call_mono (fromX w70 hFp) fun y w' ⟨hy, hb'⟩ => ⟨hb', fun _ => ⟨y, rfl, hy⟩, fun e => by omega, fun e => by omega⟩) (fun (x75 : TE) => ?_)
    refine flc_mk (fun w80 hb _ => call_mono (wholeF c w80 hci) fun y w' ⟨hy, _, _, hb'⟩ => ⟨hb', fun e => by omega, fun _ => ⟨y, rfl, hy⟩, fun e => by omega⟩) (fun (x80 : TE) => ?_)
    refine flc_mk (fun w85 hb hf => ?_) (fun (x85 : TE) => ?_)
    · obtain ⟨⟨_, g2, _⟩, ⟨g1, _⟩, _⟩ := hf
      obtain ⟨t1, e1, B1⟩ := g1 rfl
      obtain ⟨t2, e2, B2⟩ := g2 rfl
      have e1' := exV_inj (t := x75) e1
      have e2' := exV_inj (t := x80) e2
      subst e1' e2'
      exact call_mono (mulE x75 x80 _ _ 2 2 w85 B1 B2 (by omega) (by omega)) fun y w' ⟨hy, _, _, hb'⟩ => ⟨hb', fun e => by omega, fun e => by omega, fun _ => ⟨y, rfl, hy⟩⟩
    · refine flend_mk fun w90 hb hf => ?_
      obtain ⟨⟨_, _, g⟩, _⟩ := hf
      obtain ⟨t1, e1, B1⟩ := g rfl
      have e1' := exV_inj (t := x85) e1
      subst e1'
      refine call_mono (addE t x85 _ _ (2 + 5 * k) 4 w90 (hB.up hb) B1 (by omega) (by omega)) ?_
      rintro (y : TE) w93 ⟨hy, f1, f2, h4'⟩
      have A' : ApT x5 y (dotN col M (k + 1)) := ApT.fr (Y.up hb) f1 f2
      have e : dotN col M (k + 1) = dotN col M k + ratv p.1 p.2 * (c : Rat) := by
        show dotN col M k + dotT col M k = _
        rw [dotT_at hcc hp]
      rw [← e] at hy
      refine wu_box ((Y.up hb).up h4') (by kernel_rfl) (Nat.le_refl 3) rfl fun w94 Y' hg _ => ?_
      exact hK _ _ ⟨((hw.trans hb).trans h4').grownAt hg hn5, y, Y', (hy.grownA A' hg).le (by omega), A'⟩
  · dsimp only at e2
    have hk' : k = M.length := by omega
    subst hk'
    refine rd_boxN Y (by kernel_rfl) rfl ?_
    refine call_mono (fracE t _ _ w11 hB) ?_
    rintro x49 w50 ⟨rfl, h'⟩
    replace h := (h.trans hw).trans h'
    replace X := (X.up hw).up h'
    refine wu_box X (by kernel_rfl) (Nat.le_refl 2) rfl fun w51 X' hg _ => ?_
    exact rd_boxV X' (by kernel_rfl) rfl ⟨_, rfl, rfl, h.grownAt hg hne⟩

set_option maxHeartbeats 800000 in
theorem sumd (c0 cm : Addr) (m : Hdr) (M : List (Int × Int)) (col : List Int) (w : World) (C : Box w cm [.slice m.1 m.2.1 m.2.2]) (HM : Sl w m.1 m.2.1 m.2.2 2 (M.flatMap encF)) (hF : ∀ p ∈ M, IsFrac p.1 p.2) (hl : col.length = M.length) (hm : M.length ≤ 1000) (hc : ∀ c ∈ col, I64 c)
    (OF : ∀ (i : Nat) c, col[i]? = some c → ∀ w', bel w w' → call Try.prog 89 [.int .i64 (i : Int), .pointer (some c0)] (.one (.one (.int .i64))) w' (fun x w'' => x = c ∧ bel w' w'')) :
    call Try.prog 86 [.func (.func 89) #[] #[.pointer (some c0)], .pointer (some cm)] rFB w (fun x w' => x = fracT (dotN col M M.length) ∧ bel w w') := by
  refine call_of (S86d_calls c0 cm w _ ?_)
  unfold S86d
  have hmn := fr_len HM
  refine wr_alloc (z := fracv 0 0) (by kernel_rfl) fun x1 w2 X h hx _ => ?_
  have hne : w.heap.size ≤ x1.block := by omega
  refine call_mono (wholeF 0 w2 ⟨by omega, by omega⟩) ?_
  rintro (t0 : TE) w4 ⟨hB0, _, _, h'⟩
  replace h := h.trans h'; replace X := X.up h'; clear h'
  refine var_mk (z := .agg #[.bool false, .slice none 0 0, .slice none 0 0]) (by kernel_rfl) (by kernel_rfl) rfl rfl fun x5 w7 Y h2' hy => ?_
  replace Y : Box w7 x5 (boxc t0) := Y
  have A0 : ApT x5 t0 (0 : Rat) := ApT.oldE hB0 (by omega)
  have hn5 : w4.heap.size ≤ x5.block := by omega
  refine rd_box0 (by kernel_rfl) (C.up (h.trans h2')) rfl rfl ?_
  refine loop_up m.2.1 (fun k w' => bel w4 w' ∧ ∃ t, Box w' x5 (boxc t) ∧ EX (2 + 5 * k) w' t (dotN col M k) ∧ ApT x5 t (dotN col M k)) ⟨h2', t0, Y, hB0.up h2', A0⟩ fun k w11 hk ⟨hw, t, Y, hB, hA⟩ again hag _ => ?_
  refine br_dec (fun e2 => ?_) (fun e2 => ?_)
  · dsimp only at e2
    obtain ⟨p, hp⟩ : ∃ p, M[k]? = some p := ⟨_, List.getElem?_eq_getElem (by omega)⟩
    obtain ⟨c, hcc⟩ : ∃ c, col[k]? = some c := ⟨_, List.getElem?_eq_getElem (by omega)⟩
    have hFp := hF p (mem_at hp)
    have hci := hc c (mem_at hcc)
    refine join_mk (fun _ w' => bel w4 w' ∧ ∃ t, Box w' x5 (boxc t) ∧ EX (2 + 5 * (k + 1)) w' t (dotN col M (k + 1)) ∧ ApT x5 t (dotN col M (k + 1))) (fun K hK => ?_) (fun _ w' hh _ => z_i64 (by dsimp only; omega) (hag _ (by omega) hh))
    refine at_frac (HM.up (h.trans hw)) rfl hp ?_
    refine boxF fun x18 w20 h' Z _ => ?_
    replace hw := hw.trans h'; replace Y := Y.up h'; replace hB := hB.up h'
    refine call_mono (OF k c hcc w20 (h.trans hw)) ?_
    rintro x21 w22 ⟨hx21, h'⟩
    have hx22 : c = x21 := hx21.symm
    subst hx22
    replace hw := hw.trans h'; replace Y := Y.up h'; replace hB := hB.up h'; replace Z := Z.up h'
    have same : dotT col M k = 0 → K () w22 := fun q => by
      have e : dotN col M (k + 1) = dotN col M k := by
        show dotN col M k + dotT col M k = _
        rw [q, Rat.add_zero]
      exact hK _ _ ⟨hw, t, Y, by rw [e]; exact hB.le (by omega), by rw [e]; exact hA⟩
    refine br_ne (fun n2 => ?_) (fun n2 => same (dotT_c0 hcc hp n2))
    refine rd_box0 (by kernel_rfl) Z rfl rfl ?_
    refine br_ne (fun n1 => ?_) (fun n1 => same (dotT_p0 hcc hp n1))
    refine drw_mk fun w24 h3' _ => ?_
    replace hw := hw.trans h3'; replace Y := Y.up h3'; replace hB := hB.up h3'; replace Z := Z.up h3'
    refine flEx_mk (fun i _ v w' => (i = 2 → ∃ t : TE, v = exV t ∧ EX 2 w' t (ratv p.1 p.2)) ∧ (i = 4 → ∃ t : TE, v = exV t ∧ EX 2 w' t (c : Rat)) ∧ (i = 5 → ∃ t : TE, v = exV t ∧ EX 4 w' t (ratv p.1 p.2 * (c : Rat))))
      (fun _ _ _ _ _ h hb => ⟨fun e => by obtain ⟨t, q1, q2⟩ := h.1 e; exact ⟨t, q1, q2.up hb⟩, fun e => by obtain ⟨t, q1, q2⟩ := h.2.1 e; exact ⟨t, q1, q2.up hb⟩, fun e => by obtain ⟨t, q1, q2⟩ := h.2.2 e; exact ⟨t, q1, q2.up hb⟩⟩) ?_
    refine rd_boxN Y (by kernel_rfl) rfl ?_
    refine rd_boxN Z (by kernel_rfl) rfl ?_
    refine flc_mk (fun w70 hb _ => call_mono (fromX w70 hFp) fun y w' ⟨hy, hb'⟩ => ⟨hb', fun _ => ⟨y, rfl, hy⟩, fun e => by omega, fun e => by omega⟩) (fun (x75 : TE) => ?_)
    refine flc_mk (fun w80 hb _ => call_mono (wholeF c w80 hci) fun y w' ⟨hy, _, _, hb'⟩ => ⟨hb', fun e => by omega, fun _ => ⟨y, rfl, hy⟩, fun e => by omega⟩) (fun (x80 : TE) => ?_)
    refine flc_mk (fun w85 hb hf => ?_) (fun (x85 : TE) => ?_)
    · obtain ⟨⟨_, g2, _⟩, ⟨g1, _⟩, _⟩ := hf
      obtain ⟨t1, e1, B1⟩ := g1 rfl
      obtain ⟨t2, e2, B2⟩ := g2 rfl
      have e1' := exV_inj (t := x75) e1
      have e2' := exV_inj (t := x80) e2
      subst e1' e2'
      exact call_mono (mulE x75 x80 _ _ 2 2 w85 B1 B2 (by omega) (by omega)) fun y w' ⟨hy, _, _, hb'⟩ => ⟨hb', fun e => by omega, fun e => by omega, fun _ => ⟨y, rfl, hy⟩⟩
    · refine flend_mk fun w90 hb hf => ?_
      obtain ⟨⟨_, _, g⟩, _⟩ := hf
      obtain ⟨t1, e1, B1⟩ := g rfl
      have e1' := exV_inj (t := x85) e1
      subst e1'
      refine call_mono (addE t x85 _ _ (2 + 5 * k) 4 w90 (hB.up hb) B1 (by omega) (by omega)) ?_
      rintro (y : TE) w93 ⟨hy, f1, f2, h4'⟩
      have A' : ApT x5 y (dotN col M (k + 1)) := ApT.fr (Y.up hb) f1 f2
      have e : dotN col M (k + 1) = dotN col M k + ratv p.1 p.2 * (c : Rat) := by
        show dotN col M k + dotT col M k = _
        rw [dotT_at hcc hp]
      rw [← e] at hy
      refine wu_box ((Y.up hb).up h4') (by kernel_rfl) (Nat.le_refl 3) rfl fun w94 Y' hg _ => ?_
      exact hK _ _ ⟨((hw.trans hb).trans h4').grownAt hg hn5, y, Y', (hy.grownA A' hg).le (by omega), A'⟩
  · dsimp only at e2
    have hk' : k = M.length := by omega
    subst hk'
    refine rd_boxN Y (by kernel_rfl) rfl ?_
    refine call_mono (fracE t _ _ w11 hB) ?_
    rintro x49 w50 ⟨rfl, h'⟩
    replace h := (h.trans hw).trans h'
    replace X := (X.up hw).up h'
    refine wu_box X (by kernel_rfl) (Nat.le_refl 2) rfl fun w51 X' hg _ => ?_
    exact rd_boxV X' (by kernel_rfl) rfl ⟨_, rfl, rfl, h.grownAt hg hne⟩

set_option maxHeartbeats 800000 in
theorem combL (u r b m : Hdr) (up : List Int) (T : List (List Int)) (rt : List Int) (M : List (Int × Int)) (w : World) (H : Sys w u r b up T rt) (HM : Sl w m.1 m.2.1 m.2.2 2 (M.flatMap encF)) (hI : ∀ p ∈ M, I64 p.1 ∧ I64 p.2) :
    call Try.prog 36 [sysv u r b, .slice m.1 m.2.1 m.2.2] rCT w (fun x w' => CombR up T rt M x w' ∧ bel w w') := by
  refine call_of (S36_calls u.1 u.2.1 u.2.2 r.1 r.2.1 r.2.2 b.1 b.2.1 b.2.2 m.1 m.2.1 m.2.2 w _ ?_)
  unfold S36
  have hu := H.u.int
  have hT := H.r.len
  have hb := H.b.int
  have hm := fr_len HM
  refine wr_box fun x1 w2 X h _ _ => ?_
  replace X : Box w2 x1 (sysc u r b) := X
  replace H := H.up h; replace HM := HM.up h
  refine wr_box fun x3 w4 C h' _ _ => ?_
  replace C : Box w4 x3 [.slice m.1 m.2.1 m.2.2] := C
  replace h := h.trans h'; replace X := X.up h'; replace H := H.up h'; replace HM := HM.up h'; clear h'
  refine wr_alloc (z := fracv 0 0) (by kernel_rfl) fun x5 w6 Z h' hz _ => ?_
  have hne : w.heap.size ≤ x5.block := by rw [hz]; exact h.size
  replace h := h.trans h'; replace X := X.up h'; replace H := H.up h'; replace HM := HM.up h'; replace C := C.up h'; clear h'
  have bad : ∀ {w' : World} {e : Int} {cs : List Value}, cs.length = 2 → bel w w' → Box w' x5 cs → combE up T rt M = e → e ≠ 0 →
      wu Try.prog (Instr.storeAt 23 (.pointer (some x5)) (.agg #[.int .i64 0, .int .i64 0])) w' fun w10 => rd Try.prog (loadVar 23 x5) (.agg [.int .i64, .int .i64]) w10 fun x11 =>
        ∃ x : CT, Value.tuple #[.slice none 0 0, .agg #[.int .i64 x11.1, .int .i64 x11.2.1], .int .i64 e] = rCT.val x ∧ CombR up T rt M x w10 ∧ bel w w10 := by
    intro w' e cs hl h Z he h0
    refine wu_box Z (by kernel_rfl) (by rw [hl]; exact Nat.le_refl 2) rfl fun w5 Z' hg _ => ?_
    have Z2 : Box w5 x5 [.int .i64 0, .int .i64 0] := by
      match cs, hl with
      | [_, _], _ => exact Z'
    exact rd_boxV Z2 (by kernel_rfl) rfl ⟨(((none, 0, 0), (0, 0, ()), e, ()) : CT), rfl, CombR.bad he h0, h.grownAt hg hne⟩
  refine rd_boxN X (by kernel_rfl) rfl ?_
  refine call_mono (validL u r b up T rt w6 H) ?_
  rintro x8 w9 ⟨rfl, h'⟩
  replace h := h.trans h'; replace X := X.up h'; replace H := H.up h'; replace HM := HM.up h'; replace C := C.up h'; replace Z := Z.up h'; clear h'
  refine br_ne (fun e0 => bad rfl h Z (combE_1 e0) e0) (fun e0 => ?_)
  obtain ⟨v1, v2, v3, v4⟩ := sysE_ok e0
  refine rd_box0 (by kernel_rfl) C rfl rfl ?_
  refine rd_box (by kernel_rfl) X (i := 1) rfl rfl ?_
  refine br_ne (fun e1 => bad rfl h Z (combE_2 e0 (by dsimp only at e1; omega)) (by omega)) (fun e1 => ?_)
  dsimp only at e1
  have hML : M.length = T.length := by omega
  refine rd_box0 (by kernel_rfl) C rfl rfl ?_
  refine call_mono (hasD m M w9 HM hI) ?_
  rintro x17 w18 ⟨rfl, h'⟩
  replace h := h.trans h'; replace X := X.up h'; replace H := H.up h'; replace HM := HM.up h'; replace C := C.up h'; replace Z := Z.up h'; clear h'
  refine br_mk (fun e => bad rfl h Z (combE_3 e0 hML fun q => ?_) (by omega)) (fun e => ?_)
  · obtain ⟨p, hp, hq⟩ := any_t e
    rw [decide_eq_true (q p hp)] at hq; cases hq
  have hF : ∀ p ∈ M, IsFrac p.1 p.2 := fun p hp => by have := any_f e p hp; simpa using this
  refine rd_box0 (by kernel_rfl) X rfl rfl ?_
  have Z0 := Z.lt
  refine loop_upA u.2.1 (fun i (a : Hdr) w' => bel w18 w' ∧ a.2.1 = i ∧ Own w' w18.heap.size 23 2 a.1 i a.2.2 ((cols up T M i).flatMap encF) ∧ ∀ k, k < i → Fits (colQ T M k)) ⟨bel.refl _, rfl, Own.nil _ _ _ _, fun k h => by omega⟩ fun i a w24 hi ⟨hw, ha, O, hq⟩ again hag _ => ?_
  refine br_dec (fun e => ?_) (fun e => ?_)
  · dsimp only at e
    refine var_mk (z := .int .i64 0) (v := .int .i64 (i : Int)) (by kernel_rfl) (by kernel_rfl) rfl rfl fun x25 w27 V h' _ => ?_
    replace V : Box w27 x25 [.int .i64 (i : Int)] := V
    have hw1 := hw.trans h'
    refine call_mono (sumc x1 x25 x3 m M (colI T i) w27 (C.up hw1) (HM.up hw1) hF (by rw [colI_len]; omega) (by omega) (fun c hc => ?_) (fun j c hj w' hb => ?_)) ?_
    · obtain ⟨row, hrow, rfl⟩ := List.mem_map.1 hc
      have := v3.2.2 row hrow
      rw [List.getD_eq_getElem?_getD]
      cases hg : row[i]? with
      | none => exact ⟨by decide, by decide⟩
      | some c => have := this c (mem_at hg); exact ⟨by simp; omega, by simp; omega⟩
    · obtain ⟨row, hrow⟩ : ∃ row, T[j]? = some row := ⟨_, List.getElem?_eq_getElem (by have := (List.getElem?_eq_some_iff.1 hj).1; rw [colI_len] at this; exact this)⟩
      have hrl := v4.2 row (mem_at hrow)
      obtain ⟨c', hc'⟩ : ∃ c', row[i]? = some c' := ⟨_, List.getElem?_eq_getElem (by omega)⟩
      have := colI_get hrow hc'
      rw [hj] at this; cases this
      exact of3 u r b up T rt x1 x25 i j row c w' (H.up (hw1.trans hb)) (X.up (hw1.trans hb)) (V.up hb) hrow hc'
    rintro x28 w29 ⟨rfl, h2'⟩
    have hw2 := hw1.trans h2'
    have eq : dotN (colI T i) M M.length = colQ T M i := by unfold colQ; rw [hML]
    rw [eq]
    refine boxF fun x30 w32 h3' Y _ => ?_
    have hw3 := hw2.trans h3'
    by_cases hft : Fits (colQ T M i)
    · have eT : fracT (colQ T M i) = (((colQ T M i).num, (((colQ T M i).den : Nat) : Int), ()), true, ()) := by unfold fracT; rw [if_pos hft]
      rw [eT] at Y ⊢
      refine br_f rfl ?_
      refine rd_boxN Y (by kernel_rfl) rfl ?_
      dsimp only
      rw [ha]
      refine wr_app1 tyFracs (O.kept ((h'.trans h2').trans h3')) (by have := hw3.size; omega) rfl (by omega) (by omega) rfl rfl (by omega) (by unfold maxLen; omega) fun a' c' w39 O' hg _ _ => ?_
      refine z_i64 (by omega) ?_
      refine hag (a', i + 1, c') w39 (by omega) ⟨hw3.own (O.kept ((h'.trans h2').trans h3')) hg (Nat.le_refl _), rfl, ?_, fun k hk => ?_⟩
      · rw [cols_snoc, List.flatMap_append]; exact O'
      · rcases Nat.lt_or_ge k i with q | q
        · exact hq k q
        · have : k = i := by omega
          subst this; exact hft
    · have eT : fracT (colQ T M i) = ((0, 0, ()), false, ()) := by unfold fracT; rw [if_neg hft]
      rw [eT]
      exact br_t rfl (bad rfl (h.trans hw3) (Z.up hw3) (combE_4 e0 hML hF fun q => hft (q.1 i (by omega))) (by omega))
  · dsimp only at e
    have hi' : i = up.length := by omega
    subst hi'
    refine call_mono (sumd x1 x3 m M rt w24 (C.up hw) (HM.up hw) hF (by have := v4.1; omega) (by omega) (fun c hc => ?_) (fun j c hj w' hb => of4 u r b up T rt x1 j c w' (H.up (hw.trans hb)) (X.up (hw.trans hb)) hj)) ?_
    · have := v3.2.1 c hc; exact ⟨by omega, by omega⟩
    rintro x41 w42 ⟨rfl, h2'⟩
    have hw2 := hw.trans h2'
    have eq : dotN rt M M.length = rhsQ T rt M := by unfold rhsQ; rw [hML]
    rw [eq]
    refine boxF fun x43 w45 h3' Y _ => ?_
    have hw3 := hw2.trans h3'
    by_cases hft : Fits (rhsQ T rt M)
    · have eT : fracT (rhsQ T rt M) = (((rhsQ T rt M).num, (((rhsQ T rt M).den : Nat) : Int), ()), true, ()) := by unfold fracT; rw [if_pos hft]
      rw [eT] at Y ⊢
      refine br_f rfl ?_
      refine drw_mk fun w48 h4' _ => ?_
      have hw4 := hw3.trans h4'
      refine rd_boxN (Y.up h4') (by kernel_rfl) rfl ?_
      refine wu_box (Z.up hw4) (by kernel_rfl) (Nat.le_refl 2) rfl fun w50 Z' hg _ => ?_
      refine rd_boxV Z' (by kernel_rfl) rfl ⟨(((a.1, a.2.1, a.2.2), ((rhsQ T rt M).num, (((rhsQ T rt M).den : Nat) : Int), ()), 0, ()) : CT), rfl, ⟨(combE_0 e0 hML hF ⟨hq, hft⟩).symm, fun _ => ⟨?_, rfl⟩, fun q => absurd (combE_0 e0 hML hF ⟨hq, hft⟩) q⟩, (h.trans hw4).grownAt hg hne⟩
      dsimp only
      rw [ha]
      refine ((O.kept ((h2'.trans h3').trans h4')).keptBy hg ?_).sl
      cases hb' : blk a.1 with
      | none => exact .inl rfl
      | some k => exact .inr fun q => by have := (O.lt k hb').1; have := Z0; injection q; omega
    · have eT : fracT (rhsQ T rt M) = ((0, 0, ()), false, ()) := by unfold fracT; rw [if_neg hft]
      rw [eT]
      exact br_t rfl (bad rfl (h.trans hw3) (Z.up hw3) (combE_4 e0 hML hF fun q => hft q.2) (by omega))
end Go.Proofs.Ytajpdnphamomjaa

/- Combinations of rows: the reference. -/

namespace Go.Proofs.Ytajpdnphamomjaa
open Go.RowKit Go.Q Go.Q.Num Go.V

theorem tyBigs : TyS Try.prog 112 90 (.agg #[.bool false, .slice none 0 0, .slice none 0 0]) 3 56 := ⟨by kernel_rfl, by kernel_rfl⟩
theorem agBig : aggOf Try.prog 90 3 = true := by kernel_rfl
theorem boxc_len (t : TE) : (boxc t).length = 3 := rfl
abbrev OffQ (o : Option Nat) (t : TE) (r : Rat) : Prop := (∀ ad, t.2.1.1 = some ad → r.num.natAbs ≠ 0 → some ad.block ≠ o) ∧ (∀ ad, t.2.2.1.1 = some ad → r.den ≠ 0 → some ad.block ≠ o)
theorem BX.grownO {L : Nat} {w w' : World} {t : TE} {r : Rat} {o : Option Nat} (h : BX L w t r) (ha : OffQ o t r) (hg : w.grownBy w' o) : BX L w' t r :=
  ⟨h.1, NumAt.grown h.2.1 hg fun a q hv _ => ha.1 a q hv, NumAt.grown h.2.2.1 hg fun a q hv _ => ha.2 a q hv, h.2.2.2⟩
abbrev FrT (w : World) (t : TE) : Prop := Fr w t.2.1.1 ∧ Fr w t.2.2.1.1
theorem FrT.mono {w w' : World} {t : TE} (h : FrT w' t) (hb : w.heap.size ≤ w'.heap.size) : FrT w t := ⟨Fr.mono h.1 hb, Fr.mono h.2 hb⟩
theorem FrT.off {w : World} {t : TE} (h : FrT w t) {o : Option Nat} (ho : ∀ k, o = some k → k < w.heap.size) (r : Rat) : OffQ o t r :=
  ⟨fun ad ha _ e => by have := h.1 ad ha; have := ho _ e.symm; omega, fun ad ha _ e => by have := h.2 ad ha; have := ho _ e.symm; omega⟩
theorem BX.offNew {L : Nat} {w : World} {t : TE} {r : Rat} (h : BX L w t r) {o : Option Nat} (ho : ∀ k, o = some k → w.heap.size ≤ k) : OffQ o t r :=
  ⟨fun ad ha hv e => by have := NumAt.lt_heap h.2.1 hv ad ha; have := ho _ e.symm; omega, fun ad ha hv e => by have := NumAt.lt_heap h.2.2.1 hv ad ha; have := ho _ e.symm; omega⟩

def preE (up : List Int) (T : List (List Int)) (rt : List Int) (M : List (Int × Int)) : Int :=
  if sysE up T rt ≠ 0 then sysE up T rt else if M.length ≠ T.length then 9 else if ∀ p ∈ M, IsFrac p.1 p.2 then 0 else 1
section
variable {up : List Int} {T : List (List Int)} {rt : List Int} {M : List (Int × Int)}
theorem preE_1 (h : sysE up T rt ≠ 0) : preE up T rt M = sysE up T rt := by unfold preE; rw [if_pos h]
theorem preE_2 (h : sysE up T rt = 0) (h2 : M.length ≠ T.length) : preE up T rt M = 9 := by unfold preE; rw [if_neg (by omega), if_pos h2]
theorem preE_3 (h : sysE up T rt = 0) (h2 : M.length = T.length) (h3 : ¬ ∀ p ∈ M, IsFrac p.1 p.2) : preE up T rt M = 1 := by unfold preE; rw [if_neg (by omega), if_neg (by omega), if_neg h3]
theorem preE_0 (h : sysE up T rt = 0) (h2 : M.length = T.length) (h3 : ∀ p ∈ M, IsFrac p.1 p.2) : preE up T rt M = 0 := by unfold preE; rw [if_neg (by omega), if_neg (by omega), if_pos h3]
theorem preE_ok (h : preE up T rt M = 0) : sysE up T rt = 0 ∧ M.length = T.length ∧ (∀ p ∈ M, IsFrac p.1 p.2) := by
  by_cases h1 : sysE up T rt = 0
  · by_cases h2 : M.length = T.length
    · by_cases h3 : ∀ p ∈ M, IsFrac p.1 p.2
      · exact ⟨h1, h2, h3⟩
      · rw [preE_3 h1 h2 h3] at h; omega
    · rw [preE_2 h1 h2] at h; omega
  · rw [preE_1 h1] at h; exact absurd h h1
theorem combE_pre (h : preE up T rt M ≠ 0) : combE up T rt M = preE up T rt M := by
  by_cases h1 : sysE up T rt = 0
  · by_cases h2 : M.length = T.length
    · by_cases h3 : ∀ p ∈ M, IsFrac p.1 p.2
      · exact absurd (preE_0 h1 h2 h3) h
      · rw [preE_3 h1 h2 h3, combE_3 h1 h2 h3]
    · rw [preE_2 h1 h2, combE_2 h1 h2]
  · rw [preE_1 h1, combE_1 h1]
end
abbrev BT := Hdr × TE × Int × Unit
abbrev rBT : RS := .many [.one .slice, sBig, .one (.int .i64)]
def BigR (up : List Int) (T : List (List Int)) (rt : List Int) (M : List (Int × Int)) (x : BT) (w : World) : Prop :=
  x.2.2.1 = preE up T rt M ∧ (preE up T rt M = 0 → (∃ ts : List TE, Sl w x.1.1 x.1.2.1 x.1.2.2 3 (ts.flatMap boxc) ∧ ts.length = up.length ∧ ∀ (k : Nat) t, ts[k]? = some t → BX 1000 w t (colQ T M k)) ∧ BX 1000 w x.2.1 (rhsQ T rt M))

set_option maxHeartbeats 3200000 in
theorem comb11 (u r b m : Hdr) (up : List Int) (T : List (List Int)) (rt : List Int) (M : List (Int × Int)) (w : World) (H : Sys w u r b up T rt) (HM : Sl w m.1 m.2.1 m.2.2 2 (M.flatMap encF)) (hI : ∀ p ∈ M, I64 p.1 ∧ I64 p.2) :
    call Try.prog 90 [sysv u r b, .slice m.1 m.2.1 m.2.2] rBT w (fun x w' => BigR up T rt M x w' ∧ bel w w') := by
  refine call_of (S90_calls u.1 u.2.1 u.2.2 r.1 r.2.1 r.2.2 b.1 b.2.1 b.2.2 m.1 m.2.1 m.2.2 w _ ?_)
  unfold S90
  have hu := H.u.int
  have hT := H.r.len
  have hb := H.b.int
  have hm := fr_len HM
  have km := HM.le
  refine wr_box fun x1 w2 X h _ _ => ?_
  replace X : Box w2 x1 (sysc u r b) := X
  replace H := H.up h; replace HM := HM.up h
  refine wr_alloc (z := .agg #[.bool false, .slice none 0 0, .slice none 0 0]) (by kernel_rfl) fun x3 w4 Z h' hz _ => ?_
  have hne : w.heap.size ≤ x3.block := by rw [hz]; exact h.size
  replace h := h.trans h'; replace X := X.up h'; replace H := H.up h'; replace HM := HM.up h'; clear h'
  have bad : ∀ {w' : World} {e : Int} {cs : List Value}, cs.length = 3 → bel w w' → Box w' x3 cs → preE up T rt M = e → e ≠ 0 →
      wu Try.prog (Instr.storeAt 90 (.pointer (some x3)) (.agg #[.bool false, .slice none 0 0, .slice none 0 0])) w' fun w10 => rd Try.prog (loadVar 90 x3) (.agg [.bool, .slice, .slice]) w10 fun (x11 : TE) =>
        ∃ x : BT, Value.tuple #[.slice none 0 0, .agg #[.bool x11.1, .slice x11.2.1.1 x11.2.1.2.1 x11.2.1.2.2, .slice x11.2.2.1.1 x11.2.2.1.2.1 x11.2.2.1.2.2], .int .i64 e] = rBT.val x ∧ BigR up T rt M x w10 ∧ bel w w10 := by
    intro w' e cs hl h Z he h0
    refine wu_box Z (by kernel_rfl) (by rw [hl]; exact Nat.le_refl 3) rfl fun w5 Z' hg _ => ?_
    have Z2 : Box w5 x3 [.bool false, .slice none 0 0, .slice none 0 0] := by
      match cs, hl with
      | [_, _, _], _ => exact Z'
    exact rd_boxV Z2 (by kernel_rfl) rfl ⟨(((none, 0, 0), (false, (none, 0, 0), (none, 0, 0), ()), e, ()) : BT), rfl, ⟨he.symm, fun q => absurd (he.symm.trans q) h0⟩, h.grownAt hg hne⟩
  refine rd_boxN X (by kernel_rfl) rfl ?_
  refine call_mono (valid11 u r b up T rt w4 H) ?_
  rintro x6 w7 ⟨rfl, h'⟩
  replace h := h.trans h'; replace X := X.up h'; replace H := H.up h'; replace HM := HM.up h'; replace Z := Z.up h'; clear h'
  refine br_ne (fun e0 => bad rfl h Z (preE_1 e0) e0) (fun e0 => ?_)
  obtain ⟨v1, v2, v3, v4⟩ := sysE_ok e0
  refine rd_box (by kernel_rfl) X (i := 1) rfl rfl ?_
  refine br_ne (fun e1 => bad rfl h Z (preE_2 e0 (by dsimp only at e1; omega)) (by omega)) (fun e1 => ?_)
  dsimp only at e1
  have hML : M.length = T.length := by omega
  refine loop_up m.2.1 (fun i w' => bel w7 w' ∧ ∀ j, j < i → ∀ p, M[j]? = some p → IsFrac p.1 p.2) ⟨bel.refl _, pre_zero⟩ fun i w15 hi ⟨hw, hq⟩ again hag _ => ?_
  refine br_dec (fun e => ?_) (fun e => ?_)
  · dsimp only at e
    obtain ⟨p, hp⟩ : ∃ p, M[i]? = some p := ⟨_, List.getElem?_eq_getElem (by omega)⟩
    have hpi := hI p (mem_at hp)
    refine at_frac (HM.up hw) rfl hp ?_
    refine call_mono (callB (valid10 p.1 p.2 w15 hpi.1.1 hpi.1.2 hpi.2.1 hpi.2.2)) ?_
    rintro _ w19 ⟨rfl, h'⟩
    replace hw := hw.trans h'
    refine br_not (fun ev => bad rfl (h.trans hw) (Z.up hw) (preE_3 e0 hML fun q => ?_) (by omega)) (fun ev => ?_)
    · rw [decide_eq_true (q p (mem_at hp))] at ev; cases ev
    refine z_i64 (by dsimp only; omega) ?_
    exact hag _ (by omega) ⟨hw, pre_step hq hp (of_decide_eq_true ev)⟩
  dsimp only at e
  have hF := pre_all hq (by omega)
  clear hq hag again
  replace h := h.trans hw; replace X := X.up hw; replace H := H.up hw; replace HM := HM.up hw; replace Z := Z.up hw; clear hw hi e
  have Z0 := Z.lt
  -- a step of a sum
  have term : ∀ (x : Addr) (col : List Int) (k : Nat) (p : Int × Int) (c : Int) (t : TE) (w65 w5 : World), M[k]? = some p → col[k]? = some c → I64 c → k < 200 → bel w15 w65 → bel w5 w65 → w5.heap.size ≤ x.block → Box w65 x (boxc t) → BX (3 + 9 * k) w65 t (dotN col M k) →
      ∀ (x74 x84 x89 : TE) (w90 : World), bel w65 w90 → BX 7 w90 x89 (ratv p.1 p.2 * (c : Rat)) → ∀ K : World → Prop, (∀ (y : TE) w94, bel w5 w94 → Box w94 x (boxc y) → BX (3 + 9 * (k + 1)) w94 y (dotN col M (k + 1)) → ApT x y (dotN col M (k + 1)) → FrT w65 y → K w94) →
      call Try.prog 62 [exV t, exV x89] (.one sBig) w90 fun (x92 : TE) w93 => wu Try.prog (Instr.storeAt 90 (.pointer (some x)) (exV x92)) w93 fun w94 => K w94 := by
    intro x col k p c t w65 w5 hp hc hci hk hw3 hw5 hnx Y hB _ _ x89 w90 hb B1 K hK
    refine call_mono (plusX t x89 _ _ (3 + 9 * k) 7 w90 (hB.up hb) B1 (by omega) (by omega)) ?_
    rintro (y : TE) w93 ⟨hy, f1, f2, h4'⟩
    have A' : ApT x y (dotN col M (k + 1)) := ApT.fr (Y.up hb) f1 f2
    have e : dotN col M (k + 1) = dotN col M k + ratv p.1 p.2 * (c : Rat) := by
      show dotN col M k + dotT col M k = _
      rw [dotT_at hc hp]
    rw [← e] at hy
    refine wu_box ((Y.up hb).up h4') (by kernel_rfl) (Nat.le_refl 3) rfl fun w94 Y' hg _ => ?_
    exact hK y w94 (((hw5.trans hb).trans h4').grownAt hg hnx) Y' ((hy.grown A' hg).le (by omega)) A' (FrT.mono ⟨f1, f2⟩ hb.size)
  refine loop_upA u.2.1 (fun i (a : Hdr) w' => bel w15 w' ∧ a.2.1 = i ∧ ∃ ts : List TE, Own w' w15.heap.size 90 3 a.1 i a.2.2 (ts.flatMap boxc) ∧ ts.length = i ∧ ∀ (k : Nat) t, ts[k]? = some t → BX 1000 w' t (colQ T M k) ∧ FrT w15 t ∧ OffQ (blk a.1) t (colQ T M k)) ⟨bel.refl _, rfl, [], Own.nil _ _ _ _, rfl, fun k t h => by simp at h⟩ fun i a w25 hi ⟨hw, ha, ts, O, hts, hE⟩ again hag _ => ?_
  refine rd_box0 (by kernel_rfl) (X.up hw) rfl rfl ?_
  refine br_dec (fun e => ?_) (fun e => ?_)
  · dsimp only at e
    refine call_mono (wholeX 0 w25 ⟨by omega, by omega⟩) ?_
    rintro (t0 : TE) w28 ⟨hB0, f1, f2, h'⟩
    refine var_mk (z := .agg #[.bool false, .slice none 0 0, .slice none 0 0]) (by kernel_rfl) (by kernel_rfl) rfl rfl fun x29 w31 Y h2' hy => ?_
    replace Y : Box w31 x29 (boxc t0) := Y
    have A0 : ApT x29 t0 (0 : Rat) := ApT.old hB0 (by omega)
    have hn : w25.heap.size ≤ x29.block := by have := h'.size; omega
    refine loop_up m.2.1 (fun k w' => bel w25 w' ∧ ∃ t, Box w' x29 (boxc t) ∧ BX (3 + 9 * k) w' t (dotN (colI T i) M k) ∧ ApT x29 t (dotN (colI T i) M k) ∧ FrT w25 t) ⟨h'.trans h2', t0, Y, hB0.up h2', A0, f1, f2⟩ fun k w34 hk ⟨hw2, t, Y, hB, hA, hFt⟩ again' hag' _ => ?_
    refine br_dec (fun e2 => ?_) (fun e2 => ?_)
    · dsimp only at e2
      obtain ⟨p, hp⟩ : ∃ p, M[k]? = some p := ⟨_, List.getElem?_eq_getElem (by omega)⟩
      obtain ⟨row, hrow⟩ : ∃ row, T[k]? = some row := ⟨_, List.getElem?_eq_getElem (by omega)⟩
      have hrl := v4.2 row (mem_at hrow)
      obtain ⟨c, hc⟩ : ∃ c, row[i]? = some c := ⟨_, List.getElem?_eq_getElem (by omega)⟩
      have hcol := colI_get hrow hc
      have hF1 := hF p (mem_at hp)
      have hc2 := v3.2.2 row (mem_at hrow) c (mem_at hc)
      refine join_mk (fun _ w' => bel w25 w' ∧ ∃ t, Box w' x29 (boxc t) ∧ BX (3 + 9 * (k + 1)) w' t (dotN (colI T i) M (k + 1)) ∧ ApT x29 t (dotN (colI T i) M (k + 1)) ∧ FrT w25 t) (fun K hK => ?_) (fun _ w' hh _ => z_i64 (by dsimp only; omega) (hag' _ (by omega) hh))
      have same : dotT (colI T i) M k = 0 → K () w34 := fun q => by
        have e : dotN (colI T i) M (k + 1) = dotN (colI T i) M k := by
          show dotN (colI T i) M k + dotT (colI T i) M k = _
          rw [q, Rat.add_zero]
        exact hK _ _ ⟨hw2, t, Y, by rw [e]; exact hB.le (by omega), by rw [e]; exact hA, hFt⟩
      refine at_fst (HM.up (hw.trans hw2)) rfl hp ?_
      refine br_ne (fun n1 => ?_) (fun n1 => same (dotT_p0 hcol hp n1))
      refine rd_box (by kernel_rfl) (X.up (hw.trans hw2)) (i := 1) rfl rfl ?_
      refine (H.up (hw.trans hw2)).r.at tyTab (by kernel_rfl) rfl (by omega) fun y row' h1 HR => ?_
      rw [hrow] at h1; cases h1
      refine at_int tyI64 (by kernel_rfl) HR rfl (by have := Sl.int HR; omega) fun c' hc' => ?_
      rw [hc] at hc'; cases hc'
      refine br_ne (fun n2 => ?_) (fun n2 => same (dotT_c0 hcol hp n2))
      refine drw_mk fun w65 h3' _ => ?_
      have hw3 := hw2.trans h3'
      replace Y := Y.up h3'; replace hB := hB.up h3'
      refine flEx_mk (fun i _ v w' => (i = 5 → ∃ t : TE, v = exV t ∧ BX 3 w' t (ratv p.1 p.2)) ∧ (i = 14 → ∃ t : TE, v = exV t ∧ BX 3 w' t (c : Rat)) ∧ (i = 15 → ∃ t : TE, v = exV t ∧ BX 7 w' t (ratv p.1 p.2 * (c : Rat))))
        (fun _ _ _ _ _ h hb => ⟨fun e => by obtain ⟨t, q1, q2⟩ := h.1 e; exact ⟨t, q1, q2.up hb⟩, fun e => by obtain ⟨t, q1, q2⟩ := h.2.1 e; exact ⟨t, q1, q2.up hb⟩, fun e => by obtain ⟨t, q1, q2⟩ := h.2.2 e; exact ⟨t, q1, q2.up hb⟩⟩) ?_
      refine rd_boxN Y (by kernel_rfl) rfl ?_
      refine at_frac (HM.up (hw.trans hw3)) rfl hp ?_
      refine flc_mk (fun w70 hb _ => call_mono (makeX w70 hF1) fun y w' ⟨hy, _, _, hb'⟩ => ⟨hb', fun _ => ⟨y, rfl, hy⟩, fun e => by omega, fun e => by omega⟩) (fun (x74 : TE) => ?_)
      refine rd_box (by kernel_rfl) (X.up (hw.trans hw3)) (i := 1) rfl rfl ?_
      refine (H.up (hw.trans hw3)).r.at tyTab (by kernel_rfl) rfl (by omega) fun y row' h1 HR => ?_
      rw [hrow] at h1; cases h1
      refine at_int tyI64 (by kernel_rfl) HR rfl (by have := Sl.int HR; omega) fun c' hc' => ?_
      rw [hc] at hc'; cases hc'
      refine flc_mk (fun w80 hb _ => call_mono (wholeX c w80 ⟨by omega, by omega⟩) fun y w' ⟨hy, _, _, hb'⟩ => ⟨hb', fun e => by omega, fun _ => ⟨y, rfl, hy⟩, fun e => by omega⟩) (fun (x84 : TE) => ?_)
      refine flc_mk (fun w85 hb hf => ?_) (fun (x89 : TE) => ?_)
      · obtain ⟨⟨_, g2, _⟩, ⟨g1, _⟩, _⟩ := hf
        obtain ⟨t1, e1, B1⟩ := g1 rfl
        obtain ⟨t2, e2, B2⟩ := g2 rfl
        have e1' := exV_inj (t := x74) e1
        have e2' := exV_inj (t := x84) e2
        subst e1' e2'
        exact call_mono (timesX x74 x84 _ _ 3 3 w85 B1 B2 (by omega) (by omega)) fun y w' ⟨hy, _, _, hb'⟩ => ⟨hb', fun e => by omega, fun e => by omega, fun _ => ⟨y, rfl, hy⟩⟩
      · refine flend_mk fun w90 hb hf => ?_
        obtain ⟨⟨_, _, g⟩, _⟩ := hf
        obtain ⟨t1, e1, B1⟩ := g rfl
        have e1' := exV_inj (t := x89) e1
        subst e1'
        exact term x29 (colI T i) k p c t w65 w25 hp hcol ⟨by omega, by omega⟩ (by omega) (hw.trans hw3) hw3 hn Y hB x74 x84 x89 w90 hb B1 _ fun y w94 q1 q2 q3 q4 q5 => hK _ _ ⟨q1, y, q2, q3, q4, q5.mono hw3.size⟩
    · dsimp only at e2
      have hk' : k = T.length := by omega
      subst hk'
      have hO1 : OffQ (blk a.1) t (colQ T M i) := hFt.off (fun k hk => (O.lt k hk).2) _
      replace O := O.kept hw2
      have hE2 : ∀ (k : Nat) t, ts[k]? = some t → BX 1000 w34 t (colQ T M k) ∧ FrT w15 t ∧ OffQ (blk a.1) t (colQ T M k) := fun k t q => ⟨(hE k t q).1.up hw2, (hE k t q).2⟩
      refine rd_boxN Y (by kernel_rfl) rfl ?_
      dsimp only
      rw [ha]
      refine wr_app1 tyBigs O (hw.trans hw2).size rfl (by omega) (by omega) rfl rfl (by omega) (by unfold maxLen; omega) fun a' c' w39 O' hg hnew _ => ?_
      refine z_i64 (by omega) ?_
      refine hag (a', i + 1, c') w39 (by omega) ⟨(hw.trans hw2).own O hg (Nat.le_refl _), rfl, ts ++ [t], ?_, by simp [hts], fun k t' hk' => ?_⟩
      · rw [List.flatMap_append]; exact O'
      · have key : BX 1000 w34 t' (colQ T M k) ∧ FrT w15 t' ∧ OffQ (blk a.1) t' (colQ T M k) := by
          rcases Nat.lt_or_ge k ts.length with q | q
          · rw [List.getElem?_append_left q] at hk'
            exact hE2 k t' hk'
          · rw [List.getElem?_append_right q] at hk'
            have e : k - ts.length = 0 := by
              rcases Nat.eq_zero_or_pos (k - ts.length) with q2 | q2
              · exact q2
              · rw [List.getElem?_eq_none (by simp; omega)] at hk'; cases hk'
            rw [e] at hk'
            cases hk'
            have : k = i := by omega
            subst this
            exact ⟨BX.le hB (by omega), hFt.mono hw.size, hO1⟩
        obtain ⟨k1, k2, k3⟩ := key
        refine ⟨k1.grownO k3 hg, k2, ?_⟩
        rcases hnew with q | q
        · dsimp only; rw [q]; exact k3
        · exact k1.offNew q
  · dsimp only at e
    have hi' : i = up.length := by omega
    subst hi'
    refine call_mono (wholeX 0 w25 ⟨by omega, by omega⟩) ?_
    rintro (t0 : TE) w28 ⟨hB0, f1, f2, h'⟩
    refine var_mk (z := .agg #[.bool false, .slice none 0 0, .slice none 0 0]) (by kernel_rfl) (by kernel_rfl) rfl rfl fun x84 w31 Y h2' hy => ?_
    replace Y : Box w31 x84 (boxc t0) := Y
    have A0 : ApT x84 t0 (0 : Rat) := ApT.old hB0 (by omega)
    have hn : w25.heap.size ≤ x84.block := by have := h'.size; omega
    refine loop_up m.2.1 (fun k w' => bel w25 w' ∧ ∃ t, Box w' x84 (boxc t) ∧ BX (3 + 9 * k) w' t (dotN rt M k) ∧ ApT x84 t (dotN rt M k) ∧ FrT w25 t) ⟨h'.trans h2', t0, Y, hB0.up h2', A0, f1, f2⟩ fun k w89 hk ⟨hw2, t, Y, hB, hA, hFt⟩ again' hag' _ => ?_
    refine br_dec (fun e2 => ?_) (fun e2 => ?_)
    · dsimp only at e2
      obtain ⟨p, hp⟩ : ∃ p, M[k]? = some p := ⟨_, List.getElem?_eq_getElem (by omega)⟩
      obtain ⟨c, hc⟩ : ∃ c, rt[k]? = some c := ⟨_, List.getElem?_eq_getElem (by have := v4.1; omega)⟩
      have hF1 := hF p (mem_at hp)
      have hc2 := v3.2.1 c (mem_at hc)
      refine drw_mk fun w65 h3' _ => ?_
      have hw3 := hw2.trans h3'
      replace Y := Y.up h3'; replace hB := hB.up h3'
      refine flEx_mk (fun i _ v w' => (i = 5 → ∃ t : TE, v = exV t ∧ BX 3 w' t (ratv p.1 p.2)) ∧ (i = 11 → ∃ t : TE, v = exV t ∧ BX 3 w' t (c : Rat)) ∧ (i = 12 → ∃ t : TE, v = exV t ∧ BX 7 w' t (ratv p.1 p.2 * (c : Rat))))
        (fun _ _ _ _ _ h hb => ⟨fun e => by obtain ⟨t, q1, q2⟩ := h.1 e; exact ⟨t, q1, q2.up hb⟩, fun e => by obtain ⟨t, q1, q2⟩ := h.2.1 e; exact ⟨t, q1, q2.up hb⟩, fun e => by obtain ⟨t, q1, q2⟩ := h.2.2 e; exact ⟨t, q1, q2.up hb⟩⟩) ?_
      refine rd_boxN Y (by kernel_rfl) rfl ?_
      refine at_frac (HM.up (hw.trans hw3)) rfl hp ?_
      refine flc_mk (fun w70 hb _ => call_mono (makeX w70 hF1) fun y w' ⟨hy, _, _, hb'⟩ => ⟨hb', fun _ => ⟨y, rfl, hy⟩, fun e => by omega, fun e => by omega⟩) (fun (x74 : TE) => ?_)
      refine rd_box (by kernel_rfl) (X.up (hw.trans hw3)) (i := 2) rfl rfl ?_
      refine at_int tyI64 (by kernel_rfl) (H.up (hw.trans hw3)).b rfl (by have := v4.1; omega) fun c' hc' => ?_
      rw [hc] at hc'; cases hc'
      refine flc_mk (fun w80 hb _ => call_mono (wholeX c w80 ⟨by omega, by omega⟩) fun y w' ⟨hy, _, _, hb'⟩ => ⟨hb', fun e => by omega, fun _ => ⟨y, rfl, hy⟩, fun e => by omega⟩) (fun (x107 : TE) => ?_)
      refine flc_mk (fun w85 hb hf => ?_) (fun (x112 : TE) => ?_)
      · obtain ⟨⟨_, g2, _⟩, ⟨g1, _⟩, _⟩ := hf
        obtain ⟨t1, e1, B1⟩ := g1 rfl
        obtain ⟨t2, e2, B2⟩ := g2 rfl
        have e1' := exV_inj (t := x74) e1
        have e2' := exV_inj (t := x107) e2
        subst e1' e2'
        exact call_mono (timesX x74 x107 _ _ 3 3 w85 B1 B2 (by omega) (by omega)) fun y w' ⟨hy, _, _, hb'⟩ => ⟨hb', fun e => by omega, fun e => by omega, fun _ => ⟨y, rfl, hy⟩⟩
      · refine flend_mk fun w90 hb hf => ?_
        obtain ⟨⟨_, _, g⟩, _⟩ := hf
        obtain ⟨t1, e1, B1⟩ := g rfl
        have e1' := exV_inj (t := x112) e1
        subst e1'
        exact term x84 rt k p c t w65 w25 hp hc ⟨by omega, by omega⟩ (by omega) (hw.trans hw3) hw3 hn Y hB x74 x107 x112 w90 hb B1 _ fun y w94 q1 q2 q3 q4 q5 => z_i64 (by dsimp only; omega) (hag' _ (by omega) ⟨q1, y, q2, q3, q4, q5.mono hw3.size⟩)
    · dsimp only at e2
      have hk' : k = T.length := by omega
      subst hk'
      refine drw_mk fun w119 h3' _ => ?_
      have hw3 := hw2.trans h3'
      have hw4 := hw.trans hw3
      refine rd_boxN (Y.up h3') (by kernel_rfl) rfl ?_
      refine wu_box (Z.up hw4) (by kernel_rfl) (Nat.le_refl 3) rfl fun w121 Z' hg _ => ?_
      have hx3 : ∀ k, some x3.block = some k → k < w15.heap.size := fun k q => by injection q; omega
      refine rd_boxV Z' (by kernel_rfl) rfl ⟨(((a.1, a.2.1, a.2.2), t, 0, ()) : BT), rfl, ⟨(preE_0 e0 hML hF).symm, fun _ => ⟨⟨ts, ?_, hts, fun k t' hk' => ?_⟩, ?_⟩⟩, (h.trans hw4).grownAt hg hne⟩
      · dsimp only
        rw [ha]
        refine ((O.kept hw3).keptBy hg ?_).sl
        cases hb' : blk a.1 with
        | none => exact .inl rfl
        | some k => exact .inr fun q => by have := (O.lt k hb').1; injection q; omega
      · obtain ⟨k1, k2, _⟩ := hE k t' hk'
        exact (k1.up hw3).grownO (k2.off hx3 _) hg
      · exact BX.le (((hB.up h3')).grownO ((hFt.mono hw.size).off hx3 _) hg) (by omega)
end Go.Proofs.Ytajpdnphamomjaa

/- Combinations: the reference's Combine; comparing lists of fractions; lattices. -/

namespace Go.Proofs.Ytajpdnphamomjaa
open Go.RowKit Go.Q Go.Q.Num Go.V

set_option maxHeartbeats 800000 in
theorem combR11 (u r b m : Hdr) (up : List Int) (T : List (List Int)) (rt : List Int) (M : List (Int × Int)) (w : World) (H : Sys w u r b up T rt) (HM : Sl w m.1 m.2.1 m.2.2 2 (M.flatMap encF)) (hI : ∀ p ∈ M, I64 p.1 ∧ I64 p.2) :
    call Try.prog 37 [sysv u r b, .slice m.1 m.2.1 m.2.2] rCT w (fun x w' => CombR up T rt M x w' ∧ bel w w') := by
  refine call_of (S37_calls u.1 u.2.1 u.2.2 r.1 r.2.1 r.2.2 b.1 b.2.1 b.2.2 m.1 m.2.1 m.2.2 w _ ?_)
  unfold S37
  have hu := H.u.int
  refine wr_box fun x1 w2 X h _ _ => ?_
  replace X : Box w2 x1 (sysc u r b) := X
  replace H := H.up h; replace HM := HM.up h
  refine wr_alloc (z := fracv 0 0) (by kernel_rfl) fun x3 w4 Z h' hz _ => ?_
  have hne : w.heap.size ≤ x3.block := by rw [hz]; exact h.size
  replace h := h.trans h'; replace X := X.up h'; replace H := H.up h'; replace HM := HM.up h'; clear h'
  have bad : ∀ {w' : World} {e : Int} {cs : List Value}, cs.length = 2 → bel w w' → Box w' x3 cs → combE up T rt M = e → e ≠ 0 →
      wu Try.prog (Instr.storeAt 23 (.pointer (some x3)) (.agg #[.int .i64 0, .int .i64 0])) w' fun w10 => rd Try.prog (loadVar 23 x3) (.agg [.int .i64, .int .i64]) w10 fun x11 =>
        ∃ x : CT, Value.tuple #[.slice none 0 0, .agg #[.int .i64 x11.1, .int .i64 x11.2.1], .int .i64 e] = rCT.val x ∧ CombR up T rt M x w10 ∧ bel w w10 := by
    intro w' e cs hl h Z he h0
    refine wu_box Z (by kernel_rfl) (by rw [hl]; exact Nat.le_refl 2) rfl fun w5 Z' hg _ => ?_
    have Z2 : Box w5 x3 [.int .i64 0, .int .i64 0] := by
      match cs, hl with
      | [_, _], _ => exact Z'
    exact rd_boxV Z2 (by kernel_rfl) rfl ⟨(((none, 0, 0), (0, 0, ()), e, ()) : CT), rfl, CombR.bad he h0, h.grownAt hg hne⟩
  refine rd_boxN X (by kernel_rfl) rfl ?_
  refine call_mono (comb11 u r b m up T rt M w4 H HM hI) ?_
  rintro (x6 : BT) w7 ⟨⟨he, hR⟩, h'⟩
  replace h := h.trans h'; replace X := X.up h'; replace H := H.up h'; replace HM := HM.up h'; replace Z := Z.up h'; clear h'
  refine var_mk (z := .agg #[.bool false, .slice none 0 0, .slice none 0 0]) (by kernel_rfl) (by kernel_rfl) rfl rfl fun x8 w10 V hv _ => ?_
  replace V : Box w10 x8 (boxc x6.2.1) := V
  refine br_ne (fun e0 => bad rfl (h.trans hv) (Z.up hv) (by rw [combE_pre (by rw [← he]; exact e0), he]) e0) (fun e0 => ?_)
  obtain ⟨⟨ts, hS, hts, hB⟩, hBr⟩ := hR (by rw [← he]; exact e0)
  obtain ⟨p1, p2, p3⟩ := preE_ok (by rw [← he]; exact e0)
  obtain ⟨v1, v2, v3, v4⟩ := sysE_ok p1
  replace hS := hS.up hv
  replace hB : ∀ (k : Nat) t, ts[k]? = some t → BX 1000 w10 t (colQ T M k) := fun k t q => (hB k t q).up hv
  replace hBr := hBr.up hv
  replace h := h.trans hv; replace X := X.up hv; replace H := H.up hv; replace HM := HM.up hv; replace Z := Z.up hv; clear hv
  have hln : ts.length = x6.1.2.1 := by
    have := hS.len
    rw [flat_len boxc_len] at this
    omega
  refine loop_upA x6.1.2.1 (fun i (a : Hdr) w' => bel w10 w' ∧ a.2.1 = i ∧ Own w' w10.heap.size 23 2 a.1 i a.2.2 ((cols up T M i).flatMap encF) ∧ ∀ k, k < i → Fits (colQ T M k)) ⟨bel.refl _, rfl, Own.nil _ _ _ _, fun k h => by omega⟩ fun i a w15 hi ⟨hw, ha, O, hq⟩ again hag _ => ?_
  have Z0 := Z.lt
  refine br_dec (fun e => ?_) (fun e => ?_)
  · dsimp only at e
    obtain ⟨t, ht⟩ : ∃ t, ts[i]? = some t := ⟨_, List.getElem?_eq_getElem (by omega)⟩
    refine at_agg tyBigs agBig boxc_len (by omega) (hS.up hw) rfl ht rfl ?_
    refine call_mono (fit10 _ _ _ w15 ((hB i t ht).up hw).at) ?_
    rintro (x18 : FE) w19 ⟨rfl, h1'⟩
    have hw1 := hw.trans h1'
    refine boxF fun x20 w22 h2' Y _ => ?_
    have hw2 := hw1.trans h2'
    by_cases hft : Fits (colQ T M i)
    · have eT : fitT (colQ T M i) = (((colQ T M i).num, (((colQ T M i).den : Nat) : Int), ()), 0, ()) := by unfold fitT; rw [if_pos hft]
      rw [eT] at Y ⊢
      refine br_f rfl ?_
      refine rd_boxN Y (by kernel_rfl) rfl ?_
      dsimp only
      rw [ha]
      refine wr_app1 tyFracs (O.kept (h1'.trans h2')) hw2.size rfl (by omega) (by omega) rfl rfl (by omega) (by unfold maxLen; omega) fun a' c' w39 O' hg _ _ => ?_
      refine z_i64 (by omega) ?_
      refine hag (a', i + 1, c') w39 (by omega) ⟨hw2.own (O.kept (h1'.trans h2')) hg (Nat.le_refl _), rfl, ?_, fun k hk => ?_⟩
      · rw [cols_snoc, List.flatMap_append]; exact O'
      · rcases Nat.lt_or_ge k i with q | q
        · exact hq k q
        · have : k = i := by omega
          subst this; exact hft
    · have eT : fitT (colQ T M i) = ((0, 0, ()), 8, ()) := by unfold fitT; rw [if_neg hft]
      rw [eT]
      exact br_t rfl (bad rfl (h.trans hw2) (Z.up hw2) (combE_4 p1 p2 p3 fun q => hft (q.1 i (by omega))) (by decide))
  · dsimp only at e
    have hi' : i = up.length := by omega
    subst hi'
    refine rd_boxN (V.up hw) (by kernel_rfl) rfl ?_
    refine call_mono (fit10 _ _ _ w15 (hBr.up hw).at) ?_
    rintro (x32 : FE) w33 ⟨rfl, h1'⟩
    have hw1 := hw.trans h1'
    refine boxF fun x34 w36 h2' Y _ => ?_
    have hw2 := hw1.trans h2'
    by_cases hft : Fits (rhsQ T rt M)
    · have eT : fitT (rhsQ T rt M) = (((rhsQ T rt M).num, (((rhsQ T rt M).den : Nat) : Int), ()), 0, ()) := by unfold fitT; rw [if_pos hft]
      rw [eT] at Y ⊢
      refine br_f rfl ?_
      refine drw_mk fun w39 h3' _ => ?_
      have hw3 := hw2.trans h3'
      refine rd_boxN (Y.up h3') (by kernel_rfl) rfl ?_
      refine wu_box (Z.up hw3) (by kernel_rfl) (Nat.le_refl 2) rfl fun w41 Z' hg _ => ?_
      have hE := combE_0 p1 p2 p3 ⟨hq, hft⟩
      refine rd_boxV Z' (by kernel_rfl) rfl ⟨(((a.1, a.2.1, a.2.2), ((rhsQ T rt M).num, (((rhsQ T rt M).den : Nat) : Int), ()), 0, ()) : CT), rfl, ⟨hE.symm, fun _ => ⟨?_, rfl⟩, fun q => absurd hE q⟩, (h.trans hw3).grownAt hg hne⟩
      dsimp only
      rw [ha]
      refine ((O.kept ((h1'.trans h2').trans h3')).keptBy hg ?_).sl
      cases hb' : blk a.1 with
      | none => exact .inl rfl
      | some k => exact .inr fun q => by have := (O.lt k hb').1; injection q; omega
    · have eT : fitT (rhsQ T rt M) = ((0, 0, ()), 8, ()) := by unfold fitT; rw [if_neg hft]
      rw [eT]
      exact br_t rfl (bad rfl (h.trans hw2) (Z.up hw2) (combE_4 p1 p2 p3 fun q => hft q.2) (by decide))

/-! ### lattices -/
end Go.Proofs.Ytajpdnphamomjaa

/- Bounds that contradict a combination: the program. -/

namespace Go.Proofs.Ytajpdnphamomjaa
open Go.RowKit Go.Q Go.Q.Num Go.V

def pickB (q : Rat) (lo hi : List Int) (k : Nat) : Int :=
  match lo[k]?, hi[k]? with
  | some a, some b => if q < 0 then b else a
  | _, _ => 0
def lowN (T : List (List Int)) (M : List (Int × Int)) (lo hi : List Int) : Nat → Rat
  | 0 => 0
  | k + 1 => lowN T M lo hi k + colQ T M k * ((pickB (colQ T M k) lo hi k : Int) : Rat)
abbrev Win (x : Int) : Prop := -1000000000 ≤ x ∧ x ≤ 1000000000
structure BndP (up : List Int) (T : List (List Int)) (rt : List Int) (lo hi : List Int) (M : List (Int × Int)) : Prop where
  ok : combE up T rt M = 0
  llo : lo.length = up.length
  lhi : hi.length = up.length
  wlo : ∀ x ∈ lo, Win x
  whi : ∀ x ∈ hi, Win x
  out : (∃ (k : Nat) (a b : Int), lo[k]? = some a ∧ hi[k]? = some b ∧ b < a) ∨ rhsQ T rt M < lowN T M lo hi up.length ∨ lowN T M hi lo up.length < rhsQ T rt M
theorem pick_at {q : Rat} {lo hi : List Int} {k : Nat} {a b : Int} (h1 : lo[k]? = some a) (h2 : hi[k]? = some b) : pickB q lo hi k = if q < 0 then b else a := by unfold pickB; rw [h1, h2]
theorem outB_iff {x : Int} : outB (-1000000000) 1000000000 x = false ↔ Win x := by unfold outB; simp
theorem fromQ {q : Rat} (w : World) (h : Fits q) : call Try.prog 56 [.agg #[.int .i64 q.num, .int .i64 ((q.den : Nat) : Int)]] (.one sBig) w (fun (x : TE) w' => EX 2 w' x q ∧ bel w w') := by
  have := fromX (n := q.num) (d := ((q.den : Nat) : Int)) w (frac_fits h)
  rw [ratv_fits] at this
  exact this
theorem var2_mk {P : Program} {e : TypeId} {z v v' : Value} {w : World} {k : Addr → Addr → World → Prop} (hz : zeroOf P e = some z) (hs : sizeIs P e v.cells.size = true) (hs' : sizeIs P e v'.cells.size = true) (hl : v.cells.size = z.cells.size) (hl' : v'.cells.size = z.cells.size) (hp : plainV v.cells.toList = true) (hp' : plainV v'.cells.toList = true)
    (hk : ∀ a b w', Box w' a v.cells.toList → Box w' b v'.cells.toList → bel w w' → w.heap.size ≤ a.block → w.heap.size ≤ b.block → a.block ≠ b.block → k a b w') :
    wr P (Instr.alloc e true (.tuple #[])) (.one .addr) w fun x w1 => wr P (Instr.alloc e true (.tuple #[])) (.one .addr) w1 fun y w2 => wu P (Instr.storeAt e (.pointer (some x)) v) w2 fun w3 => wu P (Instr.storeAt e (.pointer (some y)) v') w3 fun w4 => k x y w4 := by
  have put : ∀ (vs cs : List Value), cs.length = vs.length → putAt cs 0 vs = vs := by
    have key : ∀ (vs pre cs : List Value), cs.length = vs.length → putAt (pre ++ cs) pre.length vs = pre ++ vs := by
      intro vs
      induction vs with
      | nil => intro pre cs h; rw [List.eq_nil_of_length_eq_zero h]; rfl
      | cons x vs ih =>
        intro pre cs h
        cases cs with
        | nil => simp at h
        | cons c cs =>
          simp only [putAt]
          have h1 : (pre ++ c :: cs).set pre.length x = (pre ++ [x]) ++ cs := by simp
          rw [h1]
          have := ih (pre ++ [x]) cs (by simpa using h)
          simp only [List.length_append, List.length_cons, List.length_nil, Nat.zero_add] at this
          rw [this]; simp
    intro vs cs h
    simpa using key vs [] cs h
  refine wr_alloc hz fun a w1 A h ha _ => ?_
  refine wr_alloc hz fun b w2 B h2 hb2 _ => ?_
  replace A := A.up h2
  have n1 := A.lt
  have hab : a.block < b.block := by have := A.lt; have := h.size; have := h2.size; omega
  refine wu_box A hs (by rw [hl]; simp) hp fun w3 A' hg _ => ?_
  have B' := B.grown hg (by intro e; injection e; omega)
  refine wu_box B' hs' (by rw [hl']; simp) hp' fun w4 B2 hg2 _ => ?_
  have A2 := A'.grown hg2 (by intro e; injection e; omega)
  rw [put _ _ (by simp [hl])] at A2
  rw [put _ _ (by simp [hl'])] at B2
  exact hk _ _ _ A2 B2 (((h.trans h2).grownAt hg (by omega)).grownAt hg2 (by have := h.size; omega)) (by omega) (by have := h.size; omega) (by omega)

theorem bnd11F (n : Int) (w : World) : call Try.prog 93 [.int .i64 n] (.one (.one .bool)) w (fun x w' => x = outB (-1000000000) 1000000000 n ∧ bel w w') := by
  refine call_of (S93_calls n w _ ?_)
  unfold S93
  refine call_mono (outsideF n _ _ w) ?_
  rintro x w2 ⟨rfl, h⟩
  exact ⟨_, rfl, rfl, h⟩
theorem hasG (a : Hdr) (xs : List Int) (w : World) (H : Sl w a.1 a.2.1 a.2.2 1 (ints .i64 xs)) :
    call Try.prog 74 [.slice a.1 a.2.1 a.2.2, .func (.func 93) #[] #[]] (.one (.one .bool)) w (fun x w' => x = xs.any (outB (-1000000000) 1000000000) ∧ bel w w') := by
  refine call_of (S74b_calls a.1 a.2.1 a.2.2 w _ ?_)
  unfold S74b
  refine call_mono (r := .one (.one (.int .i64))) (Q := fun x w' => x = idxI (outB (-1000000000) 1000000000) xs ∧ bel w w') (call_of (S112b_calls a.1 a.2.1 a.2.2 w _ ?_)) ?_
  · unfold S112b
    exact idx_ints tyI64 (by kernel_rfl) (fargs := fun x5 => [.int .i64 x5]) H (outB (-1000000000) 1000000000) (fun j x hx w' hb => bnd11F x w')
  · rintro x w2 ⟨rfl, hb⟩
    exact ⟨_, rfl, idxI_any _ _, hb⟩
theorem bnd1F (a u : Hdr) (xs up : List Int) (v1 v2 : Value) (c0 : Addr) (w : World) (H : Sl w a.1 a.2.1 a.2.2 1 (ints .i64 xs)) (X : Box w c0 [.slice u.1 u.2.1 u.2.2, v1, v2]) (hu : up.length = u.2.1) :
    call Try.prog 92 [.slice a.1 a.2.1 a.2.2, .pointer (some c0)] (.one (.one .bool)) w (fun x w' => (x = false ↔ xs.length = up.length ∧ ∀ x ∈ xs, Win x) ∧ bel w w') := by
  refine call_of (S92_calls a.1 a.2.1 a.2.2 c0 w _ ?_)
  unfold S92
  have hl := H.int
  refine rd_box0 (by kernel_rfl) X rfl rfl ?_
  refine br_ne (fun e => ⟨true, rfl, ⟨fun c => (Bool.noConfusion c), fun s => ?_⟩, bel.refl _⟩) (fun e => ?_)
  · dsimp only at e; omega
  dsimp only at e
  refine call_mono (hasG a xs w H) ?_
  rintro _ w3 ⟨rfl, h⟩
  refine ⟨_, rfl, ⟨fun c => ⟨by omega, fun x hx => outB_iff.1 (any_f c x hx)⟩, fun s => ?_⟩, h⟩
  show xs.any _ = false
  rw [List.any_eq_false]
  intro x hx
  rw [outB_iff.2 (s.2 x hx)]; simp

set_option maxHeartbeats 3200000 in
theorem bndL (u r b lo hi m : Hdr) (up : List Int) (T : List (List Int)) (rt ls hs : List Int) (M : List (Int × Int)) (w : World) (H : Sys w u r b up T rt) (HM : Sl w m.1 m.2.1 m.2.2 2 (M.flatMap encF)) (hI : ∀ p ∈ M, I64 p.1 ∧ I64 p.2)
    (HLo : Sl w lo.1 lo.2.1 lo.2.2 1 (ints .i64 ls)) (HHi : Sl w hi.1 hi.2.1 hi.2.2 1 (ints .i64 hs)) :
    call Try.prog 41 [sysv u r b, .slice lo.1 lo.2.1 lo.2.2, .slice hi.1 hi.2.1 hi.2.2, .slice m.1 m.2.1 m.2.2] (.one (.one .bool)) w (fun x w' => (x = true ↔ BndP up T rt ls hs M) ∧ bel w w') := by
  refine call_of (S41_calls u.1 u.2.1 u.2.2 r.1 r.2.1 r.2.2 b.1 b.2.1 b.2.2 lo.1 lo.2.1 lo.2.2 hi.1 hi.2.1 hi.2.2 m.1 m.2.1 m.2.2 w _ ?_)
  unfold S41
  have hu := H.u.int
  have hlo := HLo.int
  have hhi := HHi.int
  have no : ∀ {w' : World}, bel w w' → (BndP up T rt ls hs M → False) → ∃ v : Bool, Value.bool false = (RS.one (.one .bool)).val v ∧ (v = true ↔ BndP up T rt ls hs M) ∧ bel w w' := fun hb q => ⟨false, rfl, ⟨fun e => (Bool.noConfusion e), fun s => (q s).elim⟩, hb⟩
  refine wr_box fun x1 w2 X h _ _ => ?_
  replace X : Box w2 x1 (sysc u r b) := X
  replace HLo := HLo.up h; replace HHi := HHi.up h
  refine rd_boxN X (by kernel_rfl) rfl ?_
  refine call_mono (combL u r b m up T rt M w2 (H.up h) (HM.up h) hI) ?_
  rintro (x4 : CT) w5 ⟨⟨q1, q2, _⟩, h'⟩
  replace h := h.trans h'; replace X := X.up h'; replace HLo := HLo.up h'; replace HHi := HHi.up h'; clear h'
  refine boxF fun x6 w8 h2' Y _ => ?_
  refine br_ne (fun e => no (h.trans h2') fun s => e (q1.trans s.ok)) (fun e => ?_)
  have hok : combE up T rt M = 0 := q1.symm.trans e
  obtain ⟨g1, g2⟩ := q2 hok
  obtain ⟨ce1, _, _, hfit, hfr⟩ := combE_ok hok
  have v1 := (sysE_ok ce1).1
  have hln := fr_len g1
  rw [cols_len] at hln
  have kl := g1.le
  replace g1 := g1.up h2'
  replace h := h.trans h2'; replace X := X.up h2'; replace HLo := HLo.up h2'; replace HHi := HHi.up h2'; clear h2'
  rw [g2] at Y
  refine call_mono (bnd1F lo u ls up _ _ x1 w8 HLo X hu) ?_
  rintro x9 w10 ⟨b1, h'⟩
  replace h := h.trans h'; replace X := X.up h'; replace HLo := HLo.up h'; replace HHi := HHi.up h'; replace Y := Y.up h'; replace g1 := g1.up h'; clear h'
  refine br_mk (fun e1 => no h fun s => ?_) (fun e1 => ?_)
  · rw [b1.2 ⟨s.llo, s.wlo⟩] at e1; cases e1
  obtain ⟨l1, l2⟩ := b1.1 e1
  refine call_mono (bnd1F hi u hs up _ _ x1 w10 HHi X hu) ?_
  rintro x11 w12 ⟨b2, h'⟩
  replace h := h.trans h'; replace X := X.up h'; replace HLo := HLo.up h'; replace HHi := HHi.up h'; replace Y := Y.up h'; replace g1 := g1.up h'; clear h'
  refine br_mk (fun e2 => no h fun s => ?_) (fun e2 => ?_)
  · rw [b2.2 ⟨s.lhi, s.whi⟩] at e2; cases e2
  obtain ⟨l3, l4⟩ := b2.1 e2
  have bnd : ∀ {x : Bool}, ((∃ (k : Nat) (a b : Int), ls[k]? = some a ∧ hs[k]? = some b ∧ b < a) ∨ rhsQ T rt M < lowN T M ls hs up.length ∨ lowN T M hs ls up.length < rhsQ T rt M ↔ x = true) → (x = true ↔ BndP up T rt ls hs M) := fun q => ⟨fun e => ⟨hok, l1, l3, l2, l4, q.2 e⟩, fun s => q.1 s.out⟩
  refine call_mono (wholeF 0 w12 ⟨by omega, by omega⟩) ?_
  rintro (t0 : TE) w14 ⟨hA0, _, _, h'⟩
  replace h := h.trans h'; replace X := X.up h'; replace HLo := HLo.up h'; replace HHi := HHi.up h'; replace Y := Y.up h'; replace g1 := g1.up h'; clear h'
  refine call_mono (wholeF 0 w14 ⟨by omega, by omega⟩) ?_
  rintro (t1 : TE) w16 ⟨hB0, _, _, h'⟩
  replace hA0 := hA0.up h'
  replace h := h.trans h'; replace X := X.up h'; replace HLo := HLo.up h'; replace HHi := HHi.up h'; replace Y := Y.up h'; replace g1 := g1.up h'; clear h'
  refine var2_mk (z := .agg #[.bool false, .slice none 0 0, .slice none 0 0]) (by kernel_rfl) (by kernel_rfl) (by kernel_rfl) rfl rfl rfl rfl fun x17 x19 w22 V1 V2 h' n17 n19 n1719 => ?_
  replace V1 : Box w22 x17 (boxc t0) := V1
  replace V2 : Box w22 x19 (boxc t1) := V2
  refine loop_up x4.1.2.1 (fun i w' => bel w16 w' ∧ (∀ j, j < i → ∀ a b, ls[j]? = some a → hs[j]? = some b → ¬ b < a) ∧ ∃ t s : TE, Box w' x17 (boxc t) ∧ Box w' x19 (boxc s) ∧ EX (2 + 5 * i) w' t (lowN T M ls hs i) ∧ EX (2 + 5 * i) w' s (lowN T M hs ls i) ∧ ApT x17 t (lowN T M ls hs i) ∧ ApT x19 t (lowN T M ls hs i) ∧ ApT x17 s (lowN T M hs ls i) ∧ ApT x19 s (lowN T M hs ls i))
    ⟨h', fun j q => by omega, t0, t1, V1, V2, hA0.up h', hB0.up h', ApT.oldE hA0 n17, ApT.oldE hA0 n19, ApT.oldE hB0 n17, ApT.oldE hB0 n19⟩ fun i w25 hi' ⟨hw, hq, t, s, V1, V2, E1, E2, A11, A12, A21, A22⟩ again hag _ => ?_
  refine br_dec (fun e3 => ?_) (fun e3 => ?_)
  · dsimp only at e3
    obtain ⟨la, hla⟩ : ∃ la, ls[i]? = some la := ⟨_, List.getElem?_eq_getElem (by omega)⟩
    obtain ⟨ha, hha⟩ : ∃ ha, hs[i]? = some ha := ⟨_, List.getElem?_eq_getElem (by omega)⟩
    have hp : (cols up T M up.length)[i]? = some (fpair (colQ T M i)) := cols_get (by omega)
    have hft := hfit i (by omega)
    have wla := l2 la (mem_at hla)
    have wha := l4 ha (mem_at hha)
    have l17 := V1.lt
    have l19 := V2.lt
    obtain ⟨q, hq0⟩ : ∃ q, q = colQ T M i := ⟨_, rfl⟩
    rw [← hq0] at hp hft
    refine join_mk (fun _ w' => bel w16 w' ∧ ¬ ha < la ∧ ∃ t s : TE, Box w' x17 (boxc t) ∧ Box w' x19 (boxc s) ∧ EX (2 + 5 * (i + 1)) w' t (lowN T M ls hs (i + 1)) ∧ EX (2 + 5 * (i + 1)) w' s (lowN T M hs ls (i + 1)) ∧ ApT x17 t (lowN T M ls hs (i + 1)) ∧ ApT x19 t (lowN T M ls hs (i + 1)) ∧ ApT x17 s (lowN T M hs ls (i + 1)) ∧ ApT x19 s (lowN T M hs ls (i + 1))) (fun K hK => ?_) (fun _ w' ⟨hh1, hh2, hh3⟩ _ => z_i64 (by dsimp only; omega) (hag _ (by omega) ⟨hh1, fun j hj a b c1 c2 => ?_, hh3⟩))
    · -- one round
      refine at_frac (g1.up hw) rfl hp ?_
      refine boxF fun x32 w34 h' Z n32 => ?_
      have hw1 := hw.trans h'
      refine drw_mk fun w35 h2' _ => ?_
      have hw2 := hw1.trans h2'
      have hz := h'.trans h2'
      replace Z := Z.up h2'
      refine at_int tyI64 (by kernel_rfl) (HLo.up hw2) rfl (by omega) fun a ha' => ?_
      rw [hla] at ha'; cases ha'
      refine at_int tyI64 (by kernel_rfl) (HHi.up hw2) rfl (by omega) fun a ha' => ?_
      rw [hha] at ha'; cases ha'
      refine br_dec (fun e4 => ⟨true, rfl, bnd ⟨fun _ => rfl, fun _ => .inl ⟨i, la, ha, hla, hha, e4⟩⟩, h.trans hw2⟩) (fun e4 => ?_)
      refine rd_box0 (by kernel_rfl) Z rfl rfl ?_
      have st1 : lowN T M ls hs (i + 1) = lowN T M ls hs i + q * ((if q < 0 then ha else la : Int) : Rat) := by
        show lowN T M ls hs i + colQ T M i * ((pickB (colQ T M i) ls hs i : Int) : Rat) = _
        rw [pick_at hla hha, hq0]
      have st2 : lowN T M hs ls (i + 1) = lowN T M hs ls i + q * ((if q < 0 then la else ha : Int) : Rat) := by
        show lowN T M hs ls i + colQ T M i * ((pickB (colQ T M i) hs ls i : Int) : Rat) = _
        rw [pick_at hha hla, hq0]
      refine br_eq (fun e5 => ?_) (fun e5 => ?_)
      · have q0 : q = 0 := Rat.num_eq_zero.1 e5
        rw [q0, Rat.zero_mul, Rat.add_zero] at st1 st2
        exact hK _ _ ⟨hw2, e4, t, s, V1.up hz, V2.up hz, by rw [st1]; exact (E1.up hz).le (by omega), by rw [st2]; exact (E2.up hz).le (by omega), by rw [st1]; exact A11, by rw [st1]; exact A12, by rw [st2]; exact A21, by rw [st2]; exact A22⟩
      refine join_mk (fun s' w' => s'.1 = (if q < 0 then ha else la) ∧ s'.2.1 = (if q < 0 then la else ha) ∧ w35 = w') (fun K' hK' => ?_) (fun s' w43 hs' _ => ?_)
      · refine rd_box0 (by kernel_rfl) Z rfl rfl ?_
        refine br_dec (fun e6 => hK' _ _ ⟨?_, ?_, rfl⟩) (fun e6 => hK' _ _ ⟨?_, ?_, rfl⟩)
        · dsimp only; rw [if_pos (num_neg.1 e6)]
        · dsimp only; rw [if_pos (num_neg.1 e6)]
        · dsimp only; rw [if_neg fun c => e6 (num_neg.2 c)]
        · dsimp only; rw [if_neg fun c => e6 (num_neg.2 c)]
      obtain ⟨y1, y2, _⟩ := s'
      obtain ⟨hy1, hy2, rfl⟩ := hs'
      dsimp only at hy1 hy2
      rw [← hy1] at st1
      rw [← hy2] at st2
      have wy1 : Win y1 := by rw [hy1]; split <;> assumption
      have wy2 : Win y2 := by rw [hy2]; split <;> assumption
      clear hy1 hy2
      replace V1 := V1.up hz; replace V2 := V2.up hz; replace E1 := E1.up hz; replace E2 := E2.up hz
      -- one of the two sums
      have one : ∀ (x : Addr) (y : Int) (v : TE) (rr : Rat) (L : Nat) (w44 : World) (Kn : World → Prop), Win y → w16.heap.size ≤ x.block → bel w16 w44 → Box w44 x (boxc v) → Box w44 x32 (encF (fpair q)) → EX L w44 v rr → L ≤ 2000 →
          (∀ (v' : TE) w67, bel w16 w67 → w44.grownBy w67 (some x.block) → Box w67 x (boxc v') → EX (L + 5) w67 v' (rr + q * (y : Rat)) → FrT w44 v' → Kn w67) →
          drw w44 fun w44 => flEx fun F45 =>
            rd Try.prog (Instr.loadAt 81 (.pointer (some x))) (.agg [.bool, .slice, .slice]) w44 fun (x46 : TE) =>
            rd Try.prog (Instr.loadAt 23 (.pointer (some x32))) (.agg [.int .i64, .int .i64]) w44 fun x47 =>
            flc bel w44 (fun _ => True) (fun (w48 : World) => call Try.prog 56 [(.agg #[(.int .i64 x47.1), (.int .i64 x47.2.1)])] (.one (.agg [.bool, .slice, .slice])) w48 fun (x50 : TE) (w51 : World) => (bel w48 w51 ∧ F45 2 [(.agg #[(.int .i64 x47.1), (.int .i64 x47.2.1)])] (exV x50) w51)) fun (x52 : TE) =>
            flc bel w44 (fun w54 => F45 2 [(.agg #[(.int .i64 x47.1), (.int .i64 x47.2.1)])] (exV x52) w54 ∧ True) (fun (w53 : World) => call Try.prog 81 [(.int .i64 y)] (.one (.agg [.bool, .slice, .slice])) w53 fun (x55 : TE) (w56 : World) => (bel w53 w56 ∧ F45 4 [(.int .i64 y)] (exV x55) w56)) fun (x57 : TE) =>
            flc bel w44 (fun w59 => F45 4 [(.int .i64 y)] (exV x57) w59 ∧ F45 2 [(.agg #[(.int .i64 x47.1), (.int .i64 x47.2.1)])] (exV x52) w59 ∧ True) (fun (w58 : World) => call Try.prog 68 [exV x52, exV x57] (.one (.agg [.bool, .slice, .slice])) w58 fun (x60 : TE) (w61 : World) => (bel w58 w61 ∧ F45 5 [exV x52, exV x57] (exV x60) w61)) fun (x62 : TE) =>
            flend bel w44 (fun w64 => F45 5 [exV x52, exV x57] (exV x62) w64 ∧ F45 4 [(.int .i64 y)] (exV x57) w64 ∧ F45 2 [(.agg #[(.int .i64 x47.1), (.int .i64 x47.2.1)])] (exV x52) w64 ∧ True) fun w63 =>
            call Try.prog 60 [exV x46, exV x62] (.one (.agg [.bool, .slice, .slice])) w63 fun (x65 : TE) (w66 : World) =>
            wu Try.prog (Instr.storeAt 81 (.pointer (some x)) (exV x65)) w66 fun (w67 : World) => Kn w67 := by
        intro x y v rr L w44 Kn wy hx hb0 V Z E hL hKn
        refine drw_mk fun w45 h3' _ => ?_
        replace V := V.up h3'; replace Z := Z.up h3'; replace E := E.up h3'
        refine flEx_mk (fun i _ v w' => (i = 2 → ∃ t : TE, v = exV t ∧ EX 2 w' t q) ∧ (i = 4 → ∃ t : TE, v = exV t ∧ EX 2 w' t (y : Rat)) ∧ (i = 5 → ∃ t : TE, v = exV t ∧ EX 4 w' t (q * (y : Rat))))
          (fun _ _ _ _ _ h hb => ⟨fun e => by obtain ⟨t, q1, q2⟩ := h.1 e; exact ⟨t, q1, q2.up hb⟩, fun e => by obtain ⟨t, q1, q2⟩ := h.2.1 e; exact ⟨t, q1, q2.up hb⟩, fun e => by obtain ⟨t, q1, q2⟩ := h.2.2 e; exact ⟨t, q1, q2.up hb⟩⟩) ?_
        refine rd_boxN V (by kernel_rfl) rfl ?_
        refine rd_boxN Z (by kernel_rfl) rfl ?_
        refine flc_mk (fun w70 hb _ => call_mono (fromQ w70 hft) fun y w' ⟨hy, hb'⟩ => ⟨hb', fun _ => ⟨y, rfl, hy⟩, fun e => by omega, fun e => by omega⟩) (fun (x52 : TE) => ?_)
        refine flc_mk (fun w80 hb _ => call_mono (wholeF y w80 ⟨by omega, by omega⟩) fun y w' ⟨hy, _, _, hb'⟩ => ⟨hb', fun e => by omega, fun _ => ⟨y, rfl, hy⟩, fun e => by omega⟩) (fun (x57 : TE) => ?_)
        refine flc_mk (fun w85 hb hf => ?_) (fun (x62 : TE) => ?_)
        · obtain ⟨⟨_, g2, _⟩, ⟨g1, _⟩, _⟩ := hf
          obtain ⟨t1, e1, B1⟩ := g1 rfl
          obtain ⟨t2, e2, B2⟩ := g2 rfl
          have e1' := exV_inj (t := x52) e1
          have e2' := exV_inj (t := x57) e2
          subst e1' e2'
          exact call_mono (mulE x52 x57 _ _ 2 2 w85 B1 B2 (by omega) (by omega)) fun y w' ⟨hy, _, _, hb'⟩ => ⟨hb', fun e => by omega, fun e => by omega, fun _ => ⟨y, rfl, hy⟩⟩
        · refine flend_mk fun w90 hb hf => ?_
          obtain ⟨⟨_, _, g⟩, _⟩ := hf
          obtain ⟨t1, e1, B1⟩ := g rfl
          have e1' := exV_inj (t := x62) e1
          subst e1'
          refine call_mono (addE v x62 _ _ L 4 w90 (E.up hb) B1 (by omega) (by omega)) ?_
          rintro (y' : TE) w93 ⟨hy, f1, f2, h4'⟩
          have A' : ApT x y' (rr + q * (y : Rat)) := ApT.fr (V.up hb) f1 f2
          refine wu_box ((V.up hb).up h4') (by kernel_rfl) (Nat.le_refl 3) rfl fun w94 V' hg _ => ?_
          have hbb := ((h3'.trans hb).trans h4')
          exact hKn y' w94 ((hb0.trans hbb).grownAt hg hx) ((grown_of_bel hbb _).trans hg) V' ((hy.grownA A' hg).le (by omega)) (FrT.mono ⟨f1, f2⟩ (h3'.trans hb).size)
      refine one x17 y1 t _ (2 + 5 * i) w35 _ wy1 n17 hw2 V1 Z E1 (by omega) fun t' w67 hw3 hg3 V1' E1' F1 => ?_
      have ne : some x17.block ≠ some x19.block := by intro e; injection e; omega
      have V2' := V2.grown hg3 (fun e => ne e.symm)
      have Z' := Z.grown hg3 (by intro e; injection e; omega)
      have E2' := E2.grownA A21 hg3
      have F1x17 : ApT x19 t' (lowN T M ls hs i + q * (y1 : Rat)) := ApT.fr V2 F1.1 F1.2
      have F1x17' : ApT x17 t' (lowN T M ls hs i + q * (y1 : Rat)) := ApT.fr V1 F1.1 F1.2
      refine one x19 y2 s _ (2 + 5 * i) w67 _ wy2 n19 hw3 V2' Z' E2' (by omega) fun s' w91 hw4 hg4 V2'' E2'' F2 => ?_
      refine hK _ _ ⟨hw4, e4, t', s', V1'.grown hg4 ne, V2'', ?_, ?_, ?_, ?_, ?_, ?_⟩
      · rw [st1]; exact (E1'.grownA F1x17 hg4).le (by omega)
      · rw [st2]; exact E2''.le (by omega)
      · rw [st1]; exact F1x17'
      · rw [st1]; exact F1x17
      · rw [st2]; exact ApT.fr V1' F2.1 F2.2
      · rw [st2]; exact ApT.fr V2' F2.1 F2.2
    · rcases Nat.lt_or_ge j i with q | q
      · exact hq j q a b c1 c2
      · have : j = i := by omega
        subst this
        rw [hla] at c1; cases c1
        rw [hha] at c2; cases c2
        exact hh2
  · dsimp only at e3
    have hi2 : i = up.length := by omega
    subst hi2
    have nok : ¬ ∃ (k : Nat) (a b : Int), ls[k]? = some a ∧ hs[k]? = some b ∧ b < a := by
      rintro ⟨k, a, b, c1, c2, c3⟩
      exact hq k (by have := (List.getElem?_eq_some_iff.1 c1).1; omega) a b c1 c2 c3
    refine drw_mk fun w93 h' _ => ?_
    have hw1 := hw.trans h'
    replace V1 := V1.up h'; replace V2 := V2.up h'; replace E1 := E1.up h'; replace E2 := E2.up h'
    refine flEx_mk (fun i _ v w' => (i = 2 ∨ i = 8 → ∃ t : TE, v = exV t ∧ EX 2 w' t (rhsQ T rt M)) ∧ (i = 3 → v = .int .i64 (cmpq (lowN T M ls hs up.length) (rhsQ T rt M))))
      (fun _ _ _ _ _ h hb => ⟨fun e => by obtain ⟨t, q1, q2⟩ := h.1 e; exact ⟨t, q1, q2.up hb⟩, h.2⟩) ?_
    refine rd_boxN V1 (by kernel_rfl) rfl ?_
    refine rd_boxN (Y.up hw1) (by kernel_rfl) rfl ?_
    refine flc_mk (fun w70 hb _ => call_mono (fromQ w70 hfr) fun y w' ⟨hy, hb'⟩ => ⟨hb', fun _ => ⟨y, rfl, hy⟩, fun e => by omega⟩) (fun (x101 : TE) => ?_)
    refine flc_mk (fun w70 hb hf => ?_) (fun x106 => ?_)
    · obtain ⟨t1, e1, B1⟩ := hf.1.1 (.inl rfl)
      have e1' := exV_inj (t := x101) e1
      subst e1'
      exact call_mono (cmpX t x101 _ _ (2 + 5 * up.length) 2 w70 (E1.up hb) B1 (by omega) (by omega)) fun y w' ⟨hy, hb'⟩ => ⟨hb', fun e => by omega, fun _ => by rw [hy]⟩
    refine br_dec (fun e6 => flend_mk fun w107 hb hf => ?_) (fun e6 => ?_)
    · have := hf.1.2 rfl
      injection this with _ e7
      rw [e7] at e6
      exact ⟨true, rfl, bnd ⟨fun _ => rfl, fun _ => .inr (.inl (cmpq_gt0.1 e6))⟩, h.trans (hw1.trans hb)⟩
    refine rd_boxN V2 (by kernel_rfl) rfl ?_
    refine rd_boxN (Y.up hw1) (by kernel_rfl) rfl ?_
    refine flc_mk (fun w70 hb _ => call_mono (fromQ w70 hfr) fun y w' ⟨hy, hb'⟩ => ⟨hb', fun _ => ⟨y, rfl, hy⟩, fun e => by omega⟩) (fun (x115 : TE) => ?_)
    refine flend_mk fun w116 hb hf => ?_
    obtain ⟨t1, e1, B1⟩ := hf.1.1 (.inr rfl)
    have e1' := exV_inj (t := x115) e1
    subst e1'
    have := hf.2.1.2 rfl
    injection this with _ e7
    rw [e7] at e6
    refine call_mono (cmpX s x115 _ _ (2 + 5 * up.length) 2 w116 (E2.up hb) B1 (by omega) (by omega)) ?_
    rintro x118 w119 ⟨rfl, h4'⟩
    refine ⟨_, rfl, bnd ⟨fun q => ?_, fun q => .inr (.inr (cmpq_lt0.1 (of_decide_eq_true q)))⟩, h.trans ((hw1.trans hb).trans h4')⟩
    rcases q with q | q | q
    · exact absurd q nok
    · exact absurd (cmpq_gt0.2 q) e6
    · exact decide_eq_true (cmpq_lt0.2 q)
end Go.Proofs.Ytajpdnphamomjaa

/- Bounds that contradict a combination: the reference. -/

namespace Go.Proofs.Ytajpdnphamomjaa
open Go.RowKit Go.Q Go.Q.Num Go.V

theorem ap_box {B : Nat} {k : IntKind} {w : World} {s : Hd} {y : Nat} {x : Addr} {t' : TE} (hN : NumAt B k w s.1 s.2.1 s.2.2 y) (X : Box w x (boxc t')) : Apart x s y := fun ad ha hy e => by
  obtain ⟨l, hs, hd, hv⟩ := hN
  cases l with
  | nil => exact hy (by rw [← hv]; rfl)
  | cons d l =>
    obtain ⟨ad', h1, h2, _⟩ := hs.at' 0 (.int k (d : Int)) rfl
    rw [ha] at h1; cases h1
    rw [Go.Q.add_zero] at h2
    obtain ⟨T, hT⟩ := X.blk
    unfold World.cell? at h2
    rw [e, hT] at h2
    simp only at h2
    split at h2
    · cases h2
    · generalize ad.off = o at h2
      match o, h2 with
      | 0, h2 => simp at h2
      | 1, h2 => simp at h2
      | 2, h2 => simp at h2
      | o + 3, h2 => simp at h2
theorem ApT.bx {L : Nat} {w : World} {t t' : TE} {r : Rat} {x : Addr} (h : BX L w t r) (X : Box w x (boxc t')) : ApT x t r := ⟨ap_box h.2.1 X, ap_box h.2.2.1 X⟩
theorem BX.put {L : Nat} {w w' : World} {t t' : TE} {r : Rat} {x : Addr} (h : BX L w t r) (X : Box w x (boxc t')) (hg : w.grownBy w' (some x.block)) : BX L w' t r := h.grown (ApT.bx h X) hg
abbrev z0 : TE := (false, (none, 0, 0), (none, 0, 0), ())

set_option maxHeartbeats 3200000 in
theorem bnd11 (u r b lo hi m : Hdr) (up : List Int) (T : List (List Int)) (rt ls hs : List Int) (M : List (Int × Int)) (w : World) (H : Sys w u r b up T rt) (HM : Sl w m.1 m.2.1 m.2.2 2 (M.flatMap encF)) (hI : ∀ p ∈ M, I64 p.1 ∧ I64 p.2)
    (HLo : Sl w lo.1 lo.2.1 lo.2.2 1 (ints .i64 ls)) (HHi : Sl w hi.1 hi.2.1 hi.2.2 1 (ints .i64 hs)) :
    call Try.prog 42 [sysv u r b, .slice lo.1 lo.2.1 lo.2.2, .slice hi.1 hi.2.1 hi.2.2, .slice m.1 m.2.1 m.2.2] (.one (.one .bool)) w (fun x w' => (x = true ↔ BndP up T rt ls hs M) ∧ bel w w') := by
  refine call_of (S42_calls u.1 u.2.1 u.2.2 r.1 r.2.1 r.2.2 b.1 b.2.1 b.2.2 lo.1 lo.2.1 lo.2.2 hi.1 hi.2.1 hi.2.2 m.1 m.2.1 m.2.2 w _ ?_)
  unfold S42
  have hu := H.u.int
  have hlo := HLo.int
  have hhi := HHi.int
  have klo := HLo.le
  have no : ∀ {w' : World}, bel w w' → (BndP up T rt ls hs M → False) → ∃ v : Bool, Value.bool false = (RS.one (.one .bool)).val v ∧ (v = true ↔ BndP up T rt ls hs M) ∧ bel w w' := fun hb q => ⟨false, rfl, ⟨fun e => (Bool.noConfusion e), fun s => (q s).elim⟩, hb⟩
  refine wr_box fun x1 w2 X h _ _ => ?_
  replace X : Box w2 x1 (sysc u r b) := X
  replace H := H.up h; replace HM := HM.up h; replace HLo := HLo.up h; replace HHi := HHi.up h
  refine rd_boxN X (by kernel_rfl) rfl ?_
  refine call_mono (combR11 u r b m up T rt M w2 H HM hI) ?_
  rintro (x4 : CT) w5 ⟨⟨q1, _, _⟩, h'⟩
  replace h := h.trans h'; replace X := X.up h'; replace H := H.up h'; replace HM := HM.up h'; replace HLo := HLo.up h'; replace HHi := HHi.up h'; clear h'
  refine boxF fun x6 w8 h2' Y _ => ?_
  replace h := h.trans h2'; replace X := X.up h2'; replace H := H.up h2'; replace HM := HM.up h2'; replace HLo := HLo.up h2'; replace HHi := HHi.up h2'; clear h2'
  refine br_ne (fun e => no h fun s => e (q1.trans s.ok)) (fun e => ?_)
  have hok : combE up T rt M = 0 := q1.symm.trans e
  obtain ⟨ce1, ce2, ce3, hfit, hfr⟩ := combE_ok hok
  have v1 := (sysE_ok ce1).1
  refine rd_box0 (by kernel_rfl) X rfl rfl ?_
  refine br_ne (fun e1 => no h fun s => ?_) (fun e1 => ?_)
  · have := s.llo; dsimp only at e1; omega
  refine rd_box0 (by kernel_rfl) X rfl rfl ?_
  refine br_ne (fun e2 => no h fun s => ?_) (fun e2 => ?_)
  · have := s.lhi; dsimp only at e2; omega
  dsimp only at e1 e2
  have l1 : ls.length = up.length := by omega
  have l3 : hs.length = up.length := by omega
  refine loop_up lo.2.1 (fun i w' => bel w8 w' ∧ (∀ j, j < i → ∀ x, ls[j]? = some x → Win x) ∧ (∀ j, j < i → ∀ x, hs[j]? = some x → Win x)) ⟨bel.refl _, pre_zero, pre_zero⟩ fun i w13 hi' ⟨hw, hq1, hq2⟩ again hag _ => ?_
  refine br_dec (fun e3 => ?_) (fun e3 => ?_)
  · dsimp only at e3
    refine at_int tyI64 (by kernel_rfl) (HLo.up hw) rfl (by omega) fun la hla => ?_
    refine call_mono (withinF la 1000000000 w13 (by omega)) ?_
    rintro _ w17 ⟨rfl, h'⟩
    replace hw := hw.trans h'
    refine br_not (fun e4 => no (h.trans hw) fun s => ?_) (fun e4 => ?_)
    · have := s.wlo la (mem_at hla); simp at e4; omega
    refine at_int tyI64 (by kernel_rfl) (HHi.up hw) rfl (by omega) fun ha hha => ?_
    refine call_mono (withinF ha 1000000000 w17 (by omega)) ?_
    rintro _ w21 ⟨rfl, h'⟩
    replace hw := hw.trans h'
    refine br_not (fun e5 => no (h.trans hw) fun s => ?_) (fun e5 => ?_)
    · have := s.whi ha (mem_at hha); simp at e5; omega
    refine z_i64 (by dsimp only; omega) ?_
    simp only [Bool.and_eq_true, decide_eq_true_eq] at e4 e5
    exact hag _ (by omega) ⟨hw, pre_step hq1 hla e4, pre_step hq2 hha e5⟩
  dsimp only at e3
  have l2 := pre_all hq1 (by omega)
  have l4 := pre_all hq2 (by omega)
  clear hq1 hq2 hag again
  replace h := h.trans hw; replace X := X.up hw; replace H := H.up hw; replace HM := HM.up hw; replace HLo := HLo.up hw; replace HHi := HHi.up hw; clear hw hi' e3
  have bnd : ∀ {x : Bool}, ((∃ (k : Nat) (a b : Int), ls[k]? = some a ∧ hs[k]? = some b ∧ b < a) ∨ rhsQ T rt M < lowN T M ls hs up.length ∨ lowN T M hs ls up.length < rhsQ T rt M ↔ x = true) → (x = true ↔ BndP up T rt ls hs M) := fun q => ⟨fun e => ⟨hok, l1, l3, l2, l4, q.2 e⟩, fun s => q.1 s.out⟩
  refine loop_up lo.2.1 (fun i w' => bel w13 w' ∧ ∀ j, j < i → ∀ a b, ls[j]? = some a → hs[j]? = some b → ¬ b < a) ⟨bel.refl _, fun j q => by omega⟩ fun i w25 hi' ⟨hw, hq⟩ again hag _ => ?_
  refine br_dec (fun e3 => ?_) (fun e3 => ?_)
  · dsimp only at e3
    refine drw_mk fun w26 h' _ => ?_
    replace hw := hw.trans h'
    refine at_int tyI64 (by kernel_rfl) (HLo.up hw) rfl (by omega) fun la hla => ?_
    refine at_int tyI64 (by kernel_rfl) (HHi.up hw) rfl (by omega) fun ha hha => ?_
    refine br_dec (fun e4 => ⟨true, rfl, bnd ⟨fun _ => rfl, fun _ => .inl ⟨i, la, ha, hla, hha, e4⟩⟩, h.trans hw⟩) (fun e4 => ?_)
    refine z_i64 (by dsimp only; omega) ?_
    refine hag _ (by omega) ⟨hw, fun j hj a b c1 c2 => ?_⟩
    rcases Nat.lt_or_ge j i with q | q
    · exact hq j q a b c1 c2
    · have : j = i := by omega
      subst this
      rw [hla] at c1; cases c1
      rw [hha] at c2; cases c2
      exact e4
  dsimp only at e3
  have nok : ¬ ∃ (k : Nat) (a b : Int), ls[k]? = some a ∧ hs[k]? = some b ∧ b < a := by
    rintro ⟨k, a, b, c1, c2, c3⟩
    exact hq k (by have := (List.getElem?_eq_some_iff.1 c1).1; omega) a b c1 c2 c3
  clear hq hag again
  replace h := h.trans hw; replace X := X.up hw; replace H := H.up hw; replace HM := HM.up hw; replace HLo := HLo.up hw; replace HHi := HHi.up hw; clear hw hi' e3
  refine rd_boxN X (by kernel_rfl) rfl ?_
  refine call_mono (comb11 u r b m up T rt M w25 H HM hI) ?_
  rintro (x33 : BT) w34 ⟨⟨_, hR⟩, h'⟩
  obtain ⟨⟨ts, hS, hts, hB⟩, hBr⟩ := hR (preE_0 ce1 ce2 ce3)
  replace h := h.trans h'; replace X := X.up h'; replace H := H.up h'; replace HM := HM.up h'; replace HLo := HLo.up h'; replace HHi := HHi.up h'; clear h'
  refine var_mk (z := .agg #[.bool false, .slice none 0 0, .slice none 0 0]) (by kernel_rfl) (by kernel_rfl) rfl rfl fun x35 w37 V hv _ => ?_
  replace V : Box w37 x35 (boxc x33.2.1) := V
  refine call_mono (wholeX 0 w37 ⟨by omega, by omega⟩) ?_
  rintro (t0 : TE) w39 ⟨hA0, _, _, h'⟩
  have hv2 := hv.trans h'
  replace V := V.up h'
  refine call_mono (wholeX 0 w39 ⟨by omega, by omega⟩) ?_
  rintro (t1 : TE) w41 ⟨hB0, _, _, h'⟩
  replace hA0 := hA0.up h'
  have hv3 := hv2.trans h'
  replace V := V.up h'
  replace hS := hS.up hv3
  replace hB : ∀ (k : Nat) t, ts[k]? = some t → BX 1000 w41 t (colQ T M k) := fun k t q => (hB k t q).up hv3
  replace hBr := hBr.up hv3
  replace h := h.trans hv3; replace X := X.up hv3; replace H := H.up hv3; replace HM := HM.up hv3; replace HLo := HLo.up hv3; replace HHi := HHi.up hv3; clear hv3
  have hln : ts.length = x33.1.2.1 := by
    have := hS.len
    rw [flat_len boxc_len] at this
    omega
  refine var2_mk (z := .agg #[.bool false, .slice none 0 0, .slice none 0 0]) (by kernel_rfl) (by kernel_rfl) (by kernel_rfl) rfl rfl rfl rfl fun x42 x44 w47 V1 V2 h' n42 n44 n4244 => ?_
  replace V1 : Box w47 x42 (boxc t0) := V1
  replace V2 : Box w47 x44 (boxc t1) := V2
  have ne : some x42.block ≠ some x44.block := by intro e; injection e; omega
  refine loop_up x33.1.2.1 (fun i w' => bel w41 w' ∧ ∃ t s : TE, Box w' x42 (boxc t) ∧ Box w' x44 (boxc s) ∧ BX (3 + 1006 * i) w' t (lowN T M ls hs i) ∧ BX (3 + 1006 * i) w' s (lowN T M hs ls i))
    ⟨h', t0, t1, V1, V2, hA0.up h', hB0.up h'⟩ fun i w50 hi' ⟨hw, t, s, V1, V2, E1, E2⟩ again hag _ => ?_
  refine br_dec (fun e3 => ?_) (fun e3 => ?_)
  · dsimp only at e3
    obtain ⟨la, hla⟩ : ∃ la, ls[i]? = some la := ⟨_, List.getElem?_eq_getElem (by omega)⟩
    obtain ⟨ha, hha⟩ : ∃ ha, hs[i]? = some ha := ⟨_, List.getElem?_eq_getElem (by omega)⟩
    obtain ⟨tc, htc⟩ : ∃ tc, ts[i]? = some tc := ⟨_, List.getElem?_eq_getElem (by omega)⟩
    have wla := l2 la (mem_at hla)
    have wha := l4 ha (mem_at hha)
    have hBq := hB i tc htc
    obtain ⟨q, hq0⟩ : ∃ q, q = colQ T M i := ⟨_, rfl⟩
    rw [← hq0] at hBq
    have st1 : lowN T M ls hs (i + 1) = lowN T M ls hs i + q * ((if q < 0 then ha else la : Int) : Rat) := by
      show lowN T M ls hs i + colQ T M i * ((pickB (colQ T M i) ls hs i : Int) : Rat) = _
      rw [pick_at hla hha, hq0]
    have st2 : lowN T M hs ls (i + 1) = lowN T M hs ls i + q * ((if q < 0 then la else ha : Int) : Rat) := by
      show lowN T M hs ls i + colQ T M i * ((pickB (colQ T M i) hs ls i : Int) : Rat) = _
      rw [pick_at hha hla, hq0]
    refine join_mk (fun _ w' => bel w41 w' ∧ ∃ t s : TE, Box w' x42 (boxc t) ∧ Box w' x44 (boxc s) ∧ BX (3 + 1006 * (i + 1)) w' t (lowN T M ls hs (i + 1)) ∧ BX (3 + 1006 * (i + 1)) w' s (lowN T M hs ls (i + 1))) (fun K hK => ?_) (fun _ w' hh _ => z_i64 (by dsimp only; omega) (hag _ (by omega) hh))
    refine drw_mk fun w55 h' _ => ?_
    have hw1 := hw.trans h'
    replace V1 := V1.up h'; replace V2 := V2.up h'; replace E1 := E1.up h'; replace E2 := E2.up h'
    have l42 := V1.lt
    have l44 := V2.lt
    refine flEx_mk (fun i _ v w' => (i = 8 → ∃ t : TE, v = exV t ∧ BX 3 w' t (la : Rat)) ∧ (i = 9 → ∃ t : TE, v = exV t ∧ BX 1004 w' t (q * (la : Rat))) ∧ (i = 18 → ∃ t : TE, v = exV t ∧ BX 3 w' t (ha : Rat)) ∧ (i = 19 → ∃ t : TE, v = exV t ∧ BX 1004 w' t (q * (ha : Rat))) ∧
        (i = 20 ∨ i = 21 → ∃ a : Addr, v = .pointer (some a) ∧ Box w' a (boxc z0) ∧ w55.heap.size ≤ a.block))
      (fun _ _ _ _ _ h hb => ⟨fun e => by obtain ⟨t, q1, q2⟩ := h.1 e; exact ⟨t, q1, q2.up hb⟩, fun e => by obtain ⟨t, q1, q2⟩ := h.2.1 e; exact ⟨t, q1, q2.up hb⟩, fun e => by obtain ⟨t, q1, q2⟩ := h.2.2.1 e; exact ⟨t, q1, q2.up hb⟩, fun e => by obtain ⟨t, q1, q2⟩ := h.2.2.2.1 e; exact ⟨t, q1, q2.up hb⟩, fun e => by obtain ⟨a, q1, q2, q3⟩ := h.2.2.2.2 e; exact ⟨a, q1, q2.up hb, q3⟩⟩) ?_
    refine at_agg tyBigs agBig boxc_len (by omega) (hS.up hw1) rfl htc rfl ?_
    refine at_int tyI64 (by kernel_rfl) (HLo.up hw1) rfl (by omega) fun a' q' => ?_
    rw [hla] at q'; cases q'
    refine flc_mk (fun w61 hb _ => call_mono (wholeX la w61 ⟨by omega, by omega⟩) fun y w' ⟨hy, _, _, hb'⟩ => ⟨hb', fun _ => ⟨y, rfl, hy⟩, fun e => by omega, fun e => by omega, fun e => by omega, fun e => by omega⟩) (fun (x65 : TE) => ?_)
    refine flc_mk (fun w66 hb hf => ?_) (fun (x70 : TE) => ?_)
    · obtain ⟨t1, e1, B1⟩ := hf.1.1 rfl
      have e1' := exV_inj (t := x65) e1
      subst e1'
      exact call_mono (timesX tc x65 _ _ 1000 3 w66 (hBq.up (hw1.trans hb)) B1 (by omega) (by omega)) fun y w' ⟨hy, _, _, hb'⟩ => ⟨hb', fun e => by omega, fun _ => ⟨y, rfl, hy⟩, fun e => by omega, fun e => by omega, fun e => by omega⟩
    refine at_agg tyBigs agBig boxc_len (by omega) (hS.up hw1) rfl htc rfl ?_
    refine at_int tyI64 (by kernel_rfl) (HHi.up hw1) rfl (by omega) fun a' q' => ?_
    rw [hha] at q'; cases q'
    refine flc_mk (fun w75 hb _ => call_mono (wholeX ha w75 ⟨by omega, by omega⟩) fun y w' ⟨hy, _, _, hb'⟩ => ⟨hb', fun e => by omega, fun e => by omega, fun _ => ⟨y, rfl, hy⟩, fun e => by omega, fun e => by omega⟩) (fun (x79 : TE) => ?_)
    refine flc_mk (fun w80 hb hf => ?_) (fun (x84 : TE) => ?_)
    · obtain ⟨t1, e1, B1⟩ := hf.1.2.2.1 rfl
      have e1' := exV_inj (t := x79) e1
      subst e1'
      exact call_mono (timesX tc x79 _ _ 1000 3 w80 (hBq.up (hw1.trans hb)) B1 (by omega) (by omega)) fun y w' ⟨hy, _, _, hb'⟩ => ⟨hb', fun e => by omega, fun e => by omega, fun e => by omega, fun _ => ⟨y, rfl, hy⟩, fun e => by omega⟩
    refine flc_mk (fun w85 hb _ => wr_alloc (z := .agg #[.bool false, .slice none 0 0, .slice none 0 0]) (by kernel_rfl) fun a w' A hb' ha' _ => ⟨hb', fun e => by omega, fun e => by omega, fun e => by omega, fun e => by omega, fun _ => ⟨a, rfl, A, by have := hb.size; omega⟩⟩) (fun x89 => ?_)
    refine flc_mk (fun w90 hb _ => wr_alloc (z := .agg #[.bool false, .slice none 0 0, .slice none 0 0]) (by kernel_rfl) fun a w' A hb' ha' _ => ⟨hb', fun e => by omega, fun e => by omega, fun e => by omega, fun e => by omega, fun _ => ⟨a, rfl, A, by have := hb.size; omega⟩⟩) (fun x94 => ?_)
    refine flend_mk fun w95 hb hf => ?_
    obtain ⟨⟨f21, f20, f19, _, f9, _⟩, hpw⟩ := hf
    obtain ⟨a94, e94, B94, n94⟩ := f21.2.2.2.2 (.inr rfl)
    obtain ⟨a89, e89, B89, n89⟩ := f20.2.2.2.2 (.inl rfl)
    obtain ⟨t84, et84, P84⟩ := f19.2.2.2.1 rfl
    obtain ⟨t70, et70, P70⟩ := f9.2.1 rfl
    have e1 := exV_inj (t := x84) et84
    have e2 := exV_inj (t := x70) et70
    injection e94 with e94
    injection e94 with e94
    injection e89 with e89
    injection e89 with e89
    subst e1 e2 e94 e89
    have hd : some x89.block ≠ some x94.block := by
      intro e
      injection e with e
      have := (List.pairwise_cons.1 hpw).1 (.pointer (some x89)) (List.mem_cons_self ..)
      apply this
      rw [B94.eq, B89.eq, e]
    replace V1 := V1.up hb; replace V2 := V2.up hb; replace E1 := E1.up hb; replace E2 := E2.up hb
    have hw2 := hw1.trans hb
    have l41 : w41.heap.size ≤ w55.heap.size := hw1.size
    have nA : ∀ {x : Addr}, x.block < w55.heap.size → some x.block ≠ some x89.block := fun q e => by injection e; omega
    have nB : ∀ {x : Addr}, x.block < w55.heap.size → some x.block ≠ some x94.block := fun q e => by injection e; omega
    refine wu_box B89 (by kernel_rfl) (Nat.le_refl 3) rfl fun w97 C89 hg _ => ?_
    replace C89 : Box w97 x89 (boxc x70) := C89
    have C94 := B94.grown hg (fun e => hd e.symm)
    have R70 := P70.put B89 hg
    have R84 := P84.put B89 hg
    have W1 := V1.grown hg (nA l42)
    have W2 := V2.grown hg (nA l44)
    have F1 := E1.put B89 hg
    have F2 := E2.put B89 hg
    have hw3 := hw2.grownAt hg (by omega)
    refine wu_box C94 (by kernel_rfl) (Nat.le_refl 3) rfl fun w98 D94 hg2 _ => ?_
    replace D94 : Box w98 x94 (boxc x84) := D94
    have D89 := C89.grown hg2 hd
    replace R70 := R70.put C94 hg2
    replace R84 := R84.put C94 hg2
    replace W1 := W1.grown hg2 (nB l42)
    replace W2 := W2.grown hg2 (nB l44)
    replace F1 := F1.put C94 hg2
    replace F2 := F2.put C94 hg2
    have hw4 := hw3.grownAt hg2 (by omega)
    refine join_mk (fun _ w' => bel w41 w' ∧ Box w' x42 (boxc t) ∧ Box w' x44 (boxc s) ∧ BX (3 + 1006 * i) w' t (lowN T M ls hs i) ∧ BX (3 + 1006 * i) w' s (lowN T M hs ls i) ∧ ∃ ta tb : TE, Box w' x89 (boxc ta) ∧ Box w' x94 (boxc tb) ∧ BX 1004 w' ta (q * ((if q < 0 then ha else la : Int) : Rat)) ∧ BX 1004 w' tb (q * ((if q < 0 then la else ha : Int) : Rat))) (fun K' hK' => ?_) (fun _ w101 hh _ => ?_)
    · refine at_agg tyBigs agBig boxc_len (by omega) (hS.up hw4) rfl htc rfl ?_
      refine call_mono (signX tc q _ w98 (hBq.up hw4) (by omega)) ?_
      rintro _ w122 ⟨rfl, h'⟩
      replace hw4 := hw4.trans h'
      replace D94 := D94.up h'; replace D89 := D89.up h'; replace R70 := R70.up h'; replace R84 := R84.up h'; replace W1 := W1.up h'; replace W2 := W2.up h'; replace F1 := F1.up h'; replace F2 := F2.up h'
      refine br_dec (fun e5 => ?_) (fun e5 => ?_)
      · have qn := rsign_neg.1 e5
        refine rd_boxN D94 (by kernel_rfl) rfl ?_
        refine rd_boxN D89 (by kernel_rfl) rfl ?_
        refine wu_box D89 (by kernel_rfl) (Nat.le_refl 3) rfl fun w125 G89 hg3 _ => ?_
        replace G89 : Box w125 x89 (boxc x84) := G89
        have G94 := D94.grown hg3 (fun e => hd e.symm)
        replace R70 := R70.put D89 hg3
        replace R84 := R84.put D89 hg3
        replace W1 := W1.grown hg3 (nA l42)
        replace W2 := W2.grown hg3 (nA l44)
        replace F1 := F1.put D89 hg3
        replace F2 := F2.put D89 hg3
        have hw5 := hw4.grownAt hg3 (by omega)
        refine wu_box G94 (by kernel_rfl) (Nat.le_refl 3) rfl fun w126 I94 hg4 _ => ?_
        replace I94 : Box w126 x94 (boxc x70) := I94
        refine hK' _ _ ⟨hw5.grownAt hg4 (by omega), W1.grown hg4 (nB l42), W2.grown hg4 (nB l44), F1.put G94 hg4, F2.put G94 hg4, x84, x70, G89.grown hg4 hd, I94, ?_, ?_⟩
        · rw [if_pos qn]; exact R84.put G94 hg4
        · rw [if_pos qn]; exact R70.put G94 hg4
      · have qn : ¬ q < 0 := fun c => e5 (rsign_neg.2 c)
        refine hK' _ _ ⟨hw4, W1, W2, F1, F2, x70, x84, D89, D94, ?_, ?_⟩
        · rw [if_neg qn]; exact R70
        · rw [if_neg qn]; exact R84
    · obtain ⟨hw5, W1, W2, F1, F2, ta, tb, A1, A2, Q1, Q2⟩ := hh
      refine drw_mk fun w102 h' _ => ?_
      replace hw5 := hw5.trans h'
      replace W1 := W1.up h'; replace W2 := W2.up h'; replace F1 := F1.up h'; replace F2 := F2.up h'; replace A1 := A1.up h'; replace A2 := A2.up h'; replace Q1 := Q1.up h'; replace Q2 := Q2.up h'
      refine flEx_mk (fun _ _ v w' => ∃ y : TE, v = exV y ∧ BX (3 + 1006 * (i + 1)) w' y (lowN T M ls hs (i + 1))) (fun _ _ _ _ _ ⟨y, q1, q2⟩ hb => ⟨y, q1, q2.up hb⟩) ?_
      refine rd_boxN W1 (by kernel_rfl) rfl ?_
      refine rd_boxN A1 (by kernel_rfl) rfl ?_
      refine flc_mk (fun w106 hb _ => call_mono (plusX t ta _ _ (3 + 1006 * i) 1004 w106 (F1.up hb) (Q1.up hb) (by omega) (by omega)) fun y w' ⟨hy, _, _, hb'⟩ => ⟨hb', y, rfl, by rw [st1]; exact BX.le hy (by omega)⟩) (fun (x110 : TE) => ?_)
      refine rd_boxN W2 (by kernel_rfl) rfl ?_
      refine rd_boxN A2 (by kernel_rfl) rfl ?_
      refine flend_mk fun w113 hb hf => ?_
      obtain ⟨⟨y, ey, By⟩, _⟩ := hf
      have ey' := exV_inj (t := x110) ey
      subst ey'
      refine call_mono (plusX s tb _ _ (3 + 1006 * i) 1004 w113 (F2.up hb) (Q2.up hb) (by omega) (by omega)) ?_
      rintro (x115 : TE) w116 ⟨hy, _, _, h2'⟩
      have hy2 : BX (3 + 1006 * (i + 1)) w116 x115 (lowN T M hs ls (i + 1)) := by rw [st2]; exact BX.le hy (by omega)
      replace By := By.up h2'
      have hw6 := (hw5.trans hb).trans h2'
      replace W1 := (W1.up hb).up h2'; replace W2 := (W2.up hb).up h2'
      refine wu_box W1 (by kernel_rfl) (Nat.le_refl 3) rfl fun w117 U1 hg _ => ?_
      replace U1 : Box w117 x42 (boxc x110) := U1
      have U2 := W2.grown hg (fun e => ne e.symm)
      have By2 := By.put W1 hg
      have hy3 := hy2.put W1 hg
      have hw7 := hw6.grownAt hg n42
      refine wu_box U2 (by kernel_rfl) (Nat.le_refl 3) rfl fun w118 T2 hg2 _ => ?_
      exact hK _ _ ⟨hw7.grownAt hg2 n44, x110, x115, U1.grown hg2 ne, T2, By2.put U2 hg2, hy3.put U2 hg2⟩
  · dsimp only at e3
    have hi2 : i = up.length := by omega
    subst hi2
    refine rd_boxN (V.up hw) (by kernel_rfl) rfl ?_
    refine rd_boxN V1 (by kernel_rfl) rfl ?_
    refine call_mono (lessX x33.2.1 t _ _ 1000 (3 + 1006 * up.length) w50 (hBr.up hw) E1 (by omega) (by omega)) ?_
    rintro _ w130 ⟨rfl, h'⟩
    replace V1 := V1.up h'; replace V2 := V2.up h'; replace E1 := E1.up h'; replace E2 := E2.up h'
    have hw1 := hw.trans h'
    refine br_dec (fun e5 => ⟨true, rfl, bnd ⟨fun _ => rfl, fun _ => .inr (.inl (less_iff.1 e5))⟩, h.trans hw1⟩) (fun e5 => ?_)
    refine rd_boxN V2 (by kernel_rfl) rfl ?_
    refine rd_boxN (V.up hw1) (by kernel_rfl) rfl ?_
    refine call_mono (lessX s x33.2.1 _ _ (3 + 1006 * up.length) 1000 w130 E2 (hBr.up hw1) (by omega) (by omega)) ?_
    rintro _ w134 ⟨rfl, h'⟩
    refine ⟨_, rfl, bnd ⟨fun q => ?_, fun q => .inr (.inr (less_iff.1 (of_decide_eq_true q)))⟩, h.trans (hw1.trans h')⟩
    rcases q with q | q | q
    · exact absurd q nok
    · exact absurd (less_iff.2 q) e5
    · exact decide_eq_true (less_iff.2 q)
end Go.Proofs.Ytajpdnphamomjaa

/- The walk of LinearRaw. -/

namespace Go.Proofs.Ytajpdnphamomjaa
open Go.RowKit Go.Q Go.Q.Num Go.V

end Go.Proofs.Ytajpdnphamomjaa

/- The conditions of functions, printed by our tool; each is checked against the code by the kernel. -/



namespace Go.Proofs
open Go Go.V Go.RowKit
def S35 (t_ : (Option Addr)) (n_ : Int) (w0 : World) (R : Value → World → Prop) : Prop :=
 br (decide (n_ < 1)) (R (.int .i64 0) w0)
 (join (T := (Int × Unit)) (fun (s2 : (Int × Unit)) w3 => ∀ _ : Nat → Value,
 nn t_ fun (a4 : Addr) =>
 rd Try.prog (Instr.loadAt 3 (.pointer (some (Addr.add a4 1)))) (.one (.int .i64)) w3 fun (x5 : Int) =>
 z (IntKind.wrap .i64 (x5 + 1)) fun (z6 : Int) =>
 nn t_ fun (a7 : Addr) =>
 wu Try.prog (Instr.storeAt 3 (.pointer (some (Addr.add a7 1))) (.int .i64 z6)) w3 fun w8 =>
 R (.int .i64 s2.1) w8)
  fun (K1 : (Int × Unit) → World → Prop) =>
 drw w0 fun w9 =>
 nn t_ fun (a10 : Addr) =>
 rd Try.prog (Instr.loadAt 3 (.pointer (some (Addr.add a10 1)))) (.one (.int .i64)) w9 fun (x11 : Int) =>
 nn t_ fun (a12 : Addr) =>
 rd Try.prog (Instr.loadAt 47 (.pointer (some a12))) (.one .slice) w9 fun (x13 : Hd3) =>
 br (decide (x11 < ((x13.2.1 : Nat) : Int))) (drw w9 fun w14 =>
 nn t_ fun (a15 : Addr) =>
 rd Try.prog (Instr.loadAt 47 (.pointer (some a15))) (.one .slice) w14 fun (x16 : Hd3) =>
 nn t_ fun (a17 : Addr) =>
 rd Try.prog (Instr.loadAt 3 (.pointer (some (Addr.add a17 1)))) (.one (.int .i64)) w14 fun (x18 : Int) =>
 rdp Try.prog (Instr.indexAt 47 (.slice x16.1 x16.2.1 x16.2.2) (.int .i64 x18)) (.one .addr) fun (x19 : Addr) =>
 rd Try.prog (Instr.loadAt 3 (.pointer (some x19))) (.one (.int .i64)) w14 fun (x20 : Int) =>
 rdp Try.prog (cmpS .rem 3 (.tmp 27) (.tmp 28) (.int .i64 x20) (.int .i64 n_)) (.one (.int .i64)) fun (x21 : Int) =>
 br (decide (x21 < 0)) (z (IntKind.wrap .i64 (x21 + n_)) fun (z22 : Int) =>
 K1 (z22, ()) w14)
 (K1 (x21, ()) w14))
 (K1 (0, ()) w9))
def H35 : Hints := ⟨[(0, 17, [(5, (.one (.int .i64)))])], [(4, 9), (5, 11)], [], []⟩
set_option maxRecDepth 100000 in
theorem S35_eq (t_ : (Option Addr)) (n_ : Int) (w0 : World) (R : Value → World → Prop) : vcFn Try.prog H35 Try.f35 [(.pointer t_), (.int .i64 n_)] w0 R = S35 t_ n_ w0 R := by kernel_rfl
set_option maxRecDepth 100000 in
theorem S35_calls (t_ : (Option Addr)) (n_ : Int) (w0 : World) (R : Value → World → Prop) (h : S35 t_ n_ w0 R) : Calls Try.prog 35 #[(.pointer t_), (.int .i64 n_)] w0 (ret R) := by
  rw [← S35_eq] at h; exact vcFn_sound follows_ Try.func35 h

def S34 (t_ : (Option Addr)) (vars_ : Int) (rows_ : Int) (most_ : Int) (w0 : World) (R : Value → World → Prop) : Prop :=
 wr Try.prog (Instr.alloc 43 true (.tuple #[])) (.one .addr) w0 fun (x1 : Addr) w2 =>
 wr Try.prog (Instr.alloc 43 true (.tuple #[])) (.one .addr) w2 fun (x3 : Addr) w4 =>
 call Try.prog 35 [(.pointer t_), (.int .i64 vars_)] (.one (.one (.int .i64))) w4 fun (x5 : Int) w6 =>
 z (IntKind.wrap .i64 (1 + x5)) fun (z7 : Int) =>
 loop (T := (Int × Unit)) (0, ()) w6 fun (again8 : (Int × Unit) → World → Prop) (s9 : (Int × Unit)) w10 => ∀ _ : Nat → Value,
 br (decide (s9.1 < z7)) (drw w10 fun w11 => flExC w11 fun E14 G13 Y12 F15 =>
 rdE Try.prog (ER Y12 [7, 9] E14) (Instr.loadAt 40 (.pointer (some x3))) (.one .slice) w11 fun (x16 : Hd3) =>
 z (IntKind.wrap .i64 (most_ + 1)) fun (z17 : Int) =>
 flcC Y12 5 E14 w11 (fun _w19 => True) (fun (D20 : Nat → Bool) w18 =>
   call Try.prog 35 [(.pointer t_), (.int .i64 z17)] (.one (.one (.int .i64))) w18 fun (x21 : Int) w22 =>
 (E14 w18 w22 ∧ G13 5 w18 w22 ∧ Y12 (setD D20 5) w22 ∧ F15 5 [(.pointer t_), (.int .i64 z17)] (.int .i64 x21) w22))
  fun (x23 : Int) =>
 flcC Y12 6 E14 w11 (fun w25 => F15 5 [(.pointer t_), (.int .i64 z17)] (.int .i64 x23) w25 ∧ True) (fun (D26 : Nat → Bool) w24 =>
   wr Try.prog (Instr.buildSlice 40 1 #[(0, (.int .i64 x23))]) (.one .slice) w24 fun (x27 : Hd3) w28 =>
 (E14 w24 w28 ∧ G13 6 w24 w28 ∧ Y12 (setD D26 6) w28 ∧ F15 6 [] (.slice x27.1 x27.2.1 x27.2.2) w28))
  fun (x29 : Hd3) =>
 flendC Y12 [6, 5] E14 w11 (fun w31 => F15 6 [] (.slice x29.1 x29.2.1 x29.2.2) w31 ∧ F15 5 [(.pointer t_), (.int .i64 z17)] (.int .i64 x23) w31 ∧ True) fun w30 =>
 wr Try.prog (Builtin.append_ #[40, 40] 40 #[(.slice x16.1 x16.2.1 x16.2.2), (.slice x29.1 x29.2.1 x29.2.2)]) (.one .slice) w30 fun (x32 : Hd3) w33 =>
 wu Try.prog (Instr.storeAt 40 (.pointer (some x3)) (.slice x32.1 x32.2.1 x32.2.2)) w33 fun w34 =>
 z (IntKind.wrap .i64 (s9.1 + 1)) fun (z35 : Int) =>
 again8 (z35, ()) w34)
 (wr Try.prog (Instr.makeSlice 40 (.int .i64 z7) (.int .i64 z7)) (.one .slice) w10 fun (x36 : Hd3) w37 =>
 loop (T := (Int × Unit)) (0, ()) w37 fun (again38 : (Int × Unit) → World → Prop) (s39 : (Int × Unit)) w40 => ∀ _ : Nat → Value,
 br (decide (s39.1 < z7)) (rd Try.prog (Instr.loadAt 40 (.pointer (some x3))) (.one .slice) w40 fun (x41 : Hd3) =>
 rdp Try.prog (Instr.indexAt 40 (.slice x41.1 x41.2.1 x41.2.2) (.int .i64 s39.1)) (.one .addr) fun (x42 : Addr) =>
 rd Try.prog (Instr.loadAt 2 (.pointer (some x42))) (.one (.int .i64)) w40 fun (x43 : Int) =>
 z (IntKind.wrap .i64 (x43 + 1)) fun (z44 : Int) =>
 call Try.prog 35 [(.pointer t_), (.int .i64 z44)] (.one (.one (.int .i64))) w40 fun (x45 : Int) w46 =>
 rdp Try.prog (Instr.indexAt 40 (.slice x36.1 x36.2.1 x36.2.2) (.int .i64 s39.1)) (.one .addr) fun (x47 : Addr) =>
 wu Try.prog (Instr.storeAt 2 (.pointer (some x47)) (.int .i64 x45)) w46 fun w48 =>
 z (IntKind.wrap .i64 (s39.1 + 1)) fun (z49 : Int) =>
 again38 (z49, ()) w48)
 (call Try.prog 35 [(.pointer t_), (.int .i64 2)] (.one (.one (.int .i64))) w40 fun (x50 : Int) w51 =>
 z (IntKind.wrap .i64 (rows_ + 1)) fun (z52 : Int) =>
 call Try.prog 35 [(.pointer t_), (.int .i64 z52)] (.one (.one (.int .i64))) w51 fun (x53 : Int) w54 =>
 loop (T := (Int × Unit)) (x53, ()) w54 fun (again55 : (Int × Unit) → World → Prop) (s56 : (Int × Unit)) w57 => ∀ _ : Nat → Value,
 br (decide (s56.1 > 0)) (join (T := (Unit)) (fun (_s59 : (Unit)) w60 => ∀ _ : Nat → Value,
 z (IntKind.wrap .i64 (s56.1 - 1)) fun (z61 : Int) =>
 again55 (z61, ()) w60)
  fun (K58 : (Unit) → World → Prop) =>
 loop (T := (Hd3 × Int × Int × Unit)) ((none, 0, 0), 0, 0, ()) w57 fun (again62 : (Hd3 × Int × Int × Unit) → World → Prop) (s63 : (Hd3 × Int × Int × Unit)) w64 => ∀ _ : Nat → Value,
 br (decide (s63.2.2.1 < z7)) (call Try.prog 35 [(.pointer t_), (.int .i64 11)] (.one (.one (.int .i64))) w64 fun (x65 : Int) w66 =>
 z (IntKind.wrap .i64 (x65 - 5)) fun (z67 : Int) =>
 wr Try.prog (Instr.buildSlice 40 1 #[(0, (.int .i64 z67))]) (.one .slice) w66 fun (x68 : Hd3) w69 =>
 wr Try.prog (Builtin.append_ #[40, 40] 40 #[(.slice s63.1.1 s63.1.2.1 s63.1.2.2), (.slice x68.1 x68.2.1 x68.2.2)]) (.one .slice) w69 fun (x70 : Hd3) w71 =>
 rdp Try.prog (Instr.indexAt 40 (.slice x36.1 x36.2.1 x36.2.2) (.int .i64 s63.2.2.1)) (.one .addr) fun (x72 : Addr) =>
 rd Try.prog (Instr.loadAt 2 (.pointer (some x72))) (.one (.int .i64)) w71 fun (x73 : Int) =>
 z (IntKind.wrap .i64 (z67 * x73)) fun (z74 : Int) =>
 z (IntKind.wrap .i64 (s63.2.1 + z74)) fun (z75 : Int) =>
 z (IntKind.wrap .i64 (s63.2.2.1 + 1)) fun (z76 : Int) =>
 again62 ((x70.1, x70.2.1, x70.2.2), z75, z76, ()) w71)
 (join (T := (Int × Unit)) (fun (s78 : (Int × Unit)) w79 => ∀ _ : Nat → Value,
 drw w79 fun w80 => flExC w80 fun E83 G82 Y81 F84 =>
 rdE Try.prog (ER Y81 [4, 9, 11, 13] E83) (Instr.loadAt 41 (.pointer (some (Addr.add x3 1)))) (.one .slice) w80 fun (x85 : Hd3) =>
 flcC Y81 3 E83 w80 (fun _w87 => True) (fun (D88 : Nat → Bool) w86 =>
   wr Try.prog (Instr.buildSlice 41 1 #[(0, (.slice s63.1.1 s63.1.2.1 s63.1.2.2))]) (.one .slice) w86 fun (x89 : Hd3) w90 =>
 (E83 w86 w90 ∧ G82 3 w86 w90 ∧ Y81 (setD D88 3) w90 ∧ F84 3 [] (.slice x89.1 x89.2.1 x89.2.2) w90))
  fun (x91 : Hd3) =>
 flcC Y81 4 E83 w80 (fun w93 => F84 3 [] (.slice x91.1 x91.2.1 x91.2.2) w93 ∧ True) (fun (D94 : Nat → Bool) w92 =>
   wr Try.prog (Builtin.append_ #[41, 41] 41 #[(.slice x85.1 x85.2.1 x85.2.2), (.slice x91.1 x91.2.1 x91.2.2)]) (.one .slice) w92 fun (x95 : Hd3) w96 =>
 (E83 w92 w96 ∧ G82 4 w92 w96 ∧ Y81 (setD D94 4) w96 ∧ F84 4 [(.slice x85.1 x85.2.1 x85.2.2), (.slice x91.1 x91.2.1 x91.2.2)] (.slice x95.1 x95.2.1 x95.2.2) w96))
  fun (x97 : Hd3) =>
 rdE Try.prog (ER Y81 [9, 11, 13] E83) (Instr.loadAt 40 (.pointer (some (Addr.add x3 2)))) (.one .slice) w80 fun (x98 : Hd3) =>
 flcC Y81 8 E83 w80 (fun _w100 => True) (fun (D101 : Nat → Bool) w99 =>
   wr Try.prog (Instr.buildSlice 40 1 #[(0, (.int .i64 s78.1))]) (.one .slice) w99 fun (x102 : Hd3) w103 =>
 (E83 w99 w103 ∧ G82 8 w99 w103 ∧ Y81 (setD D101 8) w103 ∧ F84 8 [] (.slice x102.1 x102.2.1 x102.2.2) w103))
  fun (x104 : Hd3) =>
 flcC Y81 9 E83 w80 (fun w106 => F84 8 [] (.slice x104.1 x104.2.1 x104.2.2) w106 ∧ F84 4 [(.slice x85.1 x85.2.1 x85.2.2), (.slice x91.1 x91.2.1 x91.2.2)] (.slice x97.1 x97.2.1 x97.2.2) w106 ∧ F84 3 [] (.slice x91.1 x91.2.1 x91.2.2) w106 ∧ True) (fun (D107 : Nat → Bool) w105 =>
   wr Try.prog (Builtin.append_ #[40, 40] 40 #[(.slice x98.1 x98.2.1 x98.2.2), (.slice x104.1 x104.2.1 x104.2.2)]) (.one .slice) w105 fun (x108 : Hd3) w109 =>
 (E83 w105 w109 ∧ G82 9 w105 w109 ∧ Y81 (setD D107 9) w109 ∧ F84 9 [(.slice x98.1 x98.2.1 x98.2.2), (.slice x104.1 x104.2.1 x104.2.2)] (.slice x108.1 x108.2.1 x108.2.2) w109))
  fun (x110 : Hd3) =>
 flendC Y81 [9, 8, 4, 3] E83 w80 (fun w112 => F84 9 [(.slice x98.1 x98.2.1 x98.2.2), (.slice x104.1 x104.2.1 x104.2.2)] (.slice x110.1 x110.2.1 x110.2.2) w112 ∧ F84 8 [] (.slice x104.1 x104.2.1 x104.2.2) w112 ∧ F84 4 [(.slice x85.1 x85.2.1 x85.2.2), (.slice x91.1 x91.2.1 x91.2.2)] (.slice x97.1 x97.2.1 x97.2.2) w112 ∧ F84 3 [] (.slice x91.1 x91.2.1 x91.2.2) w112 ∧ True) fun w111 =>
 wu Try.prog (Instr.storeAt 41 (.pointer (some (Addr.add x3 1))) (.slice x97.1 x97.2.1 x97.2.2)) w111 fun w113 =>
 wu Try.prog (Instr.storeAt 40 (.pointer (some (Addr.add x3 2))) (.slice x110.1 x110.2.1 x110.2.2)) w113 fun w114 =>
 K58 (()) w114)
  fun (K77 : (Int × Unit) → World → Prop) =>
 br (!(x50 == 0)) (call Try.prog 35 [(.pointer t_), (.int .i64 7)] (.one (.one (.int .i64))) w64 fun (x115 : Int) w116 =>
 z (IntKind.wrap .i64 (x115 - 3)) fun (z117 : Int) =>
 z (IntKind.wrap .i64 (s63.2.1 + z117)) fun (z118 : Int) =>
 K77 (z118, ()) w116)
 (K77 (s63.2.1, ()) w64)))
 (rd Try.prog (Instr.loadAt 43 (.pointer (some x3))) (.agg [.slice, .slice, .slice]) w57 fun (x119 : (Hd3 × Hd3 × Hd3 × Unit)) =>
 wu Try.prog (Instr.storeAt 43 (.pointer (some x1)) (.agg #[(.slice x119.1.1 x119.1.2.1 x119.1.2.2), (.slice x119.2.1.1 x119.2.1.2.1 x119.2.1.2.2), (.slice x119.2.2.1.1 x119.2.2.1.2.1 x119.2.2.1.2.2)])) w57 fun w120 =>
 rd Try.prog (loadVar 43 x1) (.agg [.slice, .slice, .slice]) w120 fun (x121 : (Hd3 × Hd3 × Hd3 × Unit)) =>
 R (.agg #[(.slice x121.1.1 x121.1.2.1 x121.1.2.2), (.slice x121.2.1.1 x121.2.1.2.1 x121.2.1.2.2), (.slice x121.2.2.1.1 x121.2.2.1.2.1 x121.2.2.1.2.2)]) w120)))
def H34 : Hints := ⟨[(2, 0, [(11, (.one (.int .i64)))]), (2, 2, [(13, (.one (.int .i64)))]), (2, 4, [(15, (.one (.int .i64)))]), (2, 6, [(16, (.one .slice)), (17, (.one (.int .i64))), (18, (.one (.int .i64)))]), (0, 88, [(17, (.one (.int .i64)))]), (1, 5, [])], [(6, 7), (26, 11)], [], [1000026, 1000006]⟩
set_option maxRecDepth 100000 in
theorem S34_eq (t_ : (Option Addr)) (vars_ : Int) (rows_ : Int) (most_ : Int) (w0 : World) (R : Value → World → Prop) : vcFn Try.prog H34 Try.f34 [(.pointer t_), (.int .i64 vars_), (.int .i64 rows_), (.int .i64 most_)] w0 R = S34 t_ vars_ rows_ most_ w0 R := by kernel_rfl
set_option maxRecDepth 100000 in
theorem S34_calls (t_ : (Option Addr)) (vars_ : Int) (rows_ : Int) (most_ : Int) (w0 : World) (R : Value → World → Prop) (h : S34 t_ vars_ rows_ most_ w0 R) : Calls Try.prog 34 #[(.pointer t_), (.int .i64 vars_), (.int .i64 rows_), (.int .i64 most_)] w0 (ret R) := by
  rw [← S34_eq] at h; exact vcFn_sound follows_ Try.func34 h

end Go.Proofs

/- The tape of numbers that made worlds are read from. -/



namespace Go.Proofs.Ytajpdnphamomjaa
open Go.RowKit Go.Q Go.Q.Num Go.V

theorem tyInts : TyS Try.prog 47 3 (.int .i64 0) 1 8 := ⟨by kernel_rfl, by kernel_rfl⟩
structure Tape (w : World) (tb : Addr) (l : Hdr) (L : List Int) (p : Nat) : Prop where
  box : Box w tb [.slice l.1 l.2.1 l.2.2, .int .i64 (p : Int)]
  sl : Sl w l.1 l.2.1 l.2.2 1 (ints .i64 L)
  old : ∀ ad, l.1 = some ad → L ≠ [] → ad.block < tb.block
  i64 : ∀ x ∈ L, I64 x
theorem Tape.up {w w' : World} {tb : Addr} {l : Hdr} {L : List Int} {p : Nat} (h : Tape w tb l L p) (hb : bel w w') : Tape w' tb l L p := ⟨h.box.up hb, h.sl.up hb, h.old, h.i64⟩
theorem Tape.grown {w w' : World} {tb : Addr} {l : Hdr} {L : List Int} {p b : Nat} (h : Tape w tb l L p) (hg : w.grownBy w' (some b)) (hb : tb.block < b) : Tape w' tb l L p :=
  ⟨h.box.xg hg (by omega), Sl.xg h.sl hg (fun ad ha hx => by have := h.old ad ha (by rintro rfl; exact hx rfl); omega), h.old, h.i64⟩
theorem Tape.xb {S : Nat → Prop} {w w' : World} {tb : Addr} {l : Hdr} {L : List Int} {p : Nat} (h : Tape w tb l L p) (hX : Xb S w w') (hs : ∀ k, S k → tb.block < k) : Tape w' tb l L p :=
  ⟨h.box.xb hX (fun q => by have := hs _ q; omega), h.sl.xb hX (fun ad ha hx q => by have := h.old ad ha (by rintro rfl; exact hx rfl); have := hs _ q; omega), h.old, h.i64⟩
set_option maxHeartbeats 400000 in
theorem nextF {w : World} {tb : Addr} {l : Hdr} {L : List Int} {p : Nat} (n : Int) (h : Tape w tb l L p) (hp : p ≤ 1000000) (hn : 1 ≤ n ∧ n ≤ 9223372036854775807) :
    call Try.prog 35 [.pointer (some tb), .int .i64 n] (.one (.one (.int .i64))) w (fun (x : Int) w' => (0 ≤ x ∧ x < n) ∧ Tape w' tb l L (p + 1) ∧ w.grownBy w' (some tb.block)) := by
  refine call_of (S35_calls (some tb) n w _ ?_)
  unfold S35
  have hl := h.sl.int
  refine br_dec (fun e => by omega) (fun _ => ?_)
  refine join_mk (fun s w' => (0 ≤ s.1 ∧ s.1 < n) ∧ bel w w') (fun K hK => ?_) (fun s w3 hh _ => ?_)
  · refine drw_mk fun w9 h9 _ => ?_
    refine nn_mk rfl ?_
    refine rd_box (by kernel_rfl) (h.box.up h9) (i := 1) rfl rfl ?_
    refine nn_mk rfl ?_
    refine rd_box0 (by kernel_rfl) (h.box.up h9) rfl rfl ?_
    refine br_dec (fun e => ?_) (fun e => hK _ _ ⟨⟨by dsimp only; omega, by dsimp only; omega⟩, h9⟩)
    dsimp only at e
    refine drw_mk fun w14 h14 _ => ?_
    have h14' := h9.trans h14
    refine nn_mk rfl ?_
    refine rd_box0 (by kernel_rfl) (h.box.up h14') rfl rfl ?_
    refine nn_mk rfl ?_
    refine rd_box (by kernel_rfl) (h.box.up h14') (i := 1) rfl rfl ?_
    refine at_int tyInts (by kernel_rfl) (h.sl.up h14') rfl (by omega) fun x hx => ?_
    refine rdp_rem (by omega) ?_
    have b1 := Int.tmod_lt_of_pos x (show 0 < n by omega)
    have b2 := Int.lt_tmod_of_pos x (show 0 < n by omega)
    refine br_dec (fun e2 => ?_) (fun e2 => hK _ _ ⟨⟨by dsimp only; omega, by dsimp only; omega⟩, h14'⟩)
    refine z_i64 (by omega) ?_
    exact hK _ _ ⟨⟨by dsimp only; omega, by dsimp only; omega⟩, h14'⟩
  · obtain ⟨x, _⟩ := s
    obtain ⟨hx, hb⟩ := hh
    refine nn_mk rfl ?_
    refine rd_box (by kernel_rfl) (h.box.up hb) (i := 1) rfl rfl ?_
    refine z_i64 (by omega) ?_
    refine nn_mk rfl ?_
    refine wu_boxi (h.box.up hb) (by kernel_rfl) (by simp) rfl fun w8 X hg _ => ?_
    have X' : Box w8 tb [.slice l.1 l.2.1 l.2.2, .int .i64 ((p + 1 : Nat) : Int)] := X
    exact ⟨x, rfl, hx, ⟨X', Sl.xg (h.sl.up hb) hg (fun ad ha hx => by have := h.old ad ha (by rintro rfl; exact hx rfl); omega), h.old, h.i64⟩, (grown_of_bel hb _).trans hg⟩
end Go.Proofs.Ytajpdnphamomjaa

/- Made systems. -/


namespace Go.Proofs.Ytajpdnphamomjaa
open Go.RowKit Go.Q Go.Q.Num Go.V

structure MadeS (up : List Int) (T : List (List Int)) (rt : List Int) (vars rows most : Nat) : Prop where
  n1 : 1 ≤ up.length
  n2 : up.length ≤ vars
  t : T.length ≤ rows
  r : rt.length = T.length
  row : ∀ q ∈ T, q.length = up.length ∧ ∀ x ∈ q, -5 ≤ x ∧ x ≤ 5
  up : ∀ x ∈ up, 0 ≤ x ∧ x ≤ (most : Int)
  rt : ∀ x ∈ rt, x.natAbs ≤ vars * 50000 + 3
abbrev nil3 : List Value := [.slice none 0 0, .slice none 0 0, .slice none 0 0]
def RowsAt (w : World) (hs : List Hdr) (T : List (List Int)) (B : Nat) (o1 o2 : Option Nat) : Prop :=
  hs.length = T.length ∧ ∀ (i : Nat) (x : Hdr) (q : List Int), hs[i]? = some x → T[i]? = some q → Sl w x.1 x.2.1 x.2.2 1 (ints .i64 q) ∧ ∀ ad, x.1 = some ad → B ≤ ad.block ∧ ad.block < w.heap.size ∧ some ad.block ≠ o1 ∧ some ad.block ≠ o2
theorem RowsAt.grown {w w' : World} {hs : List Hdr} {T : List (List Int)} {B : Nat} {o1 o2 o : Option Nat} (h : RowsAt w hs T B o1 o2) (hg : w.grownBy w' o) (ho : (∀ k, o = some k → k < B) ∨ o = o1 ∨ o = o2) : RowsAt w' hs T B o1 o2 := by
  refine ⟨h.1, fun i x q h1 h2 => ?_⟩
  obtain ⟨s, f⟩ := h.2 i x q h1 h2
  refine ⟨s.grown hg fun ad ha _ e => ?_, fun ad ha => ?_⟩
  · obtain ⟨a1, a2, a3, a4⟩ := f ad ha
    rcases ho with ho | ho | ho
    · have := ho _ e.symm; omega
    · exact a3 (e.trans ho)
    · exact a4 (e.trans ho)
  · obtain ⟨a1, a2, a3, a4⟩ := f ad ha
    exact ⟨a1, by have := hg.size; omega, a3, a4⟩
abbrev TabH (w : World) (B : Nat) (rh : Hdr) (hs : List Hdr) : Prop := Own w B 40 1 rh.1 rh.2.1 rh.2.2 (hs.map hv)
theorem TabH.len {w : World} {B : Nat} {h : Hdr} {xs : List Hdr} (H : TabH w B h xs) : xs.length = h.2.1 := by have := H.sl.len; simpa using this

theorem TabH.apart {w : World} {B B' : Nat} {rh bh : Hdr} {hs : List Hdr} {rt : List Int} (OR : TabH w B rh hs) (OB : OwnI w B' bh rt) : ∀ k, blk rh.1 = some k → blk bh.1 = some k → False := Own.apart OR OB (by decide)

theorem RowsAt.xb {S : Nat → Prop} {w w' : World} {hs : List Hdr} {T : List (List Int)} {B : Nat} {o1 o2 : Option Nat} (h : RowsAt w hs T B o1 o2) (hX : Xb S w w') (ho : ∀ k, S k → o1 = some k ∨ o2 = some k) : RowsAt w' hs T B o1 o2 := by
  refine ⟨h.1, fun i x q h1 h2 => ?_⟩
  obtain ⟨s, f⟩ := h.2 i x q h1 h2
  refine ⟨s.xb hX fun ad ha _ e => ?_, fun ad ha => ?_⟩
  · obtain ⟨a1, a2, a3, a4⟩ := f ad ha
    rcases ho _ e with q | q
    · exact a3 q.symm
    · exact a4 q.symm
  · obtain ⟨a1, a2, a3, a4⟩ := f ad ha
    exact ⟨a1, by have := hX.size; omega, a3, a4⟩
theorem dotI_snoc {row xs : List Int} {c : Int} : ∀ {k : Nat}, k ≤ row.length → dotI (row ++ [c]) xs k = dotI row xs k
  | 0, _ => rfl
  | k + 1, h => by
    show dotI (row ++ [c]) xs k + dotJ (row ++ [c]) xs k = dotI row xs k + dotJ row xs k
    rw [dotI_snoc (by omega)]
    unfold dotJ
    rw [List.getElem?_append_left (by omega)]
set_option maxHeartbeats 4000000 in
theorem systemF {w : World} {tb : Addr} {l : Hdr} {L : List Int} {p : Nat} (vars rows most : Nat) (h : Tape w tb l L p) (hp : p ≤ 100000) (hv1 : 1 ≤ vars) (hv2 : vars ≤ 20) (hr : rows ≤ 20) (hm : most ≤ 10000) :
    call Try.prog 34 [.pointer (some tb), .int .i64 (vars : Int), .int .i64 (rows : Int), .int .i64 (most : Int)] (.one (.agg [.slice, .slice, .slice])) w (fun (x : Hdr × Hdr × Hdr × Unit) w' =>
      ∃ up T rt p', MadeS up T rt vars rows most ∧ (∀ w2, w'.grownBy w2 (some tb.block) → Sys w2 x.1 x.2.1 x.2.2.1 up T rt) ∧ Tape w' tb l L p' ∧ p' ≤ p + 1000 ∧ w.grownBy w' (some tb.block)) := by
  refine call_of (S34_calls (some tb) vars rows most w _ ?_)
  unfold S34
  have htb := h.box.lt
  refine wr_alloc (z := .agg #[.slice none 0 0, .slice none 0 0, .slice none 0 0]) (by kernel_rfl) fun x1 w2 A h1 hx1 _ => ?_
  refine wr_alloc (z := .agg #[.slice none 0 0, .slice none 0 0, .slice none 0 0]) (by kernel_rfl) fun x3 w4 V h2 hx3 _ => ?_
  replace A : Box w4 x1 nil3 := A.up h2
  replace V : Box w4 x3 nil3 := V
  have l1 := A.lt
  have l3 := V.lt
  have hb4 := h1.trans h2
  have hsz4 : w.heap.size ≤ w4.heap.size := hb4.size
  have n13 : x1.block < x3.block := by have := h1.size; omega
  have hw1 : w.heap.size ≤ x1.block := by omega
  have hw3 : w.heap.size ≤ x3.block := by omega
  refine call_mono (nextF (vars : Int) (h.up hb4) (by omega) ⟨by omega, by omega⟩) ?_
  rintro (x5 : Int) w6 ⟨hx5, ht, hg⟩
  obtain ⟨n, hn⟩ : ∃ n : Nat, 1 + x5 = (n : Int) := ⟨(1 + x5).toNat, by have := hx5.1; omega⟩
  have hn1 : 1 ≤ n := by have := hx5.1; omega
  have hn2 : n ≤ vars := by have := hx5.2; omega
  refine z_eq (m := (n : Int)) (by rw [IntWalk.i64_in _ ⟨by omega, by omega⟩]; exact hn) ?_
  have hf6 : w.grownBy w6 (some tb.block) := (grown_of_bel hb4 _).trans hg
  replace A := A.xg hg (by omega)
  replace V := V.xg hg (by omega)
  -- the bounds
  refine loop_up n (fun i w' => w.grownBy w' (some tb.block) ∧ Box w' x1 nil3 ∧ w4.heap.size ≤ w'.heap.size ∧ ∃ p' uh up, Tape w' tb l L p' ∧ p' ≤ p + 1 + i ∧ Box w' x3 [.slice (uh : Hdr).1 uh.2.1 uh.2.2, .slice none 0 0, .slice none 0 0] ∧ OwnI w' w4.heap.size uh up ∧ up.length = i ∧ ∀ x ∈ up, 0 ≤ x ∧ x ≤ (most : Int))
    ⟨hf6, A, hg.size, p + 1, (none, 0, 0), [], ht, by omega, V, Own.nil _ _ _ _, rfl, by simp⟩ fun i w10 hi ⟨hf, A, hs4, p', uh, up, ht, hp', V, O, hul, hub⟩ again hag _ => ?_
  have hol := O.len
  refine br_dec (fun e => ?_) (fun e => ?_)
  · dsimp only at e
    refine drw_mk fun w11 h11 _ => ?_
    replace A := A.up h11; replace V := V.up h11; replace ht := ht.up h11
    have O : OwnI w11 w4.heap.size uh up := O.kept h11
    replace hf := hf.trans (grown_of_bel h11 _)
    have hs11 : w4.heap.size ≤ w11.heap.size := by have := h11.size; omega
    refine flExC_mk (Xg tb.block) (fun _ _ _ => True) (fun D w' => ∃ q, Tape w' tb l L q ∧ q ≤ p' + (if D 5 = true then 1 else 0)) (fun i _ v w' => (i = 5 → ∃ x, v = .int .i64 x ∧ 0 ≤ x ∧ x ≤ (most : Int)) ∧ (i = 6 → ∃ ad x, v = .slice (some ad) 1 1 ∧ (0 ≤ x ∧ x ≤ (most : Int)) ∧ Sl w' (some ad) 1 1 1 (ints .i64 [x]) ∧ w11.heap.size ≤ ad.block))
      (fun w => grown_refl w _) (fun _ _ _ a b => grown_trans a b) (fun i j ags v w w' _ hΦ hE _ => ⟨hΦ.1, fun e => by
        obtain ⟨ad, x, q1, q2, q3, q4⟩ := hΦ.2 e
        exact ⟨ad, x, q1, q2, q3.xg hE (fun ad' ha _ => by cases ha; omega), q4⟩⟩) ⟨p', ht, by simp⟩ ?_
    refine rdE_box0 (by kernel_rfl) (fun w' hE => V.xg hE.1 (by omega)) rfl rfl ?_
    refine z_i64 (by omega) ?_
    refine flcC_mk (fun D w' hD hE hS _ => ?_) (fun x23 => ?_)
    · obtain ⟨q, hq1, hq2⟩ := hS
      rw [hD] at hq2
      refine call_mono (nextF ((most : Int) + 1) hq1 (by simp at hq2; omega) ⟨by omega, by omega⟩) ?_
      rintro (x : Int) w'' ⟨hx, ht', hg⟩
      exact ⟨hg, trivial, ⟨q + 1, ht', by rw [setD_self]; simp at hq2 ⊢; omega⟩, ⟨fun _ => ⟨x, rfl, hx.1, by have := hx.2; omega⟩, fun e => by omega⟩⟩
    refine flcC_mk (fun D w' hD hE hS hf => ?_) (fun x29 => ?_)
    · obtain ⟨q, hq1, hq2⟩ := hS
      obtain ⟨x', hx', hx2⟩ := hf.1.1 rfl
      injection hx' with _ hx'
      rw [← hx'] at hx2
      refine wr_lit tyI64 #[.int .i64 x23] (fill_one 1 (.int .i64 x23) _ rfl (by simp)) (by omega) (by omega) rfl (by unfold maxLen; omega) fun ad w'' O' hb hbl _ => ?_
      exact ⟨hb.xg _, trivial, ⟨q, hq1.up hb, by rw [setD_ne (by decide)]; exact hq2⟩, ⟨fun e => by omega, fun _ => ⟨ad, x23, rfl, hx2, (O' w'.heap.size (Nat.le_refl _)).sl, by have := hE.size; omega⟩⟩⟩
    refine flendC_mk fun w30 hE hS hfa => ?_
    obtain ⟨q, hq1, hq2⟩ := hS
    obtain ⟨ad, xv, ev, hxv, S, hS11⟩ := hfa.1.2 rfl
    have hq3 : q ≤ p' + 1 := hq2
    simp only [Value.slice.injEq] at ev
    obtain ⟨ev1, ev2, ev3⟩ := ev
    rw [ev1, ev2, ev3]
    have O30 : OwnI w30 w4.heap.size uh up := Own.xg O hE (by omega)
    replace A := A.xg hE (by omega); replace V := V.xg hE (by omega)
    replace hf := hf.trans hE
    refine wr_app tyI64 O30 S (by have := hE.size; omega) rfl (by omega) rfl (by omega) (by unfold maxLen; omega) fun a' c' w33 O33 hg33 _ _ => ?_
    have ho : ∀ k, blk uh.1 = some k → w4.heap.size ≤ k := fun k hk => (O30.lt k hk).1
    have hne1 : some x1.block ≠ blk uh.1 := fun e => by have := ho _ e.symm; omega
    have hne3 : some x3.block ≠ blk uh.1 := fun e => by have := ho _ e.symm; omega
    have htt : Tape w33 tb l L q := ⟨hq1.box.grown hg33 (fun e => by have := ho _ e.symm; omega), hq1.sl.grown hg33 (fun ad ha hx e => by have := hq1.old ad ha (by rintro rfl; exact hx rfl); have := ho _ e.symm; omega), hq1.old, hq1.i64⟩
    refine wu_box (V.grown hg33 hne3) (by kernel_rfl) (show 1 ≤ 3 by omega) rfl fun w34 V' hg34 _ => ?_
    refine z_i64 (by dsimp only; omega) ?_
    refine hag _ (by omega) ⟨xg_put (xg_put hf hg33 fun k hk => .inl (by have := ho k hk; have := hb4.size; omega)) hg34 (fun k hk => .inl (by injection hk; omega)), (A.grown hg33 hne1).xg hg34 (by omega), by have := hg33.size; have := hg34.size; have := hE.size; omega, q, (a', uh.2.1 + 1, c'), up ++ [xv], htt.grown hg34 (by omega), by omega, V', ?_, by simp [hul], ?_⟩
    · have : OwnI w33 w4.heap.size (a', uh.2.1 + 1, c') (up ++ [xv]) := by
        show Own w33 _ _ 1 a' (uh.2.1 + 1) c' (ints .i64 (up ++ [xv]))
        rw [ints_app]; exact O33
      exact Own.xg this hg34 l3
    · intro x hx
      rcases List.mem_append.1 hx with hx | hx
      · exact hub x hx
      · simp at hx; subst hx; exact hxv
  -- all bounds are there
  dsimp only at e
  have hin : i = n := by omega
  subst hin
  clear hag again
  have hol' := O.len
  have SU := O.sl
  have lu : ∀ ad, uh.1 = some ad → ints .i64 up ≠ [] → w4.heap.size ≤ ad.block ∧ ad.block < w10.heap.size := fun ad ha hx => ⟨(O.lt ad.block (by rw [ha]; rfl)).1, SU.lt ad ha hx⟩
  have l10 : w4.heap.size ≤ w10.heap.size := hs4
  refine wr_make tyI64 i rfl rfl (by omega) (by unfold maxLen; omega) fun xd w37 OX h37 hxd _ => ?_
  have OX' : OwnI w37 w10.heap.size (some xd, i, i) (List.replicate i 0) := by
    have := OX w10.heap.size (Nat.le_refl _)
    have hq : (madeCells (Value.int .i64 0).cells (i * 1)).toList = ints .i64 (List.replicate i 0) := by rw [Nat.mul_one]; exact made_int .i64 i
    rw [hq] at this
    exact this
  -- frames from here on: the tape, the system's variable, and what is new
  refine loop_up i (fun j w' => w10.grownBy w' (some tb.block) ∧ ∃ p' xs, Tape w' tb l L p' ∧ p' ≤ p + 1 + i + j ∧ OwnI w' w10.heap.size (some xd, i, i) xs ∧ ∀ x ∈ xs, 0 ≤ x ∧ x ≤ (most : Int))
    ⟨h37.xg _, p', List.replicate i 0, ht.up h37, by omega, OX', fun x hx => by rw [List.eq_of_mem_replicate hx]; omega⟩ fun j w40 hj ⟨hf40, p2, xs, ht, hp2, OX, hxb⟩ again hag _ => ?_
  have hxl := OX.len
  have V40 := V.xg hf40 (by omega)
  have SU40 := SU.xg hf40 (fun ad ha hx => by have := lu ad ha hx; omega)
  refine br_dec (fun e2 => ?_) (fun e2 => ?_)
  · dsimp only at e2
    refine rd_box0 (by kernel_rfl) V40 rfl rfl ?_
    refine at_int tyI64 (by kernel_rfl) SU40 rfl (by omega) fun u hu => ?_
    have hub' := hub u (mem_at hu)
    refine z_i64 (by omega) ?_
    refine call_mono (nextF (u + 1) ht (by omega) ⟨by omega, by omega⟩) ?_
    rintro (x45 : Int) w46 ⟨hx45, ht2, hg46⟩
    have OX46 : OwnI w46 w10.heap.size (some xd, i, i) xs := Own.xg OX hg46 (by omega)
    refine set_mk tyI64 OX46 rfl (show j < i by omega) rfl fun w48 OX48 hg48 _ => ?_
    rw [ints_set] at OX48
    refine z_i64 (by dsimp only; omega) ?_
    have hxd' : w10.heap.size ≤ xd.block := by omega
    refine hag _ (by omega) ⟨xg_put (hf40.trans hg46) hg48 (fun k hk => .inl (by simp [blk] at hk; omega)), p2 + 1, xs.set j x45, Tape.grown (b := xd.block) ht2 hg48 (by omega), by omega, OX48, fun x hx => ?_⟩
    rcases List.mem_or_eq_of_mem_set hx with hx | rfl
    · exact hxb x hx
    · exact ⟨hx45.1, by have := hx45.2; omega⟩
  dsimp only at e2
  clear hag again
  have hji : j = i := by omega
  subst hji
  have SX := OX.sl
  have lx : w10.heap.size ≤ xd.block ∧ xd.block < w40.heap.size := ⟨by omega, (OX.lt xd.block rfl).2⟩
  refine call_mono (nextF 2 ht (by omega) ⟨by omega, by omega⟩) ?_
  rintro (x50 : Int) w51 ⟨_, ht, hg51⟩
  refine z_i64 (by omega) ?_
  refine call_mono (nextF ((rows : Int) + 1) ht (by omega) ⟨by omega, by omega⟩) ?_
  rintro (x53 : Int) w54 ⟨hx53, ht, hg54⟩
  have hf54 := hg51.trans hg54
  have hsz54 := hf54.size
  have hsz40 := hf40.size
  obtain ⟨K, hK⟩ : ∃ K : Nat, x53 = (K : Int) := ⟨x53.toNat, by have := hx53.1; omega⟩
  subst hK
  have hKr : K ≤ rows := by have := hx53.2; omega
  have V54 := V40.xg hf54 (by omega)
  have A54 := (A.xg hf40 (by omega)).xg hf54 (by omega)
  have SU54 := SU40.xg hf54 (fun ad ha hx => by have := lu ad ha hx; omega)
  have SX54 := Sl.xg SX hf54 (fun ad ha _ => by cases ha; omega)
  have hfw54 : w.grownBy w54 (some tb.block) := (hf.trans hf40).trans hf54
  have hA1 : x1.block ≠ tb.block ∧ x1.block ≠ x3.block := ⟨by omega, by omega⟩
  -- what stays while rows are made
  have Kx : ∀ {w' : World}, Xb (fun k => k = tb.block ∨ k = x3.block) w54 w' → Sl w' (some xd) j j 1 (ints .i64 xs) := fun hX => by
    refine ⟨SX54.len, SX54.cap, SX54.most, SX54.nil', fun k u hu => ?_⟩
    obtain ⟨ad, q1, q2, q3⟩ := SX54.at' k u hu
    cases q1
    refine ⟨xd, rfl, ?_, by have := hX.size; omega⟩
    have := hX.block xd.block q3 (by omega)
    unfold World.cell? at q2 ⊢
    rw [add_block] at q2 ⊢
    rw [this]; exact q2
  have Ku : ∀ {w' : World}, Xb (fun k => k = tb.block ∨ k = x3.block) w54 w' → Sl w' uh.1 uh.2.1 uh.2.2 1 (ints .i64 up) := fun hX => by
    refine ⟨SU54.len, SU54.cap, SU54.most, SU54.nil', fun k u hu => ?_⟩
    obtain ⟨ad, q1, q2, q3⟩ := SU54.at' k u hu
    have hne : ints .i64 up ≠ [] := by rintro h0; rw [h0] at hu; simp at hu
    have := lu ad q1 hne
    refine ⟨ad, q1, ?_, by have := hX.size; omega⟩
    have := hX.block ad.block q3 (by omega)
    unfold World.cell? at q2 ⊢
    rw [add_block] at q2 ⊢
    rw [this]; exact q2
  refine loop_gh (G := Nat) (fun m s w' => s = (((K - m : Nat) : Int), ()) ∧ m ≤ K ∧ Xb (fun k => k = tb.block ∨ k = x3.block) w54 w' ∧ Box w' x1 nil3 ∧ ∃ p' rh bh hs T rt, Tape w' tb l L p' ∧ p' ≤ p + 3 + 2 * j + m * (j + 1) ∧
      Box w' x3 [.slice uh.1 uh.2.1 uh.2.2, .slice (rh : Hdr).1 rh.2.1 rh.2.2, .slice (bh : Hdr).1 bh.2.1 bh.2.2] ∧ TabH w' w54.heap.size rh hs ∧ OwnI w' w54.heap.size bh rt ∧ RowsAt w' hs T w54.heap.size (blk rh.1) (blk bh.1) ∧ T.length = m ∧ rt.length = m ∧
      (∀ q ∈ T, q.length = up.length ∧ ∀ x ∈ q, -5 ≤ x ∧ x ≤ 5) ∧ (∀ x ∈ rt, x.natAbs ≤ vars * 50000 + 3)) (fun m => K - m) 0
    ⟨rfl, Nat.zero_le _, Xb.refl _ _, A54, p2 + 1 + 1, (none, 0, 0), (none, 0, 0), [], [], [], ht, by omega, V54, Own.nil _ _ _ _, Own.nil _ _ _ _, ⟨rfl, fun i x q h1 _ => by simp at h1⟩, rfl, rfl, by simp, by simp⟩ ?_
  rintro m s w57 ⟨rfl, hmK, hX, A57, p3, rh, bh, hs, T, rt, ht, hp3, V57, OR, OB, RA, hTl, hrl, hTp, hrp⟩ again hag _
  have hX57 := hX.size
  refine br_dec (fun e3 => ?_) (fun e3 => ?_)
  · dsimp only at e3
    have SX57 := Kx hX
    have hrl0 := OR.len
    have hbl0 := OB.len
    have hhs := RA.1
    have apt : ∀ k, blk rh.1 = some k → blk bh.1 = some k → False := TabH.apart OR OB
    have lR : ∀ k, blk rh.1 = some k → w54.heap.size ≤ k ∧ k < w57.heap.size := fun k hk => OR.lt k hk
    have lB : ∀ k, blk bh.1 = some k → w54.heap.size ≤ k ∧ k < w57.heap.size := fun k hk => OB.lt k hk
    refine join_mk (fun _ w' => Xb (fun k => k = tb.block ∨ k = x3.block) w54 w' ∧ Box w' x1 nil3 ∧ ∃ p' rh bh hs T rt, Tape w' tb l L p' ∧ p' ≤ p + 3 + 2 * j + (m + 1) * (j + 1) ∧
      Box w' x3 [.slice uh.1 uh.2.1 uh.2.2, .slice (rh : Hdr).1 rh.2.1 rh.2.2, .slice (bh : Hdr).1 bh.2.1 bh.2.2] ∧ TabH w' w54.heap.size rh hs ∧ OwnI w' w54.heap.size bh rt ∧ RowsAt w' hs T w54.heap.size (blk rh.1) (blk bh.1) ∧ T.length = m + 1 ∧ rt.length = m + 1 ∧
      (∀ q ∈ T, q.length = up.length ∧ ∀ x ∈ q, -5 ≤ x ∧ x ≤ 5) ∧ (∀ x ∈ rt, x.natAbs ≤ vars * 50000 + 3)) (fun K' hK' => ?_) (fun _ w60 hJ _ => ?_)
    · refine loop_gh (G := Nat) (fun i s w' => ∃ (a : Hdr) (row : List Int) (p' : Nat), s = (a, dotI row xs i, ((i : Nat) : Int), ()) ∧ i ≤ j ∧ w57.grownBy w' (some tb.block) ∧ Tape w' tb l L p' ∧ p' ≤ p3 + i ∧ OwnI w' w57.heap.size a row ∧ row.length = i ∧ (∀ x ∈ row, -5 ≤ x ∧ x ≤ 5) ∧ (dotI row xs i).natAbs ≤ i * 50000) (fun i => j - i) 0
        ⟨(none, 0, 0), [], p3, rfl, Nat.zero_le _, grown_refl _ _, ht, by omega, Own.nil _ _ _ _, rfl, by simp, by simp [dotI]⟩ ?_
      rintro i s w64 ⟨a, row, p4, rfl, hij, hf57, ht, hp4, OA, hrow, hrb, hsum⟩ again2 hag2 _
      have hal := OA.len
      have hs64 := hf57.size
      refine br_dec (fun e4 => ?_) (fun e4 => ?_)
      · dsimp only at e4
        refine call_mono (nextF 11 ht (by have : m * (j + 1) ≤ 20 * 21 := Nat.mul_le_mul (by omega) (by omega); omega) ⟨by omega, by omega⟩) ?_
        rintro (x65 : Int) w66 ⟨hx65, ht, hg66⟩
        refine z_i64 (by omega) ?_
        have OA66 : OwnI w66 w57.heap.size a row := Own.xg OA hg66 (by omega)
        refine wr_app1 tyI64 OA66 (by have := hg66.size; omega) rfl (by omega) (by omega) rfl rfl (by omega) (by unfold maxLen; omega) fun a' c' w71 O71 hg71 _ _ => ?_
        have hoA : ∀ k, blk a.1 = some k → w57.heap.size ≤ k := fun k hk => (OA66.lt k hk).1
        have SX66 := Sl.xg (Sl.xg SX57 hf57 (fun ad ha _ => by cases ha; omega)) hg66 (fun ad ha _ => by cases ha; omega)
        have SX71 := Sl.grown SX66 hg71 (fun ad ha _ e => by cases ha; have := hoA _ e.symm; omega)
        refine at_int tyI64 (by kernel_rfl) SX71 rfl (by omega) fun xv hxv => ?_
        have bx := hxb xv (mem_at hxv)
        have hc : (row ++ [x65 - 5])[i]? = some (x65 - 5) := by rw [List.getElem?_append_right (by omega), hrow, Nat.sub_self]; rfl
        have st : dotI (row ++ [x65 - 5]) xs (i + 1) = dotI row xs i + (x65 - 5) * xv := by rw [dotI_step hc hxv, dotI_snoc (by omega)]
        have bp : ((x65 - 5) * xv).natAbs ≤ 50000 := by
          rw [Int.natAbs_mul]
          exact Nat.le_trans (Nat.mul_le_mul (show (x65 - 5).natAbs ≤ 5 by omega) (show xv.natAbs ≤ 10000 by omega)) (by omega)
        have bs : (dotI (row ++ [x65 - 5]) xs (i + 1)).natAbs ≤ (i + 1) * 50000 := by rw [st]; omega
        refine z_i64 (by omega) ?_
        refine z_i64 (by dsimp only; omega) ?_
        refine z_i64 (by dsimp only; omega) ?_
        have htt : Tape w71 tb l L (p4 + 1) := ⟨ht.box.grown hg71 (fun e => by have := hoA _ e.symm; omega), ht.sl.grown hg71 (fun ad ha hx e => by have := ht.old ad ha (by rintro rfl; exact hx rfl); have := hoA _ e.symm; omega), ht.old, ht.i64⟩
        refine hag2 (i + 1) _ _ ⟨(a', i + 1, c'), row ++ [x65 - 5], p4 + 1, ?_, by omega, xg_put (hf57.trans hg66) hg71 (fun k hk => .inl (hoA k hk)), htt, by omega, ?_, by simp [hrow], fun x hx => ?_, bs⟩ (by omega)
        · rw [st]
          have : a.2.1 = i := by omega
          rw [this]; rfl
        · show Own w71 _ _ 1 a' (i + 1) c' (ints .i64 (row ++ [x65 - 5]))
          have : a.2.1 = i := by omega
          rw [ints_app, ← this]; exact O71
        · rcases List.mem_append.1 hx with hx | hx
          · exact hrb x hx
          · simp at hx; subst hx; omega
      dsimp only at e4
      have hij' : i = j := by omega
      subst hij'
      have bmul : m * (i + 1) ≤ 20 * 21 := Nat.mul_le_mul (by omega) (by omega)
      have bi : i * 50000 ≤ vars * 50000 := Nat.mul_le_mul (by omega) (Nat.le_refl _)
      refine join_mk (fun s w' => s.1.natAbs ≤ vars * 50000 + 3 ∧ w57.grownBy w' (some tb.block) ∧ OwnI w' w57.heap.size a row ∧ ∃ p', Tape w' tb l L p' ∧ p' ≤ p3 + i + 1) (fun K'' hK'' => ?_) (fun s w79 hh _ => ?_)
      · refine br_not (fun _ => ?_) (fun _ => hK'' _ _ ⟨Nat.le_trans hsum (Nat.le_trans bi (Nat.le_add_right _ _)), hf57, OA, p4, ht, by omega⟩)
        refine call_mono (nextF 7 ht (by omega) ⟨by omega, by omega⟩) ?_
        rintro (x115 : Int) w116 ⟨hx115, ht, hg116⟩
        refine z_i64 (by omega) ?_
        refine z_i64 (by dsimp only; omega) ?_
        exact hK'' _ _ ⟨by dsimp only; omega, hf57.trans hg116, Own.xg OA hg116 (by omega), p4 + 1, ht, by omega⟩
      obtain ⟨sv, _⟩ := s
      obtain ⟨hsv, hf79, OA, p5, ht, hp5⟩ := hh
      dsimp only at hsv
      have hs79 := hf79.size
      refine drw_mk fun w80 h80 _ => ?_
      replace ht := ht.up h80
      have hf80 : w57.grownBy w80 (some tb.block) := hf79.trans (grown_of_bel h80 _)
      have hs80 := hf80.size
      have OR80 : TabH w80 w54.heap.size rh hs := Own.xg OR hf80 (by omega)
      have OB80 : OwnI w80 w54.heap.size bh rt := Own.xg OB hf80 (by omega)
      have OA80 : OwnI w80 w57.heap.size a row := Own.kept OA h80
      have V80 := V57.xg hf80 (by omega)
      have nx3 : ¬ (blk rh.1 = some x3.block ∨ blk bh.1 = some x3.block) := by rintro (q | q); have := lR _ q; omega; have := lB _ q; omega
      have blB : ∀ {k w'}, blk rh.1 = some k ∨ blk bh.1 = some k → w80.heap.size ≤ w'.heap.size → k < (w' : World).heap.size := by
        rintro k w' (q | q) h
        · have := lR _ q; omega
        · have := lB _ q; omega
      refine flExC_mk (Xb (fun k => blk rh.1 = some k ∨ blk bh.1 = some k)) (fun jj w w' => (jj = 4 → w.grownBy w' (blk rh.1)) ∧ (jj = 9 → w.grownBy w' (blk bh.1)) ∧ (jj ≠ 4 → jj ≠ 9 → bel w w'))
        (fun D w' => (D 4 = false → TabH w' w54.heap.size rh hs) ∧ (D 9 = false → OwnI w' w54.heap.size bh rt))
        (fun i _ v w' => (i = 3 → ∃ ad, v = .slice (some ad) 1 1 ∧ Sl w' (some ad) 1 1 1 [hv a] ∧ w80.heap.size ≤ ad.block) ∧ (i = 8 → ∃ ad, v = .slice (some ad) 1 1 ∧ Sl w' (some ad) 1 1 1 (ints .i64 [sv]) ∧ w80.heap.size ≤ ad.block) ∧
          (i = 4 → ∃ a' c', v = .slice a' (rh.2.1 + 1) c' ∧ TabH w' w54.heap.size (a', rh.2.1 + 1, c') (hs ++ [a]) ∧ (blk a' = blk rh.1 ∨ ∀ k, blk a' = some k → w80.heap.size ≤ k)) ∧
          (i = 9 → ∃ a' c', v = .slice a' (bh.2.1 + 1) c' ∧ OwnI w' w54.heap.size (a', bh.2.1 + 1, c') (rt ++ [sv]) ∧ (blk a' = blk bh.1 ∨ ∀ k, blk a' = some k → w80.heap.size ≤ k)))
        (fun w => Xb.refl _ w) (fun _ _ _ x y => Xb.trans x y) (fun i jj ags v w w' hne hΦ hE hG => ⟨fun e => ?_, fun e => ?_, fun e => ?_, fun e => ?_⟩) ⟨fun _ => OR80, fun _ => OB80⟩ ?_
      · obtain ⟨ad, q1, q2, q3⟩ := hΦ.1 e
        exact ⟨ad, q1, q2.xb hE (fun ad' ha _ q => by cases ha; have := blB q (Nat.le_refl _); omega), q3⟩
      · obtain ⟨ad, q1, q2, q3⟩ := hΦ.2.1 e
        exact ⟨ad, q1, q2.xb hE (fun ad' ha _ q => by cases ha; have := blB q (Nat.le_refl _); omega), q3⟩
      · obtain ⟨a', c', q1, q2, q3⟩ := hΦ.2.2.1 e
        refine ⟨a', c', q1, ?_, q3⟩
        by_cases hj9 : jj = 9
        · refine Own.keptBy q2 (hG.2.1 hj9) ?_
          cases hk : blk a' with
          | none => exact .inl rfl
          | some k =>
            refine .inr fun q => ?_
            rcases q3 with q3 | q3
            · exact apt k (by rw [← q3, hk]) q.symm
            · have := q3 k hk; have := lB k q.symm; omega
        · exact Own.kept q2 (hG.2.2 (fun q => hne (e.trans q.symm)) hj9)
      · obtain ⟨a', c', q1, q2, q3⟩ := hΦ.2.2.2 e
        refine ⟨a', c', q1, ?_, q3⟩
        by_cases hj4 : jj = 4
        · refine Own.keptBy q2 (hG.1 hj4) ?_
          cases hk : blk a' with
          | none => exact .inl rfl
          | some k =>
            refine .inr fun q => ?_
            rcases q3 with q3 | q3
            · exact apt k q.symm (by rw [← q3, hk])
            · have := q3 k hk; have := lR k q.symm; omega
        · exact Own.kept q2 (hG.2.2 hj4 (fun q => hne (e.trans q.symm)))
      have xbel : ∀ {w w' : World}, bel w w' → Xb (fun k => blk rh.1 = some k ∨ blk bh.1 = some k) w w' := fun hb => Xb.of (grown_of_bel hb none) (fun k hk => by cases hk)
      refine rdE_box (by kernel_rfl) (fun w' hE => V80.xb hE.1 nx3) (i := 1) rfl rfl ?_
      refine flcC_mk (fun D w' hD hE hS _ => ?_) (fun (x91 : Hdr) => ?_)
      · refine wr_lit tyTab #[.slice a.1 a.2.1 a.2.2] (fill_one 1 (.slice a.1 a.2.1 a.2.2) _ rfl (by simp)) (by omega) (by omega) rfl (by unfold maxLen; omega) fun ad w'' O' hb hbl _ => ?_
        exact ⟨xbel hb, ⟨fun e => by omega, fun e => by omega, fun _ _ => hb⟩, ⟨fun q => Own.kept (hS.1 (by rw [setD_ne (by decide)] at q; exact q)) hb, fun q => Own.kept (hS.2 (by rw [setD_ne (by decide)] at q; exact q)) hb⟩, ⟨fun _ => ⟨ad, rfl, (O' w'.heap.size (Nat.le_refl _)).sl, by have := hE.size; omega⟩, fun e => by omega, fun e => by omega, fun e => by omega⟩⟩
      refine flcC_mk (fun D w' hD hE hS hf => ?_) (fun (x97 : Hdr) => ?_)
      · obtain ⟨ad, ev, S, hS80⟩ := hf.1.1 rfl
        simp only [Value.slice.injEq] at ev
        obtain ⟨ev1, ev2, ev3⟩ := ev
        rw [ev1, ev2, ev3]
        have OR' := hS.1 hD
        refine wr_app tyTab OR' S (by have := hE.size; omega) rfl (by omega) rfl (by omega) (by unfold maxLen; omega) fun a' c' w'' O' hg hnew _ => ?_
        refine ⟨Xb.of hg (fun k hk => .inl hk), ⟨fun _ => hg, fun e => by omega, fun e => absurd rfl e⟩, ⟨(fun q => by rw [setD_self] at q; cases q), fun q => Own.keptBy (hS.2 (by rw [setD_ne (by decide)] at q; exact q)) hg ?_⟩, ⟨fun e => by omega, fun e => by omega, fun _ => ⟨a', c', rfl, ?_, ?_⟩, fun e => by omega⟩⟩
        · cases hk : blk bh.1 with
          | none => exact .inl rfl
          | some k => exact .inr fun q => apt k q.symm hk
        · show Own w'' _ _ 1 a' (rh.2.1 + 1) c' ((hs ++ [a]).map hv)
          rw [List.map_append]; exact O'
        · rcases hnew with q | q
          · exact .inl q
          · exact .inr fun k hk => by have := q k hk; have := hE.size; omega
      refine rdE_box (by kernel_rfl) (fun w' hE => V80.xb hE.1 nx3) (i := 2) rfl rfl ?_
      refine flcC_mk (fun D w' hD hE hS _ => ?_) (fun (x104 : Hdr) => ?_)
      · refine wr_lit tyI64 #[.int .i64 sv] (fill_one 1 (.int .i64 sv) _ rfl (by simp)) (by omega) (by omega) rfl (by unfold maxLen; omega) fun ad w'' O' hb hbl _ => ?_
        exact ⟨xbel hb, ⟨fun e => by omega, fun e => by omega, fun _ _ => hb⟩, ⟨fun q => Own.kept (hS.1 (by rw [setD_ne (by decide)] at q; exact q)) hb, fun q => Own.kept (hS.2 (by rw [setD_ne (by decide)] at q; exact q)) hb⟩, ⟨fun e => by omega, fun _ => ⟨ad, rfl, (O' w'.heap.size (Nat.le_refl _)).sl, by have := hE.size; omega⟩, fun e => by omega, fun e => by omega⟩⟩
      refine flcC_mk (fun D w' hD hE hS hf => ?_) (fun (x110 : Hdr) => ?_)
      · obtain ⟨ad, ev, S, hS80⟩ := hf.1.2.1 rfl
        simp only [Value.slice.injEq] at ev
        obtain ⟨ev1, ev2, ev3⟩ := ev
        rw [ev1, ev2, ev3]
        have OB' := hS.2 hD
        refine wr_app tyI64 OB' S (by have := hE.size; omega) rfl (by omega) rfl (by omega) (by unfold maxLen; omega) fun a' c' w'' O' hg hnew _ => ?_
        refine ⟨Xb.of hg (fun k hk => .inr hk), ⟨fun e => by omega, fun _ => hg, fun _ e => absurd rfl e⟩, ⟨fun q => Own.keptBy (hS.1 (by rw [setD_ne (by decide)] at q; exact q)) hg ?_, (fun q => by rw [setD_self] at q; cases q)⟩, ⟨fun e => by omega, fun e => by omega, fun e => by omega, fun _ => ⟨a', c', rfl, ?_, ?_⟩⟩⟩
        · cases hk : blk rh.1 with
          | none => exact .inl rfl
          | some k => exact .inr fun q => apt k hk q.symm
        · show Own w'' _ _ 1 a' (bh.2.1 + 1) c' (ints .i64 (rt ++ [sv]))
          rw [ints_app]; exact O'
        · rcases hnew with q | q
          · exact .inl q
          · exact .inr fun k hk => by have := q k hk; have := hE.size; omega
      refine flendC_mk fun w111 hE hS hfa => ?_
      obtain ⟨f9, _, f4, _⟩ := hfa
      obtain ⟨b1, d1, ev, OB1, hb1⟩ := f9.2.2.2 rfl
      have e9 : x110 = (b1, bh.2.1 + 1, d1) := sl_inj ev
      obtain ⟨a1, c1, ev, OR1, ha1⟩ := f4.2.2.1 rfl
      have e4' : x97 = (a1, rh.2.1 + 1, c1) := sl_inj ev
      subst e9 e4'
      have hs111 := hE.size
      have V111 := V80.xb hE nx3
      have ht111 := ht.xb hE (by rintro k (q | q); have := lR _ q; omega; have := lB _ q; omega)
      have A111 := (A57.xg hf80 (by omega)).xb hE (by rintro (q | q); have := lR _ q; omega; have := lB _ q; omega)
      have RA80 := RA.grown hf80 (.inl fun k hk => by injection hk; omega)
      have RA111 := RA80.xb hE (fun k q => q)
      have SA := OA80.sl
      have lA : ∀ ad, a.1 = some ad → w57.heap.size ≤ ad.block ∧ ad.block < w80.heap.size := fun ad ha => OA80.lt ad.block (by rw [ha]; rfl)
      have SA111 := SA.xb hE (fun ad ha _ q => by
        rcases q with q | q
        · have := lR _ q; have := lA ad ha; omega
        · have := lB _ q; have := lA ad ha; omega)
      have RA2 : RowsAt w111 (hs ++ [a]) (T ++ [row]) w54.heap.size (blk a1) (blk b1) := by
        refine ⟨by simp [hhs], fun k x q g1 g2 => ?_⟩
        have off : ∀ ad : Addr, w54.heap.size ≤ ad.block → ad.block < w80.heap.size → some ad.block ≠ blk rh.1 → some ad.block ≠ blk bh.1 → some ad.block ≠ blk a1 ∧ some ad.block ≠ blk b1 := by
          intro ad q1 q2 q3 q4
          constructor
          · intro e
            rcases ha1 with r | r
            · exact q3 (e.trans r)
            · have := r _ e.symm; omega
          · intro e
            rcases hb1 with r | r
            · exact q4 (e.trans r)
            · have := r _ e.symm; omega
        rcases Nat.lt_or_ge k hs.length with r | r
        · rw [List.getElem?_append_left r] at g1
          rw [List.getElem?_append_left (by omega)] at g2
          obtain ⟨s1, s2⟩ := RA111.2 k x q g1 g2
          obtain ⟨_, s3⟩ := RA80.2 k x q g1 g2
          refine ⟨s1, fun ad ha => ?_⟩
          obtain ⟨r1, r2, r3, r4⟩ := s3 ad ha
          obtain ⟨o1, o2⟩ := off ad r1 r2 r3 r4
          exact ⟨r1, by omega, o1, o2⟩
        · rw [List.getElem?_append_right r] at g1
          rw [List.getElem?_append_right (by omega)] at g2
          have hk0 : k - hs.length = 0 := by
            rcases Nat.eq_zero_or_pos (k - hs.length) with z | z
            · exact z
            · rw [List.getElem?_eq_none (by simp; omega)] at g1; cases g1
          rw [hk0] at g1
          rw [show k - T.length = 0 by omega] at g2
          cases g1; cases g2
          refine ⟨SA111, fun ad ha => ?_⟩
          have := lA ad ha
          obtain ⟨o1, o2⟩ := off ad (by omega) (by omega) (fun e => by have := lR _ e.symm; omega) (fun e => by have := lB _ e.symm; omega)
          exact ⟨by omega, by omega, o1, o2⟩
      refine wu_boxi V111 (by kernel_rfl) (show 1 < 3 by omega) rfl fun w113 V113 hg113 _ => ?_
      refine wu_boxi V113 (by kernel_rfl) (show 2 < 3 by omega) rfl fun w114 V114 hg114 _ => ?_
      have hg2 : w111.grownBy w114 (some x3.block) := hg113.trans hg114
      refine hK' _ _ ⟨?_, A111.xg hg2 (by omega), p5, (a1, rh.2.1 + 1, c1), (b1, bh.2.1 + 1, d1), hs ++ [a], T ++ [row], rt ++ [sv], ht111.grown hg2 (by omega), ?_, V114, Own.xg OR1 hg2 (by omega), Own.xg OB1 hg2 (by omega), RA2.grown hg2 (.inl fun k hk => by injection hk; omega), by simp [hTl], by simp [hrl], ?_, ?_⟩
      · refine ((hX.more (Xb.of (S := fun k => k = tb.block) hf80 (fun k hk => by injection hk with hk; exact hk.symm)) (fun k q => .inl (.inl q))).more hE (fun k q => .inr ?_)).more (Xb.of (S := fun k => k = x3.block) hg2 (fun k hk => by injection hk with hk; exact hk.symm)) (fun k q => .inl (.inr q))
        rcases q with q | q
        · exact (lR k q).1
        · exact (lB k q).1
      · have : (m + 1) * (i + 1) = m * (i + 1) + (i + 1) := by rw [Nat.add_mul, Nat.one_mul]
        omega
      · intro q hq
        rcases List.mem_append.1 hq with hq | hq
        · exact hTp q hq
        · simp at hq; subst hq; exact ⟨by omega, hrb⟩
      · intro x hx
        rcases List.mem_append.1 hx with hx | hx
        · exact hrp x hx
        · simp at hx; subst hx; exact hsv
    · obtain ⟨g1, g2, g3⟩ := hJ
      refine z_i64 (by dsimp only; omega) ?_
      refine hag (m + 1) _ _ ⟨?_, by omega, g1, g2, g3⟩ (by omega)
      have : (((K - m : Nat) : Int) - 1) = ((K - (m + 1) : Nat) : Int) := by omega
      rw [this]
  · dsimp only at e3
    have hmK' : m = K := by omega
    subst hmK'
    refine rd_boxN V57 (by kernel_rfl) rfl ?_
    refine wu_box A57 (by kernel_rfl) (Nat.le_refl 3) rfl fun w108 A108 hg108 _ => ?_
    have hhl := OR.len
    refine rd_boxV A108 (by kernel_rfl) rfl ⟨((uh, rh, bh, ()) : Hdr × Hdr × Hdr × Unit), rfl, up, T, rt, p3, ⟨by omega, by omega, by omega, by omega, hTp, hub, hrp⟩, fun w2 hg2 => ⟨?_, ?_, ?_⟩, ht.grown hg108 (by omega), ?_, ?_⟩
    · exact Sl.xg (Sl.xg (Ku hX) hg108 (fun ad ha hx => by have := lu ad ha hx; omega)) hg2 (fun ad ha hx => by have := lu ad ha hx; omega)
    · have OR2 := Own.xg (Own.xg OR hg108 (by omega)) hg2 (by omega)
      have RA2 := (RA.grown hg108 (.inl fun k hk => by injection hk; omega)).grown hg2 (.inl fun k hk => by injection hk; omega)
      exact ⟨hs, OR2.sl, RA2.1, fun i x q h1 h2 => (RA2.2 i x q h1 h2).1⟩
    · exact Own.sl (Own.xg (Own.xg OB hg108 (by omega)) hg2 (by omega))
    · have : m * (j + 1) ≤ 20 * 21 := Nat.mul_le_mul (by omega) (by omega)
      omega
    · refine xg_put (o := some x1.block) ?_ hg108 (fun k hk => .inl (by injection hk; omega))
      exact ⟨hX.os.trans hfw54.os, hX.tape.trans hfw54.tape, hX.output.trans hfw54.output, by have := hfw54.size; omega, fun k hk hne => by
        rw [hX.block k (by have := hfw54.size; omega) (by rintro (q | q); exact hne (by rw [q]); omega), hfw54.block k hk hne]⟩
end Go.Proofs.Ytajpdnphamomjaa

/- The walk of LinearCombines. -/

namespace Go.Proofs.Ytajpdnphamomjaa
open Go.RowKit Go.Q Go.Q.Num Go.V

theorem tyFracTab : TyS Try.prog 53 33 (.slice none 0 0) 1 24 := ⟨by kernel_rfl, by kernel_rfl⟩
theorem tape_new {w w' : World} {tb : Addr} {l : Hdr} {L : List Int} (S : Sl w l.1 l.2.1 l.2.2 1 (ints .i64 L)) (hI : ∀ x ∈ L, I64 x) (X : Box w' tb [.slice l.1 l.2.1 l.2.2, .int .i64 0]) (hb : bel w w') (hn : tb.block = w.heap.size) : Tape w' tb l L 0 :=
  ⟨X, S.up hb, fun ad ha hx => by have := S.lt ad ha (by intro e; cases L with | nil => exact hx rfl | cons x L => cases e); omega, hI⟩
abbrev OwnF (w : World) (B : Nat) (h : Hdr) (M : List (Int × Int)) : Prop := Own w B 23 2 h.1 h.2.1 h.2.2 (M.flatMap encF)
set_option maxRecDepth 100000 in
theorem argTape {w : World} {v : Value} (h : Go.Q.Arg Try.prog w 47 v) : ∃ x xs, v = hv x ∧ Sl w x.1 x.2.1 x.2.2 1 (ints .i64 xs) ∧ ∀ n ∈ xs, I64 n := by
  obtain ⟨a, n, c, rfl, h⟩ := Go.V.Arg.slice Try.underlying47 h
  obtain ⟨a1, n1, c1, xs, q1, _, s1, b1⟩ := Go.V.Read.ints Try.underlying47 Try.underlying3 (by kernel_rfl) h
  cases q1
  exact ⟨(a, n, c), xs, rfl, s1, fun x hx => bounds_i64 (b1 x hx)⟩
end Go.Proofs.Ytajpdnphamomjaa
