import Derived.KernelRfl
import Derived.WalkLawsBesides
import Derived.Test.YtajpdnphamomjaaOpen
import Derived.DataReads
import Derived.Laws.CopyRow
import Derived.Test.YtajpdnphamomjaaPackLinearNever2

/- The conditions of functions, printed by our tool; each is checked against the code by the kernel. -/



namespace Go.Proofs
open Go Go.V Go.RowKit
def S132 (a_0 : Int) (a_1 : Int) (b_0 : Int) (b_1 : Int) (w0 : World) (Pn : List PanicEntry → World → Prop) (R : Value → World → Prop) : Prop :=
 wr Try.prog (Instr.box 23 (.agg #[(.int .i64 a_0), (.int .i64 a_1)])) (.one .addr) w0 fun (x1 : Addr) w2 =>
 wr Try.prog (Instr.box 23 (.agg #[(.int .i64 b_0), (.int .i64 b_1)])) (.one .addr) w2 fun (x3 : Addr) w4 =>
 wr Try.prog (Instr.alloc 23 true (.tuple #[])) (.one .addr) w4 fun (x5 : Addr) w6 =>
 rd Try.prog (Instr.loadAt 23 (.pointer (some x1))) (.agg [(.int .i64), (.int .i64)]) w6 fun (x7 : (Int × Int × Unit)) =>
 rd Try.prog (Instr.loadAt 23 (.pointer (some x3))) (.agg [(.int .i64), (.int .i64)]) w6 fun (x8 : (Int × Int × Unit)) =>
 callP Try.prog Pn 18 [(.agg #[(.int .i64 x7.1), (.int .i64 x7.2.1)]), (.agg #[(.int .i64 x8.1), (.int .i64 x8.2.1)])] (.many [(.agg [(.int .i64), (.int .i64)]), (.one (.int .i64))]) w6 fun (x9 : ((Int × Int × Unit) × Int × Unit)) w10 =>
 callP Try.prog Pn 134 [(.agg #[(.int .i64 x9.1.1), (.int .i64 x9.1.2.1)]), (.int .i64 x9.2.1)] (.one (.agg [(.int .i64), (.int .i64)])) w10 fun (x11 : (Int × Int × Unit)) w12 =>
 wu Try.prog (Instr.storeAt 23 (.pointer (some x5)) (.agg #[(.int .i64 x11.1), (.int .i64 x11.2.1)])) w12 fun w13 =>
 rd Try.prog (loadVar 23 x5) (.agg [(.int .i64), (.int .i64)]) w13 fun (x14 : (Int × Int × Unit)) =>
 R (.agg #[(.int .i64 x14.1), (.int .i64 x14.2.1)]) w13
def H132 : Hints := ⟨[], [], [], []⟩
set_option maxRecDepth 100000 in
theorem S132_eq (a_0 : Int) (a_1 : Int) (b_0 : Int) (b_1 : Int) (w0 : World) (Pn : List PanicEntry → World → Prop) (R : Value → World → Prop) : vcFnP Try.prog (some Pn) H132 Try.f132 [(.agg #[(.int .i64 a_0), (.int .i64 a_1)]), (.agg #[(.int .i64 b_0), (.int .i64 b_1)])] w0 R = S132 a_0 a_1 b_0 b_1 w0 Pn R := by kernel_rfl
set_option maxRecDepth 100000 in
theorem S132_calls (a_0 : Int) (a_1 : Int) (b_0 : Int) (b_1 : Int) (w0 : World) (Pn : List PanicEntry → World → Prop) (R : Value → World → Prop) (h : S132 a_0 a_1 b_0 b_1 w0 Pn R) : Calls Try.prog 132 #[(.agg #[(.int .i64 a_0), (.int .i64 a_1)]), (.agg #[(.int .i64 b_0), (.int .i64 b_1)])] w0 (retP R (some Pn)) := by
  rw [← S132_eq] at h; exact vcFnP_sound follows_ Try.func132 h

def S123 (a_0 : Int) (a_1 : Int) (b_0 : Int) (b_1 : Int) (w0 : World) (Pn : List PanicEntry → World → Prop) (R : Value → World → Prop) : Prop :=
 wr Try.prog (Instr.box 23 (.agg #[(.int .i64 a_0), (.int .i64 a_1)])) (.one .addr) w0 fun (x1 : Addr) w2 =>
 wr Try.prog (Instr.box 23 (.agg #[(.int .i64 b_0), (.int .i64 b_1)])) (.one .addr) w2 fun (x3 : Addr) w4 =>
 wr Try.prog (Instr.alloc 23 true (.tuple #[])) (.one .addr) w4 fun (x5 : Addr) w6 =>
 rd Try.prog (Instr.loadAt 23 (.pointer (some x1))) (.agg [(.int .i64), (.int .i64)]) w6 fun (x7 : (Int × Int × Unit)) =>
 rd Try.prog (Instr.loadAt 23 (.pointer (some x3))) (.agg [(.int .i64), (.int .i64)]) w6 fun (x8 : (Int × Int × Unit)) =>
 callP Try.prog Pn 21 [(.agg #[(.int .i64 x7.1), (.int .i64 x7.2.1)]), (.agg #[(.int .i64 x8.1), (.int .i64 x8.2.1)])] (.many [(.agg [(.int .i64), (.int .i64)]), (.one (.int .i64))]) w6 fun (x9 : ((Int × Int × Unit) × Int × Unit)) w10 =>
 callP Try.prog Pn 134 [(.agg #[(.int .i64 x9.1.1), (.int .i64 x9.1.2.1)]), (.int .i64 x9.2.1)] (.one (.agg [(.int .i64), (.int .i64)])) w10 fun (x11 : (Int × Int × Unit)) w12 =>
 wu Try.prog (Instr.storeAt 23 (.pointer (some x5)) (.agg #[(.int .i64 x11.1), (.int .i64 x11.2.1)])) w12 fun w13 =>
 rd Try.prog (loadVar 23 x5) (.agg [(.int .i64), (.int .i64)]) w13 fun (x14 : (Int × Int × Unit)) =>
 R (.agg #[(.int .i64 x14.1), (.int .i64 x14.2.1)]) w13
def H123 : Hints := ⟨[], [], [], []⟩
set_option maxRecDepth 100000 in
theorem S123_eq (a_0 : Int) (a_1 : Int) (b_0 : Int) (b_1 : Int) (w0 : World) (Pn : List PanicEntry → World → Prop) (R : Value → World → Prop) : vcFnP Try.prog (some Pn) H123 Try.f123 [(.agg #[(.int .i64 a_0), (.int .i64 a_1)]), (.agg #[(.int .i64 b_0), (.int .i64 b_1)])] w0 R = S123 a_0 a_1 b_0 b_1 w0 Pn R := by kernel_rfl
set_option maxRecDepth 100000 in
theorem S123_calls (a_0 : Int) (a_1 : Int) (b_0 : Int) (b_1 : Int) (w0 : World) (Pn : List PanicEntry → World → Prop) (R : Value → World → Prop) (h : S123 a_0 a_1 b_0 b_1 w0 Pn R) : Calls Try.prog 123 #[(.agg #[(.int .i64 a_0), (.int .i64 a_1)]), (.agg #[(.int .i64 b_0), (.int .i64 b_1)])] w0 (retP R (some Pn)) := by
  rw [← S123_eq] at h; exact vcFnP_sound follows_ Try.func123 h

def S133 (a_0 : Int) (a_1 : Int) (b_0 : Int) (b_1 : Int) (w0 : World) (Pn : List PanicEntry → World → Prop) (R : Value → World → Prop) : Prop :=
 wr Try.prog (Instr.box 23 (.agg #[(.int .i64 a_0), (.int .i64 a_1)])) (.one .addr) w0 fun (x1 : Addr) w2 =>
 wr Try.prog (Instr.box 23 (.agg #[(.int .i64 b_0), (.int .i64 b_1)])) (.one .addr) w2 fun (x3 : Addr) w4 =>
 wr Try.prog (Instr.alloc 23 true (.tuple #[])) (.one .addr) w4 fun (x5 : Addr) w6 =>
 rd Try.prog (Instr.loadAt 23 (.pointer (some x1))) (.agg [(.int .i64), (.int .i64)]) w6 fun (x7 : (Int × Int × Unit)) =>
 rd Try.prog (Instr.loadAt 23 (.pointer (some x3))) (.agg [(.int .i64), (.int .i64)]) w6 fun (x8 : (Int × Int × Unit)) =>
 callP Try.prog Pn 23 [(.agg #[(.int .i64 x7.1), (.int .i64 x7.2.1)]), (.agg #[(.int .i64 x8.1), (.int .i64 x8.2.1)])] (.many [(.agg [(.int .i64), (.int .i64)]), (.one (.int .i64))]) w6 fun (x9 : ((Int × Int × Unit) × Int × Unit)) w10 =>
 callP Try.prog Pn 134 [(.agg #[(.int .i64 x9.1.1), (.int .i64 x9.1.2.1)]), (.int .i64 x9.2.1)] (.one (.agg [(.int .i64), (.int .i64)])) w10 fun (x11 : (Int × Int × Unit)) w12 =>
 wu Try.prog (Instr.storeAt 23 (.pointer (some x5)) (.agg #[(.int .i64 x11.1), (.int .i64 x11.2.1)])) w12 fun w13 =>
 rd Try.prog (loadVar 23 x5) (.agg [(.int .i64), (.int .i64)]) w13 fun (x14 : (Int × Int × Unit)) =>
 R (.agg #[(.int .i64 x14.1), (.int .i64 x14.2.1)]) w13
def H133 : Hints := ⟨[], [], [], []⟩
set_option maxRecDepth 100000 in
theorem S133_eq (a_0 : Int) (a_1 : Int) (b_0 : Int) (b_1 : Int) (w0 : World) (Pn : List PanicEntry → World → Prop) (R : Value → World → Prop) : vcFnP Try.prog (some Pn) H133 Try.f133 [(.agg #[(.int .i64 a_0), (.int .i64 a_1)]), (.agg #[(.int .i64 b_0), (.int .i64 b_1)])] w0 R = S133 a_0 a_1 b_0 b_1 w0 Pn R := by kernel_rfl
set_option maxRecDepth 100000 in
theorem S133_calls (a_0 : Int) (a_1 : Int) (b_0 : Int) (b_1 : Int) (w0 : World) (Pn : List PanicEntry → World → Prop) (R : Value → World → Prop) (h : S133 a_0 a_1 b_0 b_1 w0 Pn R) : Calls Try.prog 133 #[(.agg #[(.int .i64 a_0), (.int .i64 a_1)]), (.agg #[(.int .i64 b_0), (.int .i64 b_1)])] w0 (retP R (some Pn)) := by
  rw [← S133_eq] at h; exact vcFnP_sound follows_ Try.func133 h

def S122 (n_ : Int) (w0 : World) (R : Value → World → Prop) : Prop :=
 wr Try.prog (Instr.alloc 23 true (.tuple #[])) (.one .addr) w0 fun (x1 : Addr) w2 =>
 wu Try.prog (Instr.storeAt 23 (.pointer (some x1)) (.agg #[(.int .i64 n_), (.int .i64 1)])) w2 fun w3 =>
 rd Try.prog (loadVar 23 x1) (.agg [(.int .i64), (.int .i64)]) w3 fun (x4 : (Int × Int × Unit)) =>
 R (.agg #[(.int .i64 x4.1), (.int .i64 x4.2.1)]) w3
def H122 : Hints := ⟨[], [], [], []⟩
set_option maxRecDepth 100000 in
theorem S122_eq (n_ : Int) (w0 : World) (R : Value → World → Prop) : vcFn Try.prog H122 Try.f122 [(.int .i64 n_)] w0 R = S122 n_ w0 R := by kernel_rfl
set_option maxRecDepth 100000 in
theorem S122_calls (n_ : Int) (w0 : World) (R : Value → World → Prop) (h : S122 n_ w0 R) : Calls Try.prog 122 #[(.int .i64 n_)] w0 (ret R) := by
  rw [← S122_eq] at h; exact vcFn_sound follows_ Try.func122 h

def S117 (s_0a : Option Addr) (s_0n : Nat) (s_0c : Nat) (s_1a : Option Addr) (s_1n : Nat) (s_1c : Nat) (s_2a : Option Addr) (s_2n : Nat) (s_2c : Nat) (lower_a : Option Addr) (lower_n : Nat) (lower_c : Nat) (upper_a : Option Addr) (upper_n : Nat) (upper_c : Nat) (w0 : World) (Pn : List PanicEntry → World → Prop) (R : Value → World → Prop) : Prop :=
 wr Try.prog (Instr.box 43 (.agg #[(.slice s_0a s_0n s_0c), (.slice s_1a s_1n s_1c), (.slice s_2a s_2n s_2c)])) (.one .addr) w0 fun (x1 : Addr) w2 =>
 wr Try.prog (Instr.box 137 (.agg #[(.slice none 0 0), (.slice none 0 0), (.slice none 0 0), (.slice none 0 0), (.slice none 0 0), (.int .i64 0)])) (.one .addr) w2 fun (x3 : Addr) w4 =>
 rd Try.prog (Instr.loadAt 40 (.pointer (some x1))) (.one .slice) w4 fun (x5 : Hd3) =>
 loop (T := (Int × Unit)) (0, ()) w4 fun (again6 : (Int × Unit) → World → Prop) (s7 : (Int × Unit)) w8 => ∀ _ : Nat → Value,
 br (decide (s7.1 < ((x5.2.1 : Nat) : Int))) (drw w8 fun w9 => flExC w9 fun E12 G11 Y10 F13 =>
 nn (some x3) fun (a14 : Addr) =>
 rdE Try.prog (ER Y10 [13, 22, 23, 24, 33, 34, 35, 38, 41, 44] E12) (Instr.loadAt 33 (.pointer (some a14))) (.one .slice) w9 fun (x15 : Hd3) =>
 rdp Try.prog (Instr.indexAt 40 (.slice lower_a lower_n lower_c) (.int .i64 s7.1)) (.one .addr) fun (x16 : Addr) =>
 rdE Try.prog (ER Y10 [11, 12, 13, 22, 23, 24, 33, 34, 35, 38, 41, 44] E12) (Instr.loadAt 2 (.pointer (some x16))) (.one (.int .i64)) w9 fun (x17 : Int) =>
 flcC Y10 11 E12 w9 (fun _w19 => True) (fun (D20 : Nat → Bool) w18 =>
   callP Try.prog Pn 122 [(.int .i64 x17)] (.one (.agg [(.int .i64), (.int .i64)])) w18 fun (x21 : (Int × Int × Unit)) w22 =>
 (E12 w18 w22 ∧ G11 11 w18 w22 ∧ Y10 (setD D20 11) w22 ∧ F13 11 [(.int .i64 x17)] (.agg #[(.int .i64 x21.1), (.int .i64 x21.2.1)]) w22))
  fun (x23 : (Int × Int × Unit)) =>
 flcC Y10 12 E12 w9 (fun w25 => F13 11 [(.int .i64 x17)] (.agg #[(.int .i64 x23.1), (.int .i64 x23.2.1)]) w25 ∧ True) (fun (D26 : Nat → Bool) w24 =>
   D26 11 = true → wr Try.prog (Instr.buildSlice 33 1 #[(0, (.agg #[(.int .i64 x23.1), (.int .i64 x23.2.1)]))]) (.one .slice) w24 fun (x27 : Hd3) w28 =>
 (E12 w24 w28 ∧ G11 12 w24 w28 ∧ Y10 (setD D26 12) w28 ∧ F13 12 [] (.slice x27.1 x27.2.1 x27.2.2) w28))
  fun (x29 : Hd3) =>
 flcC Y10 13 E12 w9 (fun w31 => F13 12 [] (.slice x29.1 x29.2.1 x29.2.2) w31 ∧ F13 11 [(.int .i64 x17)] (.agg #[(.int .i64 x23.1), (.int .i64 x23.2.1)]) w31 ∧ True) (fun (D32 : Nat → Bool) w30 =>
   D32 12 = true → D32 11 = true → wr Try.prog (Builtin.append_ #[33, 33] 33 #[(.slice x15.1 x15.2.1 x15.2.2), (.slice x29.1 x29.2.1 x29.2.2)]) (.one .slice) w30 fun (x33 : Hd3) w34 =>
 (E12 w30 w34 ∧ G11 13 w30 w34 ∧ Y10 (setD D32 13) w34 ∧ F13 13 [(.slice x15.1 x15.2.1 x15.2.2), (.slice x29.1 x29.2.1 x29.2.2)] (.slice x33.1 x33.2.1 x33.2.2) w34))
  fun (x35 : Hd3) =>
 nn (some x3) fun (a36 : Addr) =>
 rdE Try.prog (ER Y10 [24, 33, 34, 35, 38, 41, 44] E12) (Instr.loadAt 33 (.pointer (some (Addr.add a36 1)))) (.one .slice) w9 fun (x37 : Hd3) =>
 rdp Try.prog (Instr.indexAt 40 (.slice upper_a upper_n upper_c) (.int .i64 s7.1)) (.one .addr) fun (x38 : Addr) =>
 rdE Try.prog (ER Y10 [22, 23, 24, 33, 34, 35, 38, 41, 44] E12) (Instr.loadAt 2 (.pointer (some x38))) (.one (.int .i64)) w9 fun (x39 : Int) =>
 flcC Y10 22 E12 w9 (fun w41 => F13 13 [(.slice x15.1 x15.2.1 x15.2.2), (.slice x29.1 x29.2.1 x29.2.2)] (.slice x35.1 x35.2.1 x35.2.2) w41 ∧ F13 12 [] (.slice x29.1 x29.2.1 x29.2.2) w41 ∧ F13 11 [(.int .i64 x17)] (.agg #[(.int .i64 x23.1), (.int .i64 x23.2.1)]) w41 ∧ True) (fun (D42 : Nat → Bool) w40 =>
   D42 13 = true → D42 12 = true → D42 11 = true → callP Try.prog Pn 122 [(.int .i64 x39)] (.one (.agg [(.int .i64), (.int .i64)])) w40 fun (x43 : (Int × Int × Unit)) w44 =>
 (E12 w40 w44 ∧ G11 22 w40 w44 ∧ Y10 (setD D42 22) w44 ∧ F13 22 [(.int .i64 x39)] (.agg #[(.int .i64 x43.1), (.int .i64 x43.2.1)]) w44))
  fun (x45 : (Int × Int × Unit)) =>
 flcC Y10 23 E12 w9 (fun w47 => F13 22 [(.int .i64 x39)] (.agg #[(.int .i64 x45.1), (.int .i64 x45.2.1)]) w47 ∧ F13 13 [(.slice x15.1 x15.2.1 x15.2.2), (.slice x29.1 x29.2.1 x29.2.2)] (.slice x35.1 x35.2.1 x35.2.2) w47 ∧ F13 12 [] (.slice x29.1 x29.2.1 x29.2.2) w47 ∧ F13 11 [(.int .i64 x17)] (.agg #[(.int .i64 x23.1), (.int .i64 x23.2.1)]) w47 ∧ True) (fun (D48 : Nat → Bool) w46 =>
   D48 22 = true → D48 13 = true → D48 12 = true → D48 11 = true → wr Try.prog (Instr.buildSlice 33 1 #[(0, (.agg #[(.int .i64 x45.1), (.int .i64 x45.2.1)]))]) (.one .slice) w46 fun (x49 : Hd3) w50 =>
 (E12 w46 w50 ∧ G11 23 w46 w50 ∧ Y10 (setD D48 23) w50 ∧ F13 23 [] (.slice x49.1 x49.2.1 x49.2.2) w50))
  fun (x51 : Hd3) =>
 flcC Y10 24 E12 w9 (fun w53 => F13 23 [] (.slice x51.1 x51.2.1 x51.2.2) w53 ∧ F13 22 [(.int .i64 x39)] (.agg #[(.int .i64 x45.1), (.int .i64 x45.2.1)]) w53 ∧ F13 13 [(.slice x15.1 x15.2.1 x15.2.2), (.slice x29.1 x29.2.1 x29.2.2)] (.slice x35.1 x35.2.1 x35.2.2) w53 ∧ F13 12 [] (.slice x29.1 x29.2.1 x29.2.2) w53 ∧ F13 11 [(.int .i64 x17)] (.agg #[(.int .i64 x23.1), (.int .i64 x23.2.1)]) w53 ∧ True) (fun (D54 : Nat → Bool) w52 =>
   D54 23 = true → D54 22 = true → D54 13 = true → D54 12 = true → D54 11 = true → wr Try.prog (Builtin.append_ #[33, 33] 33 #[(.slice x37.1 x37.2.1 x37.2.2), (.slice x51.1 x51.2.1 x51.2.2)]) (.one .slice) w52 fun (x55 : Hd3) w56 =>
 (E12 w52 w56 ∧ G11 24 w52 w56 ∧ Y10 (setD D54 24) w56 ∧ F13 24 [(.slice x37.1 x37.2.1 x37.2.2), (.slice x51.1 x51.2.1 x51.2.2)] (.slice x55.1 x55.2.1 x55.2.2) w56))
  fun (x57 : Hd3) =>
 nn (some x3) fun (a58 : Addr) =>
 rdE Try.prog (ER Y10 [35, 38, 41, 44] E12) (Instr.loadAt 33 (.pointer (some (Addr.add a58 2)))) (.one .slice) w9 fun (x59 : Hd3) =>
 rdp Try.prog (Instr.indexAt 40 (.slice lower_a lower_n lower_c) (.int .i64 s7.1)) (.one .addr) fun (x60 : Addr) =>
 rdE Try.prog (ER Y10 [33, 34, 35, 38, 41, 44] E12) (Instr.loadAt 2 (.pointer (some x60))) (.one (.int .i64)) w9 fun (x61 : Int) =>
 flcC Y10 33 E12 w9 (fun w63 => F13 24 [(.slice x37.1 x37.2.1 x37.2.2), (.slice x51.1 x51.2.1 x51.2.2)] (.slice x57.1 x57.2.1 x57.2.2) w63 ∧ F13 23 [] (.slice x51.1 x51.2.1 x51.2.2) w63 ∧ F13 22 [(.int .i64 x39)] (.agg #[(.int .i64 x45.1), (.int .i64 x45.2.1)]) w63 ∧ F13 13 [(.slice x15.1 x15.2.1 x15.2.2), (.slice x29.1 x29.2.1 x29.2.2)] (.slice x35.1 x35.2.1 x35.2.2) w63 ∧ F13 12 [] (.slice x29.1 x29.2.1 x29.2.2) w63 ∧ F13 11 [(.int .i64 x17)] (.agg #[(.int .i64 x23.1), (.int .i64 x23.2.1)]) w63 ∧ True) (fun (D64 : Nat → Bool) w62 =>
   D64 24 = true → D64 23 = true → D64 22 = true → D64 13 = true → D64 12 = true → D64 11 = true → callP Try.prog Pn 122 [(.int .i64 x61)] (.one (.agg [(.int .i64), (.int .i64)])) w62 fun (x65 : (Int × Int × Unit)) w66 =>
 (E12 w62 w66 ∧ G11 33 w62 w66 ∧ Y10 (setD D64 33) w66 ∧ F13 33 [(.int .i64 x61)] (.agg #[(.int .i64 x65.1), (.int .i64 x65.2.1)]) w66))
  fun (x67 : (Int × Int × Unit)) =>
 flcC Y10 34 E12 w9 (fun w69 => F13 33 [(.int .i64 x61)] (.agg #[(.int .i64 x67.1), (.int .i64 x67.2.1)]) w69 ∧ F13 24 [(.slice x37.1 x37.2.1 x37.2.2), (.slice x51.1 x51.2.1 x51.2.2)] (.slice x57.1 x57.2.1 x57.2.2) w69 ∧ F13 23 [] (.slice x51.1 x51.2.1 x51.2.2) w69 ∧ F13 22 [(.int .i64 x39)] (.agg #[(.int .i64 x45.1), (.int .i64 x45.2.1)]) w69 ∧ F13 13 [(.slice x15.1 x15.2.1 x15.2.2), (.slice x29.1 x29.2.1 x29.2.2)] (.slice x35.1 x35.2.1 x35.2.2) w69 ∧ F13 12 [] (.slice x29.1 x29.2.1 x29.2.2) w69 ∧ F13 11 [(.int .i64 x17)] (.agg #[(.int .i64 x23.1), (.int .i64 x23.2.1)]) w69 ∧ True) (fun (D70 : Nat → Bool) w68 =>
   D70 33 = true → D70 24 = true → D70 23 = true → D70 22 = true → D70 13 = true → D70 12 = true → D70 11 = true → wr Try.prog (Instr.buildSlice 33 1 #[(0, (.agg #[(.int .i64 x67.1), (.int .i64 x67.2.1)]))]) (.one .slice) w68 fun (x71 : Hd3) w72 =>
 (E12 w68 w72 ∧ G11 34 w68 w72 ∧ Y10 (setD D70 34) w72 ∧ F13 34 [] (.slice x71.1 x71.2.1 x71.2.2) w72))
  fun (x73 : Hd3) =>
 flendC Y10 [34, 33, 24, 23, 22, 13, 12, 11] E12 w9 (fun w75 => F13 34 [] (.slice x73.1 x73.2.1 x73.2.2) w75 ∧ F13 33 [(.int .i64 x61)] (.agg #[(.int .i64 x67.1), (.int .i64 x67.2.1)]) w75 ∧ F13 24 [(.slice x37.1 x37.2.1 x37.2.2), (.slice x51.1 x51.2.1 x51.2.2)] (.slice x57.1 x57.2.1 x57.2.2) w75 ∧ F13 23 [] (.slice x51.1 x51.2.1 x51.2.2) w75 ∧ F13 22 [(.int .i64 x39)] (.agg #[(.int .i64 x45.1), (.int .i64 x45.2.1)]) w75 ∧ F13 13 [(.slice x15.1 x15.2.1 x15.2.2), (.slice x29.1 x29.2.1 x29.2.2)] (.slice x35.1 x35.2.1 x35.2.2) w75 ∧ F13 12 [] (.slice x29.1 x29.2.1 x29.2.2) w75 ∧ F13 11 [(.int .i64 x17)] (.agg #[(.int .i64 x23.1), (.int .i64 x23.2.1)]) w75 ∧ True) fun w74 =>
 wr Try.prog (Builtin.append_ #[33, 33] 33 #[(.slice x59.1 x59.2.1 x59.2.2), (.slice x73.1 x73.2.1 x73.2.2)]) (.one .slice) w74 fun (x76 : Hd3) w77 =>
 nn (some x3) fun (a78 : Addr) =>
 wu Try.prog (Instr.storeAt 33 (.pointer (some a78)) (.slice x35.1 x35.2.1 x35.2.2)) w77 fun w79 =>
 nn (some x3) fun (a80 : Addr) =>
 wu Try.prog (Instr.storeAt 33 (.pointer (some (Addr.add a80 1))) (.slice x57.1 x57.2.1 x57.2.2)) w79 fun w81 =>
 nn (some x3) fun (a82 : Addr) =>
 wu Try.prog (Instr.storeAt 33 (.pointer (some (Addr.add a82 2))) (.slice x76.1 x76.2.1 x76.2.2)) w81 fun w83 =>
 z (IntKind.wrap .i64 (s7.1 + 1)) fun (z84 : Int) =>
 again6 (z84, ()) w83)
 (rd Try.prog (Instr.loadAt 41 (.pointer (some (Addr.add x1 1)))) (.one .slice) w8 fun (x85 : Hd3) =>
 loop (T := (Int × Unit)) (0, ()) w8 fun (again86 : (Int × Unit) → World → Prop) (s87 : (Int × Unit)) w88 => ∀ _ : Nat → Value,
 br (decide (s87.1 < ((x85.2.1 : Nat) : Int))) (rdp Try.prog (Instr.indexAt 41 (.slice x85.1 x85.2.1 x85.2.2) (.int .i64 s87.1)) (.one .addr) fun (x89 : Addr) =>
 rd Try.prog (Instr.loadAt 40 (.pointer (some x89))) (.one .slice) w88 fun (x90 : Hd3) =>
 rd Try.prog (Instr.loadAt 40 (.pointer (some x1))) (.one .slice) w88 fun (x91 : Hd3) =>
 rd Try.prog (Instr.loadAt 41 (.pointer (some (Addr.add x1 1)))) (.one .slice) w88 fun (x92 : Hd3) =>
 z (IntKind.wrap .i64 (((x91.2.1 : Nat) : Int) + ((x92.2.1 : Nat) : Int))) fun (z93 : Int) =>
 wr Try.prog (Instr.makeSlice 33 (.int .i64 z93) (.int .i64 z93)) (.one .slice) w88 fun (x94 : Hd3) w95 =>
 callP Try.prog Pn 122 [(.int .i64 0)] (.one (.agg [(.int .i64), (.int .i64)])) w95 fun (x96 : (Int × Int × Unit)) w97 =>
 wr Try.prog (Instr.alloc 23 true (.tuple #[])) (.one .addr) w97 fun (x98 : Addr) w99 =>
 wu Try.prog (Instr.storeAt 23 (.pointer (some x98)) (.agg #[(.int .i64 x96.1), (.int .i64 x96.2.1)])) w99 fun w100 =>
 loop (T := (Int × Unit)) (0, ()) w100 fun (again101 : (Int × Unit) → World → Prop) (s102 : (Int × Unit)) w103 => ∀ _ : Nat → Value,
 br (decide (s102.1 < ((x94.2.1 : Nat) : Int))) (join (T := (Unit)) (fun (_s105 : (Unit)) w106 => ∀ _ : Nat → Value,
 z (IntKind.wrap .i64 (s102.1 + 1)) fun (z107 : Int) =>
 again101 (z107, ()) w106)
  fun (K104 : (Unit) → World → Prop) =>
 callP Try.prog Pn 122 [(.int .i64 0)] (.one (.agg [(.int .i64), (.int .i64)])) w103 fun (x108 : (Int × Int × Unit)) w109 =>
 rdp Try.prog (Instr.indexAt 33 (.slice x94.1 x94.2.1 x94.2.2) (.int .i64 s102.1)) (.one .addr) fun (x110 : Addr) =>
 wu Try.prog (Instr.storeAt 23 (.pointer (some x110)) (.agg #[(.int .i64 x108.1), (.int .i64 x108.2.1)])) w109 fun w111 =>
 br (decide (s102.1 < ((x90.2.1 : Nat) : Int))) (rdp Try.prog (Instr.indexAt 40 (.slice x90.1 x90.2.1 x90.2.2) (.int .i64 s102.1)) (.one .addr) fun (x112 : Addr) =>
 rd Try.prog (Instr.loadAt 2 (.pointer (some x112))) (.one (.int .i64)) w111 fun (x113 : Int) =>
 br (x113 != 0) (rdp Try.prog (Instr.indexAt 40 (.slice x90.1 x90.2.1 x90.2.2) (.int .i64 s102.1)) (.one .addr) fun (x114 : Addr) =>
 rd Try.prog (Instr.loadAt 2 (.pointer (some x114))) (.one (.int .i64)) w111 fun (x115 : Int) =>
 callP Try.prog Pn 122 [(.int .i64 x115)] (.one (.agg [(.int .i64), (.int .i64)])) w111 fun (x116 : (Int × Int × Unit)) w117 =>
 rdp Try.prog (Instr.indexAt 33 (.slice x94.1 x94.2.1 x94.2.2) (.int .i64 s102.1)) (.one .addr) fun (x118 : Addr) =>
 wu Try.prog (Instr.storeAt 23 (.pointer (some x118)) (.agg #[(.int .i64 x116.1), (.int .i64 x116.2.1)])) w117 fun w119 =>
 drw w119 fun w120 => flEx fun F121 =>
 rd Try.prog (Instr.loadAt 23 (.pointer (some x98))) (.agg [(.int .i64), (.int .i64)]) w120 fun (x122 : (Int × Int × Unit)) =>
 rdp Try.prog (Instr.indexAt 33 (.slice x94.1 x94.2.1 x94.2.2) (.int .i64 s102.1)) (.one .addr) fun (x123 : Addr) =>
 rd Try.prog (Instr.loadAt 23 (.pointer (some x123))) (.agg [(.int .i64), (.int .i64)]) w120 fun (x124 : (Int × Int × Unit)) =>
 nn (some x3) fun (a125 : Addr) =>
 rd Try.prog (Instr.loadAt 33 (.pointer (some (Addr.add a125 2)))) (.one .slice) w120 fun (x126 : Hd3) =>
 rdp Try.prog (Instr.indexAt 33 (.slice x126.1 x126.2.1 x126.2.2) (.int .i64 s102.1)) (.one .addr) fun (x127 : Addr) =>
 rd Try.prog (Instr.loadAt 23 (.pointer (some x127))) (.agg [(.int .i64), (.int .i64)]) w120 fun (x128 : (Int × Int × Unit)) =>
 flc bel w120 (fun _w130 => True) (fun w129 =>
   callP Try.prog Pn 133 [(.agg #[(.int .i64 x124.1), (.int .i64 x124.2.1)]), (.agg #[(.int .i64 x128.1), (.int .i64 x128.2.1)])] (.one (.agg [(.int .i64), (.int .i64)])) w129 fun (x131 : (Int × Int × Unit)) w132 =>
 (bel w129 w132 ∧ F121 12 [(.agg #[(.int .i64 x124.1), (.int .i64 x124.2.1)]), (.agg #[(.int .i64 x128.1), (.int .i64 x128.2.1)])] (.agg #[(.int .i64 x131.1), (.int .i64 x131.2.1)]) w132))
  fun (x133 : (Int × Int × Unit)) =>
 flend bel w120 (fun w135 => F121 12 [(.agg #[(.int .i64 x124.1), (.int .i64 x124.2.1)]), (.agg #[(.int .i64 x128.1), (.int .i64 x128.2.1)])] (.agg #[(.int .i64 x133.1), (.int .i64 x133.2.1)]) w135 ∧ True) fun w134 =>
 callP Try.prog Pn 132 [(.agg #[(.int .i64 x122.1), (.int .i64 x122.2.1)]), (.agg #[(.int .i64 x133.1), (.int .i64 x133.2.1)])] (.one (.agg [(.int .i64), (.int .i64)])) w134 fun (x136 : (Int × Int × Unit)) w137 =>
 wu Try.prog (Instr.storeAt 23 (.pointer (some x98)) (.agg #[(.int .i64 x136.1), (.int .i64 x136.2.1)])) w137 fun w138 =>
 K104 (()) w138)
 (K104 (()) w111))
 (K104 (()) w111))
 (drw w103 fun w139 => flExC w139 fun E142 G141 Y140 F143 =>
 nn (some x3) fun (a144 : Addr) =>
 rdE Try.prog (ER Y140 [14, 24, 25, 26, 33, 36, 39, 42] E142) (Instr.loadAt 33 (.pointer (some a144))) (.one .slice) w139 fun (x145 : Hd3) =>
 rdE Try.prog (ER Y140 [12, 13, 14, 24, 25, 26, 33, 36, 39, 42] E142) (Instr.loadAt 40 (.pointer (some (Addr.add x1 2)))) (.one .slice) w139 fun (x146 : Hd3) =>
 rdp Try.prog (Instr.indexAt 40 (.slice x146.1 x146.2.1 x146.2.2) (.int .i64 s87.1)) (.one .addr) fun (x147 : Addr) =>
 rdE Try.prog (ER Y140 [12, 13, 14, 24, 25, 26, 33, 36, 39, 42] E142) (Instr.loadAt 2 (.pointer (some x147))) (.one (.int .i64)) w139 fun (x148 : Int) =>
 flcC Y140 12 E142 w139 (fun _w150 => True) (fun (D151 : Nat → Bool) w149 =>
   callP Try.prog Pn 122 [(.int .i64 x148)] (.one (.agg [(.int .i64), (.int .i64)])) w149 fun (x152 : (Int × Int × Unit)) w153 =>
 (E142 w149 w153 ∧ G141 12 w149 w153 ∧ Y140 (setD D151 12) w153 ∧ F143 12 [(.int .i64 x148)] (.agg #[(.int .i64 x152.1), (.int .i64 x152.2.1)]) w153))
  fun (x154 : (Int × Int × Unit)) =>
 flcC Y140 13 E142 w139 (fun w156 => F143 12 [(.int .i64 x148)] (.agg #[(.int .i64 x154.1), (.int .i64 x154.2.1)]) w156 ∧ True) (fun (D157 : Nat → Bool) w155 =>
   D157 12 = true → wr Try.prog (Instr.buildSlice 33 1 #[(0, (.agg #[(.int .i64 x154.1), (.int .i64 x154.2.1)]))]) (.one .slice) w155 fun (x158 : Hd3) w159 =>
 (E142 w155 w159 ∧ G141 13 w155 w159 ∧ Y140 (setD D157 13) w159 ∧ F143 13 [] (.slice x158.1 x158.2.1 x158.2.2) w159))
  fun (x160 : Hd3) =>
 flcC Y140 14 E142 w139 (fun w162 => F143 13 [] (.slice x160.1 x160.2.1 x160.2.2) w162 ∧ F143 12 [(.int .i64 x148)] (.agg #[(.int .i64 x154.1), (.int .i64 x154.2.1)]) w162 ∧ True) (fun (D163 : Nat → Bool) w161 =>
   D163 13 = true → D163 12 = true → wr Try.prog (Builtin.append_ #[33, 33] 33 #[(.slice x145.1 x145.2.1 x145.2.2), (.slice x160.1 x160.2.1 x160.2.2)]) (.one .slice) w161 fun (x164 : Hd3) w165 =>
 (E142 w161 w165 ∧ G141 14 w161 w165 ∧ Y140 (setD D163 14) w165 ∧ F143 14 [(.slice x145.1 x145.2.1 x145.2.2), (.slice x160.1 x160.2.1 x160.2.2)] (.slice x164.1 x164.2.1 x164.2.2) w165))
  fun (x166 : Hd3) =>
 nn (some x3) fun (a167 : Addr) =>
 rdE Try.prog (ER Y140 [26, 33, 36, 39, 42] E142) (Instr.loadAt 33 (.pointer (some (Addr.add a167 1)))) (.one .slice) w139 fun (x168 : Hd3) =>
 rdE Try.prog (ER Y140 [24, 25, 26, 33, 36, 39, 42] E142) (Instr.loadAt 40 (.pointer (some (Addr.add x1 2)))) (.one .slice) w139 fun (x169 : Hd3) =>
 rdp Try.prog (Instr.indexAt 40 (.slice x169.1 x169.2.1 x169.2.2) (.int .i64 s87.1)) (.one .addr) fun (x170 : Addr) =>
 rdE Try.prog (ER Y140 [24, 25, 26, 33, 36, 39, 42] E142) (Instr.loadAt 2 (.pointer (some x170))) (.one (.int .i64)) w139 fun (x171 : Int) =>
 flcC Y140 24 E142 w139 (fun w173 => F143 14 [(.slice x145.1 x145.2.1 x145.2.2), (.slice x160.1 x160.2.1 x160.2.2)] (.slice x166.1 x166.2.1 x166.2.2) w173 ∧ F143 13 [] (.slice x160.1 x160.2.1 x160.2.2) w173 ∧ F143 12 [(.int .i64 x148)] (.agg #[(.int .i64 x154.1), (.int .i64 x154.2.1)]) w173 ∧ True) (fun (D174 : Nat → Bool) w172 =>
   D174 14 = true → D174 13 = true → D174 12 = true → callP Try.prog Pn 122 [(.int .i64 x171)] (.one (.agg [(.int .i64), (.int .i64)])) w172 fun (x175 : (Int × Int × Unit)) w176 =>
 (E142 w172 w176 ∧ G141 24 w172 w176 ∧ Y140 (setD D174 24) w176 ∧ F143 24 [(.int .i64 x171)] (.agg #[(.int .i64 x175.1), (.int .i64 x175.2.1)]) w176))
  fun (x177 : (Int × Int × Unit)) =>
 flcC Y140 25 E142 w139 (fun w179 => F143 24 [(.int .i64 x171)] (.agg #[(.int .i64 x177.1), (.int .i64 x177.2.1)]) w179 ∧ F143 14 [(.slice x145.1 x145.2.1 x145.2.2), (.slice x160.1 x160.2.1 x160.2.2)] (.slice x166.1 x166.2.1 x166.2.2) w179 ∧ F143 13 [] (.slice x160.1 x160.2.1 x160.2.2) w179 ∧ F143 12 [(.int .i64 x148)] (.agg #[(.int .i64 x154.1), (.int .i64 x154.2.1)]) w179 ∧ True) (fun (D180 : Nat → Bool) w178 =>
   D180 24 = true → D180 14 = true → D180 13 = true → D180 12 = true → wr Try.prog (Instr.buildSlice 33 1 #[(0, (.agg #[(.int .i64 x177.1), (.int .i64 x177.2.1)]))]) (.one .slice) w178 fun (x181 : Hd3) w182 =>
 (E142 w178 w182 ∧ G141 25 w178 w182 ∧ Y140 (setD D180 25) w182 ∧ F143 25 [] (.slice x181.1 x181.2.1 x181.2.2) w182))
  fun (x183 : Hd3) =>
 flcC Y140 26 E142 w139 (fun w185 => F143 25 [] (.slice x183.1 x183.2.1 x183.2.2) w185 ∧ F143 24 [(.int .i64 x171)] (.agg #[(.int .i64 x177.1), (.int .i64 x177.2.1)]) w185 ∧ F143 14 [(.slice x145.1 x145.2.1 x145.2.2), (.slice x160.1 x160.2.1 x160.2.2)] (.slice x166.1 x166.2.1 x166.2.2) w185 ∧ F143 13 [] (.slice x160.1 x160.2.1 x160.2.2) w185 ∧ F143 12 [(.int .i64 x148)] (.agg #[(.int .i64 x154.1), (.int .i64 x154.2.1)]) w185 ∧ True) (fun (D186 : Nat → Bool) w184 =>
   D186 25 = true → D186 24 = true → D186 14 = true → D186 13 = true → D186 12 = true → wr Try.prog (Builtin.append_ #[33, 33] 33 #[(.slice x168.1 x168.2.1 x168.2.2), (.slice x183.1 x183.2.1 x183.2.2)]) (.one .slice) w184 fun (x187 : Hd3) w188 =>
 (E142 w184 w188 ∧ G141 26 w184 w188 ∧ Y140 (setD D186 26) w188 ∧ F143 26 [(.slice x168.1 x168.2.1 x168.2.2), (.slice x183.1 x183.2.1 x183.2.2)] (.slice x187.1 x187.2.1 x187.2.2) w188))
  fun (x189 : Hd3) =>
 nn (some x3) fun (a190 : Addr) =>
 rdE Try.prog (ER Y140 [33, 36, 39, 42] E142) (Instr.loadAt 33 (.pointer (some (Addr.add a190 2)))) (.one .slice) w139 fun (x191 : Hd3) =>
 rdE Try.prog (ER Y140 [32, 33, 36, 39, 42] E142) (Instr.loadAt 23 (.pointer (some x98))) (.agg [(.int .i64), (.int .i64)]) w139 fun (x192 : (Int × Int × Unit)) =>
 flcC Y140 32 E142 w139 (fun _w194 => True) (fun (D195 : Nat → Bool) w193 =>
   wr Try.prog (Instr.buildSlice 33 1 #[(0, (.agg #[(.int .i64 x192.1), (.int .i64 x192.2.1)]))]) (.one .slice) w193 fun (x196 : Hd3) w197 =>
 (E142 w193 w197 ∧ G141 32 w193 w197 ∧ Y140 (setD D195 32) w197 ∧ F143 32 [] (.slice x196.1 x196.2.1 x196.2.2) w197))
  fun (x198 : Hd3) =>
 flendC Y140 [32, 26, 25, 24, 14, 13, 12] E142 w139 (fun w200 => F143 32 [] (.slice x198.1 x198.2.1 x198.2.2) w200 ∧ F143 26 [(.slice x168.1 x168.2.1 x168.2.2), (.slice x183.1 x183.2.1 x183.2.2)] (.slice x189.1 x189.2.1 x189.2.2) w200 ∧ F143 25 [] (.slice x183.1 x183.2.1 x183.2.2) w200 ∧ F143 24 [(.int .i64 x171)] (.agg #[(.int .i64 x177.1), (.int .i64 x177.2.1)]) w200 ∧ F143 14 [(.slice x145.1 x145.2.1 x145.2.2), (.slice x160.1 x160.2.1 x160.2.2)] (.slice x166.1 x166.2.1 x166.2.2) w200 ∧ F143 13 [] (.slice x160.1 x160.2.1 x160.2.2) w200 ∧ F143 12 [(.int .i64 x148)] (.agg #[(.int .i64 x154.1), (.int .i64 x154.2.1)]) w200 ∧ True) fun w199 =>
 wr Try.prog (Builtin.append_ #[33, 33] 33 #[(.slice x191.1 x191.2.1 x191.2.2), (.slice x198.1 x198.2.1 x198.2.2)]) (.one .slice) w199 fun (x201 : Hd3) w202 =>
 nn (some x3) fun (a203 : Addr) =>
 wu Try.prog (Instr.storeAt 33 (.pointer (some a203)) (.slice x166.1 x166.2.1 x166.2.2)) w202 fun w204 =>
 nn (some x3) fun (a205 : Addr) =>
 wu Try.prog (Instr.storeAt 33 (.pointer (some (Addr.add a205 1))) (.slice x189.1 x189.2.1 x189.2.2)) w204 fun w206 =>
 nn (some x3) fun (a207 : Addr) =>
 wu Try.prog (Instr.storeAt 33 (.pointer (some (Addr.add a207 2))) (.slice x201.1 x201.2.1 x201.2.2)) w206 fun w208 =>
 drw w208 fun w209 => flExC w209 fun E212 G211 Y210 F213 =>
 nn (some x3) fun (a214 : Addr) =>
 rdE Try.prog (ER Y210 [12, 19, 22, 25] E212) (Instr.loadAt 47 (.pointer (some (Addr.add a214 3)))) (.one .slice) w209 fun (x215 : Hd3) =>
 rdE Try.prog (ER Y210 [11, 12, 19, 22, 25] E212) (Instr.loadAt 40 (.pointer (some x1))) (.one .slice) w209 fun (x216 : Hd3) =>
 z (IntKind.wrap .i64 (((x216.2.1 : Nat) : Int) + s87.1)) fun (z217 : Int) =>
 flcC Y210 11 E212 w209 (fun _w219 => True) (fun (D220 : Nat → Bool) w218 =>
   wr Try.prog (Instr.buildSlice 47 1 #[(0, (.int .i64 z217))]) (.one .slice) w218 fun (x221 : Hd3) w222 =>
 (E212 w218 w222 ∧ G211 11 w218 w222 ∧ Y210 (setD D220 11) w222 ∧ F213 11 [] (.slice x221.1 x221.2.1 x221.2.2) w222))
  fun (x223 : Hd3) =>
 flcC Y210 12 E212 w209 (fun w225 => F213 11 [] (.slice x223.1 x223.2.1 x223.2.2) w225 ∧ True) (fun (D226 : Nat → Bool) w224 =>
   D226 11 = true → wr Try.prog (Builtin.append_ #[47, 47] 47 #[(.slice x215.1 x215.2.1 x215.2.2), (.slice x223.1 x223.2.1 x223.2.2)]) (.one .slice) w224 fun (x227 : Hd3) w228 =>
 (E212 w224 w228 ∧ G211 12 w224 w228 ∧ Y210 (setD D226 12) w228 ∧ F213 12 [(.slice x215.1 x215.2.1 x215.2.2), (.slice x223.1 x223.2.1 x223.2.2)] (.slice x227.1 x227.2.1 x227.2.2) w228))
  fun (x229 : Hd3) =>
 nn (some x3) fun (a230 : Addr) =>
 rdE Try.prog (ER Y210 [19, 22, 25] E212) (Instr.loadAt 53 (.pointer (some (Addr.add a230 4)))) (.one .slice) w209 fun (x231 : Hd3) =>
 flcC Y210 18 E212 w209 (fun _w233 => True) (fun (D234 : Nat → Bool) w232 =>
   wr Try.prog (Instr.buildSlice 53 1 #[(0, (.slice x94.1 x94.2.1 x94.2.2))]) (.one .slice) w232 fun (x235 : Hd3) w236 =>
 (E212 w232 w236 ∧ G211 18 w232 w236 ∧ Y210 (setD D234 18) w236 ∧ F213 18 [] (.slice x235.1 x235.2.1 x235.2.2) w236))
  fun (x237 : Hd3) =>
 flendC Y210 [18, 12, 11] E212 w209 (fun w239 => F213 18 [] (.slice x237.1 x237.2.1 x237.2.2) w239 ∧ F213 12 [(.slice x215.1 x215.2.1 x215.2.2), (.slice x223.1 x223.2.1 x223.2.2)] (.slice x229.1 x229.2.1 x229.2.2) w239 ∧ F213 11 [] (.slice x223.1 x223.2.1 x223.2.2) w239 ∧ True) fun w238 =>
 wr Try.prog (Builtin.append_ #[53, 53] 53 #[(.slice x231.1 x231.2.1 x231.2.2), (.slice x237.1 x237.2.1 x237.2.2)]) (.one .slice) w238 fun (x240 : Hd3) w241 =>
 nn (some x3) fun (a242 : Addr) =>
 wu Try.prog (Instr.storeAt 47 (.pointer (some (Addr.add a242 3))) (.slice x229.1 x229.2.1 x229.2.2)) w241 fun w243 =>
 nn (some x3) fun (a244 : Addr) =>
 wu Try.prog (Instr.storeAt 53 (.pointer (some (Addr.add a244 4))) (.slice x240.1 x240.2.1 x240.2.2)) w243 fun w245 =>
 z (IntKind.wrap .i64 (s87.1 + 1)) fun (z246 : Int) =>
 again86 (z246, ()) w245))
 (R (.pointer (some x3)) w88))
def H117 : Hints := ⟨[(2, 0, [(19, (.one (.int .i64)))]), (2, 2, [(68, (.one (.int .i64)))]), (2, 4, [(84, (.one (.int .i64)))]), (1, 5, [])], [(5, 35), (18, 13), (20, 33), (21, 19)], [], [2000021, 1000021, 2000020, 1000020, 2000005, 1000005]⟩
set_option maxRecDepth 100000 in
theorem S117_eq (s_0a : Option Addr) (s_0n : Nat) (s_0c : Nat) (s_1a : Option Addr) (s_1n : Nat) (s_1c : Nat) (s_2a : Option Addr) (s_2n : Nat) (s_2c : Nat) (lower_a : Option Addr) (lower_n : Nat) (lower_c : Nat) (upper_a : Option Addr) (upper_n : Nat) (upper_c : Nat) (w0 : World) (Pn : List PanicEntry → World → Prop) (R : Value → World → Prop) : vcFnP Try.prog (some Pn) H117 Try.f117 [(.agg #[(.slice s_0a s_0n s_0c), (.slice s_1a s_1n s_1c), (.slice s_2a s_2n s_2c)]), (.slice lower_a lower_n lower_c), (.slice upper_a upper_n upper_c)] w0 R = S117 s_0a s_0n s_0c s_1a s_1n s_1c s_2a s_2n s_2c lower_a lower_n lower_c upper_a upper_n upper_c w0 Pn R := by kernel_rfl
set_option maxRecDepth 100000 in
theorem S117_calls (s_0a : Option Addr) (s_0n : Nat) (s_0c : Nat) (s_1a : Option Addr) (s_1n : Nat) (s_1c : Nat) (s_2a : Option Addr) (s_2n : Nat) (s_2c : Nat) (lower_a : Option Addr) (lower_n : Nat) (lower_c : Nat) (upper_a : Option Addr) (upper_n : Nat) (upper_c : Nat) (w0 : World) (Pn : List PanicEntry → World → Prop) (R : Value → World → Prop) (h : S117 s_0a s_0n s_0c s_1a s_1n s_1c s_2a s_2n s_2c lower_a lower_n lower_c upper_a upper_n upper_c w0 Pn R) : Calls Try.prog 117 #[(.agg #[(.slice s_0a s_0n s_0c), (.slice s_1a s_1n s_1c), (.slice s_2a s_2n s_2c)]), (.slice lower_a lower_n lower_c), (.slice upper_a upper_n upper_c)] w0 (retP R (some Pn)) := by
  rw [← S117_eq] at h; exact vcFnP_sound follows_ Try.func117 h

def S118 (t_ : (Option Addr)) (w0 : World) (R : Value → World → Prop) : Prop :=
 nn t_ fun (a1 : Addr) =>
 rd Try.prog (Instr.loadAt 47 (.pointer (some (Addr.add a1 3)))) (.one .slice) w0 fun (x2 : Hd3) =>
 loop (T := (Int × Bool × Int × Unit)) ((-1), false, 0, ()) w0 fun (again3 : (Int × Bool × Int × Unit) → World → Prop) (s4 : (Int × Bool × Int × Unit)) w5 => ∀ _ : Nat → Value,
 br (decide (s4.2.2.1 < ((x2.2.1 : Nat) : Int))) (join (T := (Int × Bool × Unit)) (fun (s7 : (Int × Bool × Unit)) w8 => ∀ _ : Nat → Value,
 z (IntKind.wrap .i64 (s4.2.2.1 + 1)) fun (z9 : Int) =>
 again3 (s7.1, s7.2.1, z9, ()) w8)
  fun (K6 : (Int × Bool × Unit) → World → Prop) =>
 rdp Try.prog (Instr.indexAt 47 (.slice x2.1 x2.2.1 x2.2.2) (.int .i64 s4.2.2.1)) (.one .addr) fun (x10 : Addr) =>
 rd Try.prog (Instr.loadAt 3 (.pointer (some x10))) (.one (.int .i64)) w5 fun (x11 : Int) =>
 drw w5 fun w12 => flEx fun F13 =>
 nn t_ fun (a14 : Addr) =>
 rd Try.prog (Instr.loadAt 33 (.pointer (some (Addr.add a14 2)))) (.one .slice) w12 fun (x15 : Hd3) =>
 rdp Try.prog (Instr.indexAt 33 (.slice x15.1 x15.2.1 x15.2.2) (.int .i64 x11)) (.one .addr) fun (x16 : Addr) =>
 rd Try.prog (Instr.loadAt 23 (.pointer (some x16))) (.agg [(.int .i64), (.int .i64)]) w12 fun (x17 : (Int × Int × Unit)) =>
 nn t_ fun (a18 : Addr) =>
 rd Try.prog (Instr.loadAt 33 (.pointer (some a18))) (.one .slice) w12 fun (x19 : Hd3) =>
 rdp Try.prog (Instr.indexAt 33 (.slice x19.1 x19.2.1 x19.2.2) (.int .i64 x11)) (.one .addr) fun (x20 : Addr) =>
 rd Try.prog (Instr.loadAt 23 (.pointer (some x20))) (.agg [(.int .i64), (.int .i64)]) w12 fun (x21 : (Int × Int × Unit)) =>
 flc bel w12 (fun _w23 => True) (fun w22 =>
   call Try.prog 16 [(.agg #[(.int .i64 x17.1), (.int .i64 x17.2.1)]), (.agg #[(.int .i64 x21.1), (.int .i64 x21.2.1)])] (.one (.one (.int .i64))) w22 fun (x24 : Int) w25 =>
 (bel w22 w25 ∧ F13 14 [(.agg #[(.int .i64 x17.1), (.int .i64 x17.2.1)]), (.agg #[(.int .i64 x21.1), (.int .i64 x21.2.1)])] (.int .i64 x24) w25))
  fun (x26 : Int) =>
 nn t_ fun (a27 : Addr) =>
 rd Try.prog (Instr.loadAt 33 (.pointer (some (Addr.add a27 2)))) (.one .slice) w12 fun (x28 : Hd3) =>
 rdp Try.prog (Instr.indexAt 33 (.slice x28.1 x28.2.1 x28.2.2) (.int .i64 x11)) (.one .addr) fun (x29 : Addr) =>
 rd Try.prog (Instr.loadAt 23 (.pointer (some x29))) (.agg [(.int .i64), (.int .i64)]) w12 fun (x30 : (Int × Int × Unit)) =>
 nn t_ fun (a31 : Addr) =>
 rd Try.prog (Instr.loadAt 33 (.pointer (some (Addr.add a31 1)))) (.one .slice) w12 fun (x32 : Hd3) =>
 rdp Try.prog (Instr.indexAt 33 (.slice x32.1 x32.2.1 x32.2.2) (.int .i64 x11)) (.one .addr) fun (x33 : Addr) =>
 rd Try.prog (Instr.loadAt 23 (.pointer (some x33))) (.agg [(.int .i64), (.int .i64)]) w12 fun (x34 : (Int × Int × Unit)) =>
 flend bel w12 (fun w36 => F13 14 [(.agg #[(.int .i64 x17.1), (.int .i64 x17.2.1)]), (.agg #[(.int .i64 x21.1), (.int .i64 x21.2.1)])] (.int .i64 x26) w36 ∧ True) fun w35 =>
 call Try.prog 16 [(.agg #[(.int .i64 x30.1), (.int .i64 x30.2.1)]), (.agg #[(.int .i64 x34.1), (.int .i64 x34.2.1)])] (.one (.one (.int .i64))) w35 fun (x37 : Int) w38 =>
 br (decide (x26 < 0)) (br (decide (s4.1 < 0)) (K6 (s4.2.2.1, (decide (x26 < 0)), ()) w38)
 (nn t_ fun (a39 : Addr) =>
 rd Try.prog (Instr.loadAt 47 (.pointer (some (Addr.add a39 3)))) (.one .slice) w38 fun (x40 : Hd3) =>
 rdp Try.prog (Instr.indexAt 47 (.slice x40.1 x40.2.1 x40.2.2) (.int .i64 s4.1)) (.one .addr) fun (x41 : Addr) =>
 rd Try.prog (Instr.loadAt 3 (.pointer (some x41))) (.one (.int .i64)) w38 fun (x42 : Int) =>
 br (decide (x11 < x42)) (K6 (s4.2.2.1, (decide (x26 < 0)), ()) w38)
 (K6 (s4.1, s4.2.1, ()) w38)))
 (br (decide (x37 > 0)) (br (decide (s4.1 < 0)) (K6 (s4.2.2.1, (decide (x26 < 0)), ()) w38)
 (nn t_ fun (a43 : Addr) =>
 rd Try.prog (Instr.loadAt 47 (.pointer (some (Addr.add a43 3)))) (.one .slice) w38 fun (x44 : Hd3) =>
 rdp Try.prog (Instr.indexAt 47 (.slice x44.1 x44.2.1 x44.2.2) (.int .i64 s4.1)) (.one .addr) fun (x45 : Addr) =>
 rd Try.prog (Instr.loadAt 3 (.pointer (some x45))) (.one (.int .i64)) w38 fun (x46 : Int) =>
 br (decide (x11 < x46)) (K6 (s4.2.2.1, (decide (x26 < 0)), ()) w38)
 (K6 (s4.1, s4.2.1, ()) w38)))
 (K6 (s4.1, s4.2.1, ()) w38)))
 (R (.tuple #[(.int .i64 s4.1), (.bool s4.2.1)]) w5)
def H118 : Hints := ⟨[(2, 0, [(4, (.one (.int .i64))), (5, (.one .bool)), (15, (.one (.int .i64)))]), (1, 1, [(4, (.one (.int .i64))), (5, (.one .bool))])], [(5, 30)], [], []⟩
set_option maxRecDepth 100000 in
theorem S118_eq (t_ : (Option Addr)) (w0 : World) (R : Value → World → Prop) : vcFn Try.prog H118 Try.f118 [(.pointer t_)] w0 R = S118 t_ w0 R := by kernel_rfl
set_option maxRecDepth 100000 in
theorem S118_calls (t_ : (Option Addr)) (w0 : World) (R : Value → World → Prop) (h : S118 t_ w0 R) : Calls Try.prog 118 #[(.pointer t_)] w0 (ret R) := by
  rw [← S118_eq] at h; exact vcFn_sound follows_ Try.func118 h

def S120 (t_ : (Option Addr)) (row_ : Int) (upwards_ : Bool) (w0 : World) (R : Value → World → Prop) : Prop :=
 nn t_ fun (a1 : Addr) =>
 rd Try.prog (Instr.loadAt 53 (.pointer (some (Addr.add a1 4)))) (.one .slice) w0 fun (x2 : Hd3) =>
 rdp Try.prog (Instr.indexAt 53 (.slice x2.1 x2.2.1 x2.2.2) (.int .i64 row_)) (.one .addr) fun (x3 : Addr) =>
 rd Try.prog (Instr.loadAt 33 (.pointer (some x3))) (.one .slice) w0 fun (x4 : Hd3) =>
 loop (T := (Int × Unit)) (0, ()) w0 fun (again5 : (Int × Unit) → World → Prop) (s6 : (Int × Unit)) w7 => ∀ _ : Nat → Value,
 br (decide (s6.1 < ((x4.2.1 : Nat) : Int))) (join (T := (Unit)) (fun (_s9 : (Unit)) w10 => ∀ _ : Nat → Value,
 z (IntKind.wrap .i64 (s6.1 + 1)) fun (z11 : Int) =>
 again5 (z11, ()) w10)
  fun (K8 : (Unit) → World → Prop) =>
 rdp Try.prog (Instr.indexAt 33 (.slice x4.1 x4.2.1 x4.2.2) (.int .i64 s6.1)) (.one .addr) fun (x12 : Addr) =>
 rd Try.prog (Instr.loadAt 23 (.pointer (some x12))) (.agg [(.int .i64), (.int .i64)]) w7 fun (x13 : (Int × Int × Unit)) =>
 wr Try.prog (Instr.alloc 23 true (.tuple #[])) (.one .addr) w7 fun (x14 : Addr) w15 =>
 wu Try.prog (Instr.storeAt 23 (.pointer (some x14)) (.agg #[(.int .i64 x13.1), (.int .i64 x13.2.1)])) w15 fun w16 =>
 rd Try.prog (Instr.loadAt 2 (.pointer (some x14))) (.one (.int .i64)) w16 fun (x17 : Int) =>
 br (x17 == 0) (K8 (()) w16)
 (nn t_ fun (a18 : Addr) =>
 rd Try.prog (Instr.loadAt 47 (.pointer (some (Addr.add a18 3)))) (.one .slice) w16 fun (x19 : Hd3) =>
 rdp Try.prog (Instr.indexAt 47 (.slice x19.1 x19.2.1 x19.2.2) (.int .i64 row_)) (.one .addr) fun (x20 : Addr) =>
 rd Try.prog (Instr.loadAt 3 (.pointer (some x20))) (.one (.int .i64)) w16 fun (x21 : Int) =>
 br (s6.1 == x21) (K8 (()) w16)
 (rd Try.prog (Instr.loadAt 2 (.pointer (some x14))) (.one (.int .i64)) w16 fun (x22 : Int) =>
 br ((decide (x22 > 0)) == upwards_) (drw w16 fun w23 =>
 nn t_ fun (a24 : Addr) =>
 rd Try.prog (Instr.loadAt 33 (.pointer (some (Addr.add a24 2)))) (.one .slice) w23 fun (x25 : Hd3) =>
 rdp Try.prog (Instr.indexAt 33 (.slice x25.1 x25.2.1 x25.2.2) (.int .i64 s6.1)) (.one .addr) fun (x26 : Addr) =>
 rd Try.prog (Instr.loadAt 23 (.pointer (some x26))) (.agg [(.int .i64), (.int .i64)]) w23 fun (x27 : (Int × Int × Unit)) =>
 nn t_ fun (a28 : Addr) =>
 rd Try.prog (Instr.loadAt 33 (.pointer (some (Addr.add a28 1)))) (.one .slice) w23 fun (x29 : Hd3) =>
 rdp Try.prog (Instr.indexAt 33 (.slice x29.1 x29.2.1 x29.2.2) (.int .i64 s6.1)) (.one .addr) fun (x30 : Addr) =>
 rd Try.prog (Instr.loadAt 23 (.pointer (some x30))) (.agg [(.int .i64), (.int .i64)]) w23 fun (x31 : (Int × Int × Unit)) =>
 call Try.prog 16 [(.agg #[(.int .i64 x27.1), (.int .i64 x27.2.1)]), (.agg #[(.int .i64 x31.1), (.int .i64 x31.2.1)])] (.one (.one (.int .i64))) w23 fun (x32 : Int) w33 =>
 br (decide (x32 < 0)) (R (.int .i64 s6.1) w33)
 (K8 (()) w33))
 (drw w16 fun w34 =>
 nn t_ fun (a35 : Addr) =>
 rd Try.prog (Instr.loadAt 33 (.pointer (some (Addr.add a35 2)))) (.one .slice) w34 fun (x36 : Hd3) =>
 rdp Try.prog (Instr.indexAt 33 (.slice x36.1 x36.2.1 x36.2.2) (.int .i64 s6.1)) (.one .addr) fun (x37 : Addr) =>
 rd Try.prog (Instr.loadAt 23 (.pointer (some x37))) (.agg [(.int .i64), (.int .i64)]) w34 fun (x38 : (Int × Int × Unit)) =>
 nn t_ fun (a39 : Addr) =>
 rd Try.prog (Instr.loadAt 33 (.pointer (some a39))) (.one .slice) w34 fun (x40 : Hd3) =>
 rdp Try.prog (Instr.indexAt 33 (.slice x40.1 x40.2.1 x40.2.2) (.int .i64 s6.1)) (.one .addr) fun (x41 : Addr) =>
 rd Try.prog (Instr.loadAt 23 (.pointer (some x41))) (.agg [(.int .i64), (.int .i64)]) w34 fun (x42 : (Int × Int × Unit)) =>
 call Try.prog 16 [(.agg #[(.int .i64 x38.1), (.int .i64 x38.2.1)]), (.agg #[(.int .i64 x42.1), (.int .i64 x42.2.1)])] (.one (.one (.int .i64))) w34 fun (x43 : Int) w44 =>
 br (decide (x43 > 0)) (R (.int .i64 s6.1) w44)
 (K8 (()) w44)))))
 (R (.int .i64 (-1)) w7)
def H120 : Hints := ⟨[(2, 0, [(17, (.one (.int .i64)))]), (1, 1, [])], [(6, 14), (8, 14)], [], []⟩
set_option maxRecDepth 100000 in
theorem S120_eq (t_ : (Option Addr)) (row_ : Int) (upwards_ : Bool) (w0 : World) (R : Value → World → Prop) : vcFn Try.prog H120 Try.f120 [(.pointer t_), (.int .i64 row_), (.bool upwards_)] w0 R = S120 t_ row_ upwards_ w0 R := by kernel_rfl
set_option maxRecDepth 100000 in
theorem S120_calls (t_ : (Option Addr)) (row_ : Int) (upwards_ : Bool) (w0 : World) (R : Value → World → Prop) (h : S120 t_ row_ upwards_ w0 R) : Calls Try.prog 120 #[(.pointer t_), (.int .i64 row_), (.bool upwards_)] w0 (ret R) := by
  rw [← S120_eq] at h; exact vcFn_sound follows_ Try.func120 h

def S121 (t_ : (Option Addr)) (row_ : Int) (k_ : Int) (to_0 : Int) (to_1 : Int) (w0 : World) (Pn : List PanicEntry → World → Prop) (R : Value → World → Prop) : Prop :=
 wr Try.prog (Instr.box 23 (.agg #[(.int .i64 to_0), (.int .i64 to_1)])) (.one .addr) w0 fun (x1 : Addr) w2 =>
 nn t_ fun (a3 : Addr) =>
 rd Try.prog (Instr.loadAt 47 (.pointer (some (Addr.add a3 3)))) (.one .slice) w2 fun (x4 : Hd3) =>
 rdp Try.prog (Instr.indexAt 47 (.slice x4.1 x4.2.1 x4.2.2) (.int .i64 row_)) (.one .addr) fun (x5 : Addr) =>
 rd Try.prog (Instr.loadAt 3 (.pointer (some x5))) (.one (.int .i64)) w2 fun (x6 : Int) =>
 drw w2 fun w7 => flEx fun F8 =>
 rd Try.prog (Instr.loadAt 23 (.pointer (some x1))) (.agg [(.int .i64), (.int .i64)]) w7 fun (x9 : (Int × Int × Unit)) =>
 nn t_ fun (a10 : Addr) =>
 rd Try.prog (Instr.loadAt 33 (.pointer (some (Addr.add a10 2)))) (.one .slice) w7 fun (x11 : Hd3) =>
 rdp Try.prog (Instr.indexAt 33 (.slice x11.1 x11.2.1 x11.2.2) (.int .i64 x6)) (.one .addr) fun (x12 : Addr) =>
 rd Try.prog (Instr.loadAt 23 (.pointer (some x12))) (.agg [(.int .i64), (.int .i64)]) w7 fun (x13 : (Int × Int × Unit)) =>
 flc bel w7 (fun _w15 => True) (fun w14 =>
   callP Try.prog Pn 123 [(.agg #[(.int .i64 x9.1), (.int .i64 x9.2.1)]), (.agg #[(.int .i64 x13.1), (.int .i64 x13.2.1)])] (.one (.agg [(.int .i64), (.int .i64)])) w14 fun (x16 : (Int × Int × Unit)) w17 =>
 (bel w14 w17 ∧ F8 8 [(.agg #[(.int .i64 x9.1), (.int .i64 x9.2.1)]), (.agg #[(.int .i64 x13.1), (.int .i64 x13.2.1)])] (.agg #[(.int .i64 x16.1), (.int .i64 x16.2.1)]) w17))
  fun (x18 : (Int × Int × Unit)) =>
 nn t_ fun (a19 : Addr) =>
 rd Try.prog (Instr.loadAt 53 (.pointer (some (Addr.add a19 4)))) (.one .slice) w7 fun (x20 : Hd3) =>
 rdp Try.prog (Instr.indexAt 53 (.slice x20.1 x20.2.1 x20.2.2) (.int .i64 row_)) (.one .addr) fun (x21 : Addr) =>
 rd Try.prog (Instr.loadAt 33 (.pointer (some x21))) (.one .slice) w7 fun (x22 : Hd3) =>
 rdp Try.prog (Instr.indexAt 33 (.slice x22.1 x22.2.1 x22.2.2) (.int .i64 k_)) (.one .addr) fun (x23 : Addr) =>
 rd Try.prog (Instr.loadAt 23 (.pointer (some x23))) (.agg [(.int .i64), (.int .i64)]) w7 fun (x24 : (Int × Int × Unit)) =>
 flc bel w7 (fun w26 => F8 8 [(.agg #[(.int .i64 x9.1), (.int .i64 x9.2.1)]), (.agg #[(.int .i64 x13.1), (.int .i64 x13.2.1)])] (.agg #[(.int .i64 x18.1), (.int .i64 x18.2.1)]) w26 ∧ True) (fun w25 =>
   callP Try.prog Pn 25 [(.agg #[(.int .i64 x18.1), (.int .i64 x18.2.1)]), (.agg #[(.int .i64 x24.1), (.int .i64 x24.2.1)])] (.many [(.agg [(.int .i64), (.int .i64)]), (.one (.int .i64))]) w25 fun (x27 : ((Int × Int × Unit) × Int × Unit)) w28 =>
 (bel w25 w28 ∧ F8 19 [(.agg #[(.int .i64 x18.1), (.int .i64 x18.2.1)]), (.agg #[(.int .i64 x24.1), (.int .i64 x24.2.1)])] (.tuple #[(.agg #[(.int .i64 x27.1.1), (.int .i64 x27.1.2.1)]), (.int .i64 x27.2.1)]) w28))
  fun (x29 : ((Int × Int × Unit) × Int × Unit)) =>
 flc bel w7 (fun w31 => F8 19 [(.agg #[(.int .i64 x18.1), (.int .i64 x18.2.1)]), (.agg #[(.int .i64 x24.1), (.int .i64 x24.2.1)])] (.tuple #[(.agg #[(.int .i64 x29.1.1), (.int .i64 x29.1.2.1)]), (.int .i64 x29.2.1)]) w31 ∧ F8 8 [(.agg #[(.int .i64 x9.1), (.int .i64 x9.2.1)]), (.agg #[(.int .i64 x13.1), (.int .i64 x13.2.1)])] (.agg #[(.int .i64 x18.1), (.int .i64 x18.2.1)]) w31 ∧ True) (fun w30 =>
   callP Try.prog Pn 134 [(.agg #[(.int .i64 x29.1.1), (.int .i64 x29.1.2.1)]), (.int .i64 x29.2.1)] (.one (.agg [(.int .i64), (.int .i64)])) w30 fun (x32 : (Int × Int × Unit)) w33 =>
 (bel w30 w33 ∧ F8 22 [(.agg #[(.int .i64 x29.1.1), (.int .i64 x29.1.2.1)]), (.int .i64 x29.2.1)] (.agg #[(.int .i64 x32.1), (.int .i64 x32.2.1)]) w33))
  fun (x34 : (Int × Int × Unit)) =>
 flc bel w7 (fun _w36 => True) (fun w35 =>
   wr Try.prog (Instr.alloc 23 true (.tuple #[])) (.one .addr) w35 fun (x37 : Addr) w38 =>
 (bel w35 w38 ∧ F8 23 [] (.pointer (some x37)) w38))
  fun (x39 : Addr) =>
 flend bel w7 (fun w41 => F8 23 [] (.pointer (some x39)) w41 ∧ F8 22 [(.agg #[(.int .i64 x29.1.1), (.int .i64 x29.1.2.1)]), (.int .i64 x29.2.1)] (.agg #[(.int .i64 x34.1), (.int .i64 x34.2.1)]) w41 ∧ F8 19 [(.agg #[(.int .i64 x18.1), (.int .i64 x18.2.1)]), (.agg #[(.int .i64 x24.1), (.int .i64 x24.2.1)])] (.tuple #[(.agg #[(.int .i64 x29.1.1), (.int .i64 x29.1.2.1)]), (.int .i64 x29.2.1)]) w41 ∧ F8 8 [(.agg #[(.int .i64 x9.1), (.int .i64 x9.2.1)]), (.agg #[(.int .i64 x13.1), (.int .i64 x13.2.1)])] (.agg #[(.int .i64 x18.1), (.int .i64 x18.2.1)]) w41 ∧ True) fun w40 =>
 wu Try.prog (Instr.storeAt 23 (.pointer (some x39)) (.agg #[(.int .i64 x34.1), (.int .i64 x34.2.1)])) w40 fun w42 =>
 drw w42 fun w43 => flEx fun F44 =>
 nn t_ fun (a45 : Addr) =>
 rd Try.prog (Instr.loadAt 33 (.pointer (some (Addr.add a45 2)))) (.one .slice) w43 fun (x46 : Hd3) =>
 nn t_ fun (a47 : Addr) =>
 rd Try.prog (Instr.loadAt 33 (.pointer (some (Addr.add a47 2)))) (.one .slice) w43 fun (x48 : Hd3) =>
 rd Try.prog (Instr.loadAt 23 (.pointer (some x1))) (.agg [(.int .i64), (.int .i64)]) w43 fun (x49 : (Int × Int × Unit)) =>
 nn t_ fun (a50 : Addr) =>
 rd Try.prog (Instr.loadAt 33 (.pointer (some (Addr.add a50 2)))) (.one .slice) w43 fun (x51 : Hd3) =>
 rdp Try.prog (Instr.indexAt 33 (.slice x51.1 x51.2.1 x51.2.2) (.int .i64 k_)) (.one .addr) fun (x52 : Addr) =>
 rd Try.prog (Instr.loadAt 23 (.pointer (some x52))) (.agg [(.int .i64), (.int .i64)]) w43 fun (x53 : (Int × Int × Unit)) =>
 rd Try.prog (Instr.loadAt 23 (.pointer (some x39))) (.agg [(.int .i64), (.int .i64)]) w43 fun (x54 : (Int × Int × Unit)) =>
 flc bel w43 (fun _w56 => True) (fun w55 =>
   callP Try.prog Pn 132 [(.agg #[(.int .i64 x53.1), (.int .i64 x53.2.1)]), (.agg #[(.int .i64 x54.1), (.int .i64 x54.2.1)])] (.one (.agg [(.int .i64), (.int .i64)])) w55 fun (x57 : (Int × Int × Unit)) w58 =>
 (bel w55 w58 ∧ F44 19 [(.agg #[(.int .i64 x53.1), (.int .i64 x53.2.1)]), (.agg #[(.int .i64 x54.1), (.int .i64 x54.2.1)])] (.agg #[(.int .i64 x57.1), (.int .i64 x57.2.1)]) w58))
  fun (x59 : (Int × Int × Unit)) =>
 flend bel w43 (fun w61 => F44 19 [(.agg #[(.int .i64 x53.1), (.int .i64 x53.2.1)]), (.agg #[(.int .i64 x54.1), (.int .i64 x54.2.1)])] (.agg #[(.int .i64 x59.1), (.int .i64 x59.2.1)]) w61 ∧ True) fun w60 =>
 rdp Try.prog (Instr.indexAt 33 (.slice x46.1 x46.2.1 x46.2.2) (.int .i64 x6)) (.one .addr) fun (x62 : Addr) =>
 wu Try.prog (Instr.storeAt 23 (.pointer (some x62)) (.agg #[(.int .i64 x49.1), (.int .i64 x49.2.1)])) w60 fun w63 =>
 rdp Try.prog (Instr.indexAt 33 (.slice x48.1 x48.2.1 x48.2.2) (.int .i64 k_)) (.one .addr) fun (x64 : Addr) =>
 wu Try.prog (Instr.storeAt 23 (.pointer (some x64)) (.agg #[(.int .i64 x59.1), (.int .i64 x59.2.1)])) w63 fun w65 =>
 nn t_ fun (a66 : Addr) =>
 rd Try.prog (Instr.loadAt 47 (.pointer (some (Addr.add a66 3)))) (.one .slice) w65 fun (x67 : Hd3) =>
 loop (T := (Int × Unit)) (0, ()) w65 fun (again68 : (Int × Unit) → World → Prop) (s69 : (Int × Unit)) w70 => ∀ _ : Nat → Value,
 br (decide (s69.1 < ((x67.2.1 : Nat) : Int))) (join (T := (Unit)) (fun (_s72 : (Unit)) w73 => ∀ _ : Nat → Value,
 z (IntKind.wrap .i64 (s69.1 + 1)) fun (z74 : Int) =>
 again68 (z74, ()) w73)
  fun (K71 : (Unit) → World → Prop) =>
 rdp Try.prog (Instr.indexAt 47 (.slice x67.1 x67.2.1 x67.2.2) (.int .i64 s69.1)) (.one .addr) fun (x75 : Addr) =>
 rd Try.prog (Instr.loadAt 3 (.pointer (some x75))) (.one (.int .i64)) w70 fun (x76 : Int) =>
 nn t_ fun (a77 : Addr) =>
 rd Try.prog (Instr.loadAt 53 (.pointer (some (Addr.add a77 4)))) (.one .slice) w70 fun (x78 : Hd3) =>
 rdp Try.prog (Instr.indexAt 53 (.slice x78.1 x78.2.1 x78.2.2) (.int .i64 s69.1)) (.one .addr) fun (x79 : Addr) =>
 rd Try.prog (Instr.loadAt 33 (.pointer (some x79))) (.one .slice) w70 fun (x80 : Hd3) =>
 rdp Try.prog (Instr.indexAt 33 (.slice x80.1 x80.2.1 x80.2.2) (.int .i64 k_)) (.one .addr) fun (x81 : Addr) =>
 rd Try.prog (Instr.loadAt 23 (.pointer (some x81))) (.agg [(.int .i64), (.int .i64)]) w70 fun (x82 : (Int × Int × Unit)) =>
 wr Try.prog (Instr.alloc 23 true (.tuple #[])) (.one .addr) w70 fun (x83 : Addr) w84 =>
 wu Try.prog (Instr.storeAt 23 (.pointer (some x83)) (.agg #[(.int .i64 x82.1), (.int .i64 x82.2.1)])) w84 fun w85 =>
 br (s69.1 != row_) (rd Try.prog (Instr.loadAt 2 (.pointer (some x83))) (.one (.int .i64)) w85 fun (x86 : Int) =>
 br (x86 != 0) (drw w85 fun w87 => flEx fun F88 =>
 nn t_ fun (a89 : Addr) =>
 rd Try.prog (Instr.loadAt 33 (.pointer (some (Addr.add a89 2)))) (.one .slice) w87 fun (x90 : Hd3) =>
 nn t_ fun (a91 : Addr) =>
 rd Try.prog (Instr.loadAt 33 (.pointer (some (Addr.add a91 2)))) (.one .slice) w87 fun (x92 : Hd3) =>
 rdp Try.prog (Instr.indexAt 33 (.slice x92.1 x92.2.1 x92.2.2) (.int .i64 x76)) (.one .addr) fun (x93 : Addr) =>
 rd Try.prog (Instr.loadAt 23 (.pointer (some x93))) (.agg [(.int .i64), (.int .i64)]) w87 fun (x94 : (Int × Int × Unit)) =>
 rd Try.prog (Instr.loadAt 23 (.pointer (some x83))) (.agg [(.int .i64), (.int .i64)]) w87 fun (x95 : (Int × Int × Unit)) =>
 rd Try.prog (Instr.loadAt 23 (.pointer (some x39))) (.agg [(.int .i64), (.int .i64)]) w87 fun (x96 : (Int × Int × Unit)) =>
 flc bel w87 (fun _w98 => True) (fun w97 =>
   callP Try.prog Pn 133 [(.agg #[(.int .i64 x95.1), (.int .i64 x95.2.1)]), (.agg #[(.int .i64 x96.1), (.int .i64 x96.2.1)])] (.one (.agg [(.int .i64), (.int .i64)])) w97 fun (x99 : (Int × Int × Unit)) w100 =>
 (bel w97 w100 ∧ F88 14 [(.agg #[(.int .i64 x95.1), (.int .i64 x95.2.1)]), (.agg #[(.int .i64 x96.1), (.int .i64 x96.2.1)])] (.agg #[(.int .i64 x99.1), (.int .i64 x99.2.1)]) w100))
  fun (x101 : (Int × Int × Unit)) =>
 flc bel w87 (fun w103 => F88 14 [(.agg #[(.int .i64 x95.1), (.int .i64 x95.2.1)]), (.agg #[(.int .i64 x96.1), (.int .i64 x96.2.1)])] (.agg #[(.int .i64 x101.1), (.int .i64 x101.2.1)]) w103 ∧ True) (fun w102 =>
   callP Try.prog Pn 132 [(.agg #[(.int .i64 x94.1), (.int .i64 x94.2.1)]), (.agg #[(.int .i64 x101.1), (.int .i64 x101.2.1)])] (.one (.agg [(.int .i64), (.int .i64)])) w102 fun (x104 : (Int × Int × Unit)) w105 =>
 (bel w102 w105 ∧ F88 15 [(.agg #[(.int .i64 x94.1), (.int .i64 x94.2.1)]), (.agg #[(.int .i64 x101.1), (.int .i64 x101.2.1)])] (.agg #[(.int .i64 x104.1), (.int .i64 x104.2.1)]) w105))
  fun (x106 : (Int × Int × Unit)) =>
 flend bel w87 (fun w108 => F88 15 [(.agg #[(.int .i64 x94.1), (.int .i64 x94.2.1)]), (.agg #[(.int .i64 x101.1), (.int .i64 x101.2.1)])] (.agg #[(.int .i64 x106.1), (.int .i64 x106.2.1)]) w108 ∧ F88 14 [(.agg #[(.int .i64 x95.1), (.int .i64 x95.2.1)]), (.agg #[(.int .i64 x96.1), (.int .i64 x96.2.1)])] (.agg #[(.int .i64 x101.1), (.int .i64 x101.2.1)]) w108 ∧ True) fun w107 =>
 rdp Try.prog (Instr.indexAt 33 (.slice x90.1 x90.2.1 x90.2.2) (.int .i64 x76)) (.one .addr) fun (x109 : Addr) =>
 wu Try.prog (Instr.storeAt 23 (.pointer (some x109)) (.agg #[(.int .i64 x106.1), (.int .i64 x106.2.1)])) w107 fun w110 =>
 K71 (()) w110)
 (K71 (()) w85))
 (K71 (()) w85))
 (nn t_ fun (a111 : Addr) =>
 rd Try.prog (Instr.loadAt 53 (.pointer (some (Addr.add a111 4)))) (.one .slice) w70 fun (x112 : Hd3) =>
 rdp Try.prog (Instr.indexAt 53 (.slice x112.1 x112.2.1 x112.2.2) (.int .i64 row_)) (.one .addr) fun (x113 : Addr) =>
 rd Try.prog (Instr.loadAt 33 (.pointer (some x113))) (.one .slice) w70 fun (x114 : Hd3) =>
 rdp Try.prog (Instr.indexAt 33 (.slice x114.1 x114.2.1 x114.2.2) (.int .i64 k_)) (.one .addr) fun (x115 : Addr) =>
 rd Try.prog (Instr.loadAt 23 (.pointer (some x115))) (.agg [(.int .i64), (.int .i64)]) w70 fun (x116 : (Int × Int × Unit)) =>
 wr Try.prog (Instr.alloc 23 true (.tuple #[])) (.one .addr) w70 fun (x117 : Addr) w118 =>
 wu Try.prog (Instr.storeAt 23 (.pointer (some x117)) (.agg #[(.int .i64 x116.1), (.int .i64 x116.2.1)])) w118 fun w119 =>
 nn t_ fun (a120 : Addr) =>
 rd Try.prog (Instr.loadAt 53 (.pointer (some (Addr.add a120 4)))) (.one .slice) w119 fun (x121 : Hd3) =>
 rdp Try.prog (Instr.indexAt 53 (.slice x121.1 x121.2.1 x121.2.2) (.int .i64 row_)) (.one .addr) fun (x122 : Addr) =>
 rd Try.prog (Instr.loadAt 33 (.pointer (some x122))) (.one .slice) w119 fun (x123 : Hd3) =>
 loop (T := (Int × Unit)) (0, ()) w119 fun (again124 : (Int × Unit) → World → Prop) (s125 : (Int × Unit)) w126 => ∀ _ : Nat → Value,
 br (decide (s125.1 < ((x123.2.1 : Nat) : Int))) (join (T := (Unit)) (fun (_s128 : (Unit)) w129 => ∀ _ : Nat → Value,
 z (IntKind.wrap .i64 (s125.1 + 1)) fun (z130 : Int) =>
 again124 (z130, ()) w129)
  fun (K127 : (Unit) → World → Prop) =>
 rdp Try.prog (Instr.indexAt 33 (.slice x123.1 x123.2.1 x123.2.2) (.int .i64 s125.1)) (.one .addr) fun (x131 : Addr) =>
 rd Try.prog (Instr.loadAt 23 (.pointer (some x131))) (.agg [(.int .i64), (.int .i64)]) w126 fun (x132 : (Int × Int × Unit)) =>
 wr Try.prog (Instr.alloc 23 true (.tuple #[])) (.one .addr) w126 fun (x133 : Addr) w134 =>
 wu Try.prog (Instr.storeAt 23 (.pointer (some x133)) (.agg #[(.int .i64 x132.1), (.int .i64 x132.2.1)])) w134 fun w135 =>
 rd Try.prog (Instr.loadAt 2 (.pointer (some x133))) (.one (.int .i64)) w135 fun (x136 : Int) =>
 br (x136 != 0) (drw w135 fun w137 => flEx fun F138 =>
 nn t_ fun (a139 : Addr) =>
 rd Try.prog (Instr.loadAt 53 (.pointer (some (Addr.add a139 4)))) (.one .slice) w137 fun (x140 : Hd3) =>
 rdp Try.prog (Instr.indexAt 53 (.slice x140.1 x140.2.1 x140.2.2) (.int .i64 row_)) (.one .addr) fun (x141 : Addr) =>
 rd Try.prog (Instr.loadAt 33 (.pointer (some x141))) (.one .slice) w137 fun (x142 : Hd3) =>
 flc bel w137 (fun _w144 => True) (fun w143 =>
   callP Try.prog Pn 122 [(.int .i64 0)] (.one (.agg [(.int .i64), (.int .i64)])) w143 fun (x145 : (Int × Int × Unit)) w146 =>
 (bel w143 w146 ∧ F138 8 [(.int .i64 0)] (.agg #[(.int .i64 x145.1), (.int .i64 x145.2.1)]) w146))
  fun (x147 : (Int × Int × Unit)) =>
 rd Try.prog (Instr.loadAt 23 (.pointer (some x133))) (.agg [(.int .i64), (.int .i64)]) w137 fun (x148 : (Int × Int × Unit)) =>
 rd Try.prog (Instr.loadAt 23 (.pointer (some x117))) (.agg [(.int .i64), (.int .i64)]) w137 fun (x149 : (Int × Int × Unit)) =>
 flc bel w137 (fun w151 => F138 8 [(.int .i64 0)] (.agg #[(.int .i64 x147.1), (.int .i64 x147.2.1)]) w151 ∧ True) (fun w150 =>
   callP Try.prog Pn 25 [(.agg #[(.int .i64 x148.1), (.int .i64 x148.2.1)]), (.agg #[(.int .i64 x149.1), (.int .i64 x149.2.1)])] (.many [(.agg [(.int .i64), (.int .i64)]), (.one (.int .i64))]) w150 fun (x152 : ((Int × Int × Unit) × Int × Unit)) w153 =>
 (bel w150 w153 ∧ F138 11 [(.agg #[(.int .i64 x148.1), (.int .i64 x148.2.1)]), (.agg #[(.int .i64 x149.1), (.int .i64 x149.2.1)])] (.tuple #[(.agg #[(.int .i64 x152.1.1), (.int .i64 x152.1.2.1)]), (.int .i64 x152.2.1)]) w153))
  fun (x154 : ((Int × Int × Unit) × Int × Unit)) =>
 flc bel w137 (fun w156 => F138 11 [(.agg #[(.int .i64 x148.1), (.int .i64 x148.2.1)]), (.agg #[(.int .i64 x149.1), (.int .i64 x149.2.1)])] (.tuple #[(.agg #[(.int .i64 x154.1.1), (.int .i64 x154.1.2.1)]), (.int .i64 x154.2.1)]) w156 ∧ F138 8 [(.int .i64 0)] (.agg #[(.int .i64 x147.1), (.int .i64 x147.2.1)]) w156 ∧ True) (fun w155 =>
   callP Try.prog Pn 134 [(.agg #[(.int .i64 x154.1.1), (.int .i64 x154.1.2.1)]), (.int .i64 x154.2.1)] (.one (.agg [(.int .i64), (.int .i64)])) w155 fun (x157 : (Int × Int × Unit)) w158 =>
 (bel w155 w158 ∧ F138 14 [(.agg #[(.int .i64 x154.1.1), (.int .i64 x154.1.2.1)]), (.int .i64 x154.2.1)] (.agg #[(.int .i64 x157.1), (.int .i64 x157.2.1)]) w158))
  fun (x159 : (Int × Int × Unit)) =>
 flc bel w137 (fun w161 => F138 14 [(.agg #[(.int .i64 x154.1.1), (.int .i64 x154.1.2.1)]), (.int .i64 x154.2.1)] (.agg #[(.int .i64 x159.1), (.int .i64 x159.2.1)]) w161 ∧ F138 11 [(.agg #[(.int .i64 x148.1), (.int .i64 x148.2.1)]), (.agg #[(.int .i64 x149.1), (.int .i64 x149.2.1)])] (.tuple #[(.agg #[(.int .i64 x154.1.1), (.int .i64 x154.1.2.1)]), (.int .i64 x154.2.1)]) w161 ∧ F138 8 [(.int .i64 0)] (.agg #[(.int .i64 x147.1), (.int .i64 x147.2.1)]) w161 ∧ True) (fun w160 =>
   callP Try.prog Pn 123 [(.agg #[(.int .i64 x147.1), (.int .i64 x147.2.1)]), (.agg #[(.int .i64 x159.1), (.int .i64 x159.2.1)])] (.one (.agg [(.int .i64), (.int .i64)])) w160 fun (x162 : (Int × Int × Unit)) w163 =>
 (bel w160 w163 ∧ F138 15 [(.agg #[(.int .i64 x147.1), (.int .i64 x147.2.1)]), (.agg #[(.int .i64 x159.1), (.int .i64 x159.2.1)])] (.agg #[(.int .i64 x162.1), (.int .i64 x162.2.1)]) w163))
  fun (x164 : (Int × Int × Unit)) =>
 flend bel w137 (fun w166 => F138 15 [(.agg #[(.int .i64 x147.1), (.int .i64 x147.2.1)]), (.agg #[(.int .i64 x159.1), (.int .i64 x159.2.1)])] (.agg #[(.int .i64 x164.1), (.int .i64 x164.2.1)]) w166 ∧ F138 14 [(.agg #[(.int .i64 x154.1.1), (.int .i64 x154.1.2.1)]), (.int .i64 x154.2.1)] (.agg #[(.int .i64 x159.1), (.int .i64 x159.2.1)]) w166 ∧ F138 11 [(.agg #[(.int .i64 x148.1), (.int .i64 x148.2.1)]), (.agg #[(.int .i64 x149.1), (.int .i64 x149.2.1)])] (.tuple #[(.agg #[(.int .i64 x154.1.1), (.int .i64 x154.1.2.1)]), (.int .i64 x154.2.1)]) w166 ∧ F138 8 [(.int .i64 0)] (.agg #[(.int .i64 x147.1), (.int .i64 x147.2.1)]) w166 ∧ True) fun w165 =>
 rdp Try.prog (Instr.indexAt 33 (.slice x142.1 x142.2.1 x142.2.2) (.int .i64 s125.1)) (.one .addr) fun (x167 : Addr) =>
 wu Try.prog (Instr.storeAt 23 (.pointer (some x167)) (.agg #[(.int .i64 x164.1), (.int .i64 x164.2.1)])) w165 fun w168 =>
 K127 (()) w168)
 (K127 (()) w135))
 (drw w126 fun w169 => flEx fun F170 =>
 nn t_ fun (a171 : Addr) =>
 rd Try.prog (Instr.loadAt 53 (.pointer (some (Addr.add a171 4)))) (.one .slice) w169 fun (x172 : Hd3) =>
 rdp Try.prog (Instr.indexAt 53 (.slice x172.1 x172.2.1 x172.2.2) (.int .i64 row_)) (.one .addr) fun (x173 : Addr) =>
 rd Try.prog (Instr.loadAt 33 (.pointer (some x173))) (.one .slice) w169 fun (x174 : Hd3) =>
 nn t_ fun (a175 : Addr) =>
 rd Try.prog (Instr.loadAt 53 (.pointer (some (Addr.add a175 4)))) (.one .slice) w169 fun (x176 : Hd3) =>
 rdp Try.prog (Instr.indexAt 53 (.slice x176.1 x176.2.1 x176.2.2) (.int .i64 row_)) (.one .addr) fun (x177 : Addr) =>
 rd Try.prog (Instr.loadAt 33 (.pointer (some x177))) (.one .slice) w169 fun (x178 : Hd3) =>
 flc bel w169 (fun _w180 => True) (fun w179 =>
   callP Try.prog Pn 122 [(.int .i64 0)] (.one (.agg [(.int .i64), (.int .i64)])) w179 fun (x181 : (Int × Int × Unit)) w182 =>
 (bel w179 w182 ∧ F170 16 [(.int .i64 0)] (.agg #[(.int .i64 x181.1), (.int .i64 x181.2.1)]) w182))
  fun (x183 : (Int × Int × Unit)) =>
 flc bel w169 (fun w185 => F170 16 [(.int .i64 0)] (.agg #[(.int .i64 x183.1), (.int .i64 x183.2.1)]) w185 ∧ True) (fun w184 =>
   callP Try.prog Pn 122 [(.int .i64 1)] (.one (.agg [(.int .i64), (.int .i64)])) w184 fun (x186 : (Int × Int × Unit)) w187 =>
 (bel w184 w187 ∧ F170 17 [(.int .i64 1)] (.agg #[(.int .i64 x186.1), (.int .i64 x186.2.1)]) w187))
  fun (x188 : (Int × Int × Unit)) =>
 rd Try.prog (Instr.loadAt 23 (.pointer (some x117))) (.agg [(.int .i64), (.int .i64)]) w169 fun (x189 : (Int × Int × Unit)) =>
 flc bel w169 (fun w191 => F170 17 [(.int .i64 1)] (.agg #[(.int .i64 x188.1), (.int .i64 x188.2.1)]) w191 ∧ F170 16 [(.int .i64 0)] (.agg #[(.int .i64 x183.1), (.int .i64 x183.2.1)]) w191 ∧ True) (fun w190 =>
   callP Try.prog Pn 25 [(.agg #[(.int .i64 x188.1), (.int .i64 x188.2.1)]), (.agg #[(.int .i64 x189.1), (.int .i64 x189.2.1)])] (.many [(.agg [(.int .i64), (.int .i64)]), (.one (.int .i64))]) w190 fun (x192 : ((Int × Int × Unit) × Int × Unit)) w193 =>
 (bel w190 w193 ∧ F170 19 [(.agg #[(.int .i64 x188.1), (.int .i64 x188.2.1)]), (.agg #[(.int .i64 x189.1), (.int .i64 x189.2.1)])] (.tuple #[(.agg #[(.int .i64 x192.1.1), (.int .i64 x192.1.2.1)]), (.int .i64 x192.2.1)]) w193))
  fun (x194 : ((Int × Int × Unit) × Int × Unit)) =>
 flc bel w169 (fun w196 => F170 19 [(.agg #[(.int .i64 x188.1), (.int .i64 x188.2.1)]), (.agg #[(.int .i64 x189.1), (.int .i64 x189.2.1)])] (.tuple #[(.agg #[(.int .i64 x194.1.1), (.int .i64 x194.1.2.1)]), (.int .i64 x194.2.1)]) w196 ∧ F170 17 [(.int .i64 1)] (.agg #[(.int .i64 x188.1), (.int .i64 x188.2.1)]) w196 ∧ F170 16 [(.int .i64 0)] (.agg #[(.int .i64 x183.1), (.int .i64 x183.2.1)]) w196 ∧ True) (fun w195 =>
   callP Try.prog Pn 134 [(.agg #[(.int .i64 x194.1.1), (.int .i64 x194.1.2.1)]), (.int .i64 x194.2.1)] (.one (.agg [(.int .i64), (.int .i64)])) w195 fun (x197 : (Int × Int × Unit)) w198 =>
 (bel w195 w198 ∧ F170 22 [(.agg #[(.int .i64 x194.1.1), (.int .i64 x194.1.2.1)]), (.int .i64 x194.2.1)] (.agg #[(.int .i64 x197.1), (.int .i64 x197.2.1)]) w198))
  fun (x199 : (Int × Int × Unit)) =>
 flend bel w169 (fun w201 => F170 22 [(.agg #[(.int .i64 x194.1.1), (.int .i64 x194.1.2.1)]), (.int .i64 x194.2.1)] (.agg #[(.int .i64 x199.1), (.int .i64 x199.2.1)]) w201 ∧ F170 19 [(.agg #[(.int .i64 x188.1), (.int .i64 x188.2.1)]), (.agg #[(.int .i64 x189.1), (.int .i64 x189.2.1)])] (.tuple #[(.agg #[(.int .i64 x194.1.1), (.int .i64 x194.1.2.1)]), (.int .i64 x194.2.1)]) w201 ∧ F170 17 [(.int .i64 1)] (.agg #[(.int .i64 x188.1), (.int .i64 x188.2.1)]) w201 ∧ F170 16 [(.int .i64 0)] (.agg #[(.int .i64 x183.1), (.int .i64 x183.2.1)]) w201 ∧ True) fun w200 =>
 rdp Try.prog (Instr.indexAt 33 (.slice x174.1 x174.2.1 x174.2.2) (.int .i64 k_)) (.one .addr) fun (x202 : Addr) =>
 wu Try.prog (Instr.storeAt 23 (.pointer (some x202)) (.agg #[(.int .i64 x183.1), (.int .i64 x183.2.1)])) w200 fun w203 =>
 rdp Try.prog (Instr.indexAt 33 (.slice x178.1 x178.2.1 x178.2.2) (.int .i64 x6)) (.one .addr) fun (x204 : Addr) =>
 wu Try.prog (Instr.storeAt 23 (.pointer (some x204)) (.agg #[(.int .i64 x199.1), (.int .i64 x199.2.1)])) w203 fun w205 =>
 nn t_ fun (a206 : Addr) =>
 rd Try.prog (Instr.loadAt 47 (.pointer (some (Addr.add a206 3)))) (.one .slice) w205 fun (x207 : Hd3) =>
 rdp Try.prog (Instr.indexAt 47 (.slice x207.1 x207.2.1 x207.2.2) (.int .i64 row_)) (.one .addr) fun (x208 : Addr) =>
 wu Try.prog (Instr.storeAt 3 (.pointer (some x208)) (.int .i64 k_)) w205 fun w209 =>
 nn t_ fun (a210 : Addr) =>
 rd Try.prog (Instr.loadAt 53 (.pointer (some (Addr.add a210 4)))) (.one .slice) w209 fun (x211 : Hd3) =>
 loop (T := (Int × Unit)) (0, ()) w209 fun (again212 : (Int × Unit) → World → Prop) (s213 : (Int × Unit)) w214 => ∀ _ : Nat → Value,
 br (decide (s213.1 < ((x211.2.1 : Nat) : Int))) (join (T := (Unit)) (fun (_s216 : (Unit)) w217 => ∀ _ : Nat → Value,
 z (IntKind.wrap .i64 (s213.1 + 1)) fun (z218 : Int) =>
 again212 (z218, ()) w217)
  fun (K215 : (Unit) → World → Prop) =>
 rdp Try.prog (Instr.indexAt 53 (.slice x211.1 x211.2.1 x211.2.2) (.int .i64 s213.1)) (.one .addr) fun (x219 : Addr) =>
 rd Try.prog (Instr.loadAt 33 (.pointer (some x219))) (.one .slice) w214 fun (x220 : Hd3) =>
 rdp Try.prog (Instr.indexAt 33 (.slice x220.1 x220.2.1 x220.2.2) (.int .i64 k_)) (.one .addr) fun (x221 : Addr) =>
 rd Try.prog (Instr.loadAt 23 (.pointer (some x221))) (.agg [(.int .i64), (.int .i64)]) w214 fun (x222 : (Int × Int × Unit)) =>
 wr Try.prog (Instr.alloc 23 true (.tuple #[])) (.one .addr) w214 fun (x223 : Addr) w224 =>
 wu Try.prog (Instr.storeAt 23 (.pointer (some x223)) (.agg #[(.int .i64 x222.1), (.int .i64 x222.2.1)])) w224 fun w225 =>
 br (s213.1 == row_) (K215 (()) w225)
 (rd Try.prog (Instr.loadAt 2 (.pointer (some x223))) (.one (.int .i64)) w225 fun (x226 : Int) =>
 br (x226 == 0) (K215 (()) w225)
 (callP Try.prog Pn 122 [(.int .i64 0)] (.one (.agg [(.int .i64), (.int .i64)])) w225 fun (x227 : (Int × Int × Unit)) w228 =>
 rdp Try.prog (Instr.indexAt 33 (.slice x220.1 x220.2.1 x220.2.2) (.int .i64 k_)) (.one .addr) fun (x229 : Addr) =>
 wu Try.prog (Instr.storeAt 23 (.pointer (some x229)) (.agg #[(.int .i64 x227.1), (.int .i64 x227.2.1)])) w228 fun w230 =>
 nn t_ fun (a231 : Addr) =>
 rd Try.prog (Instr.loadAt 53 (.pointer (some (Addr.add a231 4)))) (.one .slice) w230 fun (x232 : Hd3) =>
 rdp Try.prog (Instr.indexAt 53 (.slice x232.1 x232.2.1 x232.2.2) (.int .i64 row_)) (.one .addr) fun (x233 : Addr) =>
 rd Try.prog (Instr.loadAt 33 (.pointer (some x233))) (.one .slice) w230 fun (x234 : Hd3) =>
 loop (T := (Int × Unit)) (0, ()) w230 fun (again235 : (Int × Unit) → World → Prop) (s236 : (Int × Unit)) w237 => ∀ _ : Nat → Value,
 br (decide (s236.1 < ((x234.2.1 : Nat) : Int))) (join (T := (Unit)) (fun (_s239 : (Unit)) w240 => ∀ _ : Nat → Value,
 z (IntKind.wrap .i64 (s236.1 + 1)) fun (z241 : Int) =>
 again235 (z241, ()) w240)
  fun (K238 : (Unit) → World → Prop) =>
 rdp Try.prog (Instr.indexAt 33 (.slice x234.1 x234.2.1 x234.2.2) (.int .i64 s236.1)) (.one .addr) fun (x242 : Addr) =>
 rd Try.prog (Instr.loadAt 23 (.pointer (some x242))) (.agg [(.int .i64), (.int .i64)]) w237 fun (x243 : (Int × Int × Unit)) =>
 wr Try.prog (Instr.alloc 23 true (.tuple #[])) (.one .addr) w237 fun (x244 : Addr) w245 =>
 wu Try.prog (Instr.storeAt 23 (.pointer (some x244)) (.agg #[(.int .i64 x243.1), (.int .i64 x243.2.1)])) w245 fun w246 =>
 rd Try.prog (Instr.loadAt 2 (.pointer (some x244))) (.one (.int .i64)) w246 fun (x247 : Int) =>
 br (x247 != 0) (drw w246 fun w248 => flEx fun F249 =>
 rdp Try.prog (Instr.indexAt 33 (.slice x220.1 x220.2.1 x220.2.2) (.int .i64 s236.1)) (.one .addr) fun (x250 : Addr) =>
 rd Try.prog (Instr.loadAt 23 (.pointer (some x250))) (.agg [(.int .i64), (.int .i64)]) w248 fun (x251 : (Int × Int × Unit)) =>
 rd Try.prog (Instr.loadAt 23 (.pointer (some x223))) (.agg [(.int .i64), (.int .i64)]) w248 fun (x252 : (Int × Int × Unit)) =>
 rd Try.prog (Instr.loadAt 23 (.pointer (some x244))) (.agg [(.int .i64), (.int .i64)]) w248 fun (x253 : (Int × Int × Unit)) =>
 flc bel w248 (fun _w255 => True) (fun w254 =>
   callP Try.prog Pn 133 [(.agg #[(.int .i64 x252.1), (.int .i64 x252.2.1)]), (.agg #[(.int .i64 x253.1), (.int .i64 x253.2.1)])] (.one (.agg [(.int .i64), (.int .i64)])) w254 fun (x256 : (Int × Int × Unit)) w257 =>
 (bel w254 w257 ∧ F249 8 [(.agg #[(.int .i64 x252.1), (.int .i64 x252.2.1)]), (.agg #[(.int .i64 x253.1), (.int .i64 x253.2.1)])] (.agg #[(.int .i64 x256.1), (.int .i64 x256.2.1)]) w257))
  fun (x258 : (Int × Int × Unit)) =>
 flend bel w248 (fun w260 => F249 8 [(.agg #[(.int .i64 x252.1), (.int .i64 x252.2.1)]), (.agg #[(.int .i64 x253.1), (.int .i64 x253.2.1)])] (.agg #[(.int .i64 x258.1), (.int .i64 x258.2.1)]) w260 ∧ True) fun w259 =>
 callP Try.prog Pn 132 [(.agg #[(.int .i64 x251.1), (.int .i64 x251.2.1)]), (.agg #[(.int .i64 x258.1), (.int .i64 x258.2.1)])] (.one (.agg [(.int .i64), (.int .i64)])) w259 fun (x261 : (Int × Int × Unit)) w262 =>
 rdp Try.prog (Instr.indexAt 33 (.slice x220.1 x220.2.1 x220.2.2) (.int .i64 s236.1)) (.one .addr) fun (x263 : Addr) =>
 wu Try.prog (Instr.storeAt 23 (.pointer (some x263)) (.agg #[(.int .i64 x261.1), (.int .i64 x261.2.1)])) w262 fun w264 =>
 K238 (()) w264)
 (K238 (()) w246))
 (K215 (()) w237))))
 (R (.tuple #[]) w214)))
def H121 : Hints := ⟨[(2, 0, [(78, (.one (.int .i64)))]), (1, 1, []), (2, 2, [(137, (.one (.int .i64)))]), (1, 3, []), (2, 4, [(200, (.one (.int .i64)))]), (2, 6, [(229, (.one (.int .i64)))]), (1, 7, []), (1, 5, [])], [(2, 24), (3, 20), (9, 16), (16, 16), (18, 23), (30, 9)], [], []⟩
set_option maxRecDepth 100000 in
theorem S121_eq (t_ : (Option Addr)) (row_ : Int) (k_ : Int) (to_0 : Int) (to_1 : Int) (w0 : World) (Pn : List PanicEntry → World → Prop) (R : Value → World → Prop) : vcFnP Try.prog (some Pn) H121 Try.f121 [(.pointer t_), (.int .i64 row_), (.int .i64 k_), (.agg #[(.int .i64 to_0), (.int .i64 to_1)])] w0 R = S121 t_ row_ k_ to_0 to_1 w0 Pn R := by kernel_rfl
set_option maxRecDepth 100000 in
theorem S121_calls (t_ : (Option Addr)) (row_ : Int) (k_ : Int) (to_0 : Int) (to_1 : Int) (w0 : World) (Pn : List PanicEntry → World → Prop) (R : Value → World → Prop) (h : S121 t_ row_ k_ to_0 to_1 w0 Pn R) : Calls Try.prog 121 #[(.pointer t_), (.int .i64 row_), (.int .i64 k_), (.agg #[(.int .i64 to_0), (.int .i64 to_1)])] w0 (retP R (some Pn)) := by
  rw [← S121_eq] at h; exact vcFnP_sound follows_ Try.func121 h

def S119 (s_a : Option Addr) (s_n : Nat) (s_c : Nat) (w0 : World) (R : Value → World → Prop) : Prop :=
 rd Try.prog (cmpS .eql 33 (.tmp 3) (.const (.slice none 0 0)) (.slice s_a s_n s_c) (.slice none 0 0)) (.one .bool) w0 fun (x1 : Bool) =>
 br x1 (R (.slice none 0 0) w0)
 (wr Try.prog (Instr.buildSlice 33 0 #[]) (.one .slice) w0 fun (x2 : Hd3) w3 =>
 wr Try.prog (Builtin.append_ #[33, 33] 33 #[(.slice x2.1 x2.2.1 x2.2.2), (.slice s_a s_n s_c)]) (.one .slice) w3 fun (x4 : Hd3) w5 =>
 R (.slice x4.1 x4.2.1 x4.2.2) w5)
def H119 : Hints := ⟨[], [], [], []⟩
set_option maxRecDepth 100000 in
theorem S119_eq (s_a : Option Addr) (s_n : Nat) (s_c : Nat) (w0 : World) (R : Value → World → Prop) : vcFn Try.prog H119 Try.f119 [(.slice s_a s_n s_c)] w0 R = S119 s_a s_n s_c w0 R := by kernel_rfl
set_option maxRecDepth 100000 in
theorem S119_calls (s_a : Option Addr) (s_n : Nat) (s_c : Nat) (w0 : World) (R : Value → World → Prop) (h : S119 s_a s_n s_c w0 R) : Calls Try.prog 119 #[(.slice s_a s_n s_c)] w0 (ret R) := by
  rw [← S119_eq] at h; exact vcFn_sound follows_ Try.func119 h

end Go.Proofs

/- Sums and products that must be small, or a panic. -/



namespace Go.Proofs.Ytajpdnphamomjaa
open Go.RowKit Go.Q Go.Q.Num Go.V

abbrev failV : Value := .iface 133 (.agg #[])
def PnF (A : Prop) (w : World) : List PanicEntry → World → Prop := fun ch w' => A ∧ ch = [{ v := failV, recovered := false }] ∧ bel w w'
theorem PnF.up {A A' : Prop} {w w' : World} (hA : A → A') (hb : bel w w') (ch : List PanicEntry) (w'' : World) (h : PnF A w' ch w'') : PnF A' w ch w'' := ⟨hA h.1, h.2.1, hb.trans h.2.2⟩

theorem mustW (n d e : Int) (w : World) : Calls Try.prog 134 #[fracv n d, .int .i64 e] w fun en w' => (en = .returned (fracv n d) ∧ e = 0 ∧ bel w w') ∨ (en = .panicked [{ v := failV, recovered := false }] ∧ e ≠ 0 ∧ bel w w') := by
  unfold fracv
  go_enter Try.func134, Try.ntmps134
  go_wp2
  · refine ⟨rfl, .inr ⟨rfl, ?_, ?_⟩⟩
    · rename (e != 0) = true => h
      simpa using h
    · exact (bel_alloc w _).trans (bel_alloc _ _)
  · rename_i h
    have h0 : e = 0 := by simpa using h
    refine bodyPost_ret (v := fracv n d) ?_ rfl (.inl ⟨rfl, h0, (bel_alloc w _).trans (bel_alloc _ _)⟩)
    simp [results, Try.results134, go_sem, fracv]
theorem mustF (n d e : Int) (w : World) : callP Try.prog (PnF (e ≠ 0) w) 134 [fracv n d, .int .i64 e] (.one (.agg [.int .i64, .int .i64])) w (fun x w' => e = 0 ∧ x = (n, d, ()) ∧ bel w w') :=
  Calls.mono (mustW n d e w) fun en w' q => by
    rcases q with ⟨h1, h2, h3⟩ | ⟨h1, h2, h3⟩
    · exact .inl ⟨(n, d, ()), h1, h2, rfl, h3⟩
    · exact .inr ⟨_, h1, h2, rfl, h3⟩

def qv (r : Rat) : Int × Int × Unit := (r.num, ((r.den : Nat) : Int), ())
theorem fit_no {r : Rat} (h : ¬ Fits r) : fitT r = ((0, 0, ()), 8, ()) := by unfold fitT; rw [if_neg h]
theorem must_fit {r : Rat} {x : FE} {w w' : World} (hx : x = fitT r) (hb : bel w w') : callP Try.prog (PnF (¬ Fits r) w) 134 [fracv x.1.1 x.1.2.1, .int .i64 x.2.1] (.one (.agg [.int .i64, .int .i64])) w' (fun x w'' => x = qv r ∧ Fits r ∧ bel w w'') := by
  subst hx
  refine callP_mono (mustF _ _ _ w') (fun x w'' q => ?_) (fun ch w'' q => PnF.up (fun q => ?_) hb ch w'' q)
  · obtain ⟨h1, h2, h3⟩ := q
    by_cases hf : Fits r
    · rw [fit_fv hf] at h2; exact ⟨h2, hf, hb.trans h3⟩
    · rw [fit_no hf] at h1; cases h1
  · intro hf
    rw [fit_fv hf] at q; exact q rfl

theorem opT_any {r s : Rat} {f : Rat → Rat → Rat} (h : Fits r) (h' : Fits s) : opT r.num r.den s.num s.den f = fitT (f r s) := by
  unfold opT; rw [if_pos ⟨frac_fits h, frac_fits h'⟩, ratv_fits, ratv_fits]
theorem divT_any {r s : Rat} (h : Fits r) (h' : Fits s) (h0 : s.num ≠ 0) : divT r.num r.den s.num s.den = fitT (r / s) := by
  unfold divT; rw [if_pos ⟨frac_fits h, frac_fits h', h0⟩, ratv_fits, ratv_fits]


set_option maxHeartbeats 400000 in
theorem lAdd {r s : Rat} (w : World) (hr : Fits r) (hs : Fits s) : callP Try.prog (PnF (¬ Fits (r + s)) w) 132 [fracv r.num r.den, fracv s.num s.den] (.one (.agg [.int .i64, .int .i64])) w (fun x w' => x = qv (r + s) ∧ Fits (r + s) ∧ bel w w') := by
  have main : Calls Try.prog 132 #[fracv r.num r.den, fracv s.num s.den] w (retP (fun v w' => ∃ x, v = RS.val (.one (.agg [.int .i64, .int .i64])) x ∧ x = qv (r + s) ∧ Fits (r + s) ∧ bel w w') (some (PnF (¬ Fits (r + s)) w))) := by
    refine S132_calls _ _ _ _ w (PnF (¬ Fits (r + s)) w) _ ?_
    unfold S132
    refine wr_box fun p1 w1 X1 hb1 hp1 _ => ?_
    refine wr_box fun p2 w2 X2 hb2 hp2 _ => ?_
    refine wr_alloc (z := fracv 0 0) (by kernel_rfl) fun p3 w3 X3 hb3 hp3 _ => ?_
    refine rd_boxN ((X1.up hb2).up hb3) (by kernel_rfl) rfl ?_
    refine rd_boxN (X2.up hb3) (by kernel_rfl) rfl ?_
    have b3 : bel w w3 := (hb1.trans hb2).trans hb3
    refine callP_mono (callP_of (opA _ _ _ _ w3 (i64_fits hr) (i64_fits hs))) (fun x w4 q => ?_) (fun _ _ q => q)
    obtain ⟨hx, hb4⟩ := q
    rw [opT_any (f := fun r s => r + s) hr hs] at hx
    refine callP_mono (must_fit hx hb4) (fun y w5 q => ?_) (fun ch w' q => PnF.up id b3 ch w' q)
    obtain ⟨rfl, hf, hb5⟩ := q
    refine wu_box (X3.up hb5) (by kernel_rfl) (Nat.le_refl 2) rfl fun w6 X6 hg6 _ => ?_
    refine rd_boxV X6 (by kernel_rfl) rfl ?_
    exact ⟨_, rfl, rfl, hf, (b3.trans hb5).grownAt hg6 (by have := hb1.size; have := hb2.size; omega)⟩
  exact Calls.mono main fun e w' q => q.imp (fun ⟨v, he, x, hx, q⟩ => ⟨x, by rw [he, hx], q⟩) id

set_option maxHeartbeats 400000 in
theorem lSub {r s : Rat} (w : World) (hr : Fits r) (hs : Fits s) : callP Try.prog (PnF (¬ Fits (r + -s)) w) 123 [fracv r.num r.den, fracv s.num s.den] (.one (.agg [.int .i64, .int .i64])) w (fun x w' => x = qv (r + -s) ∧ Fits (r + -s) ∧ bel w w') := by
  have main : Calls Try.prog 123 #[fracv r.num r.den, fracv s.num s.den] w (retP (fun v w' => ∃ x, v = RS.val (.one (.agg [.int .i64, .int .i64])) x ∧ x = qv (r + -s) ∧ Fits (r + -s) ∧ bel w w') (some (PnF (¬ Fits (r + -s)) w))) := by
    refine S123_calls _ _ _ _ w (PnF (¬ Fits (r + -s)) w) _ ?_
    unfold S123
    refine wr_box fun p1 w1 X1 hb1 hp1 _ => ?_
    refine wr_box fun p2 w2 X2 hb2 hp2 _ => ?_
    refine wr_alloc (z := fracv 0 0) (by kernel_rfl) fun p3 w3 X3 hb3 hp3 _ => ?_
    refine rd_boxN ((X1.up hb2).up hb3) (by kernel_rfl) rfl ?_
    refine rd_boxN (X2.up hb3) (by kernel_rfl) rfl ?_
    have b3 : bel w w3 := (hb1.trans hb2).trans hb3
    refine callP_mono (callP_of (opS _ _ _ _ w3 (i64_fits hr) (i64_fits hs))) (fun x w4 q => ?_) (fun _ _ q => q)
    obtain ⟨hx, hb4⟩ := q
    rw [opT_any (f := fun r s => r + -s) hr hs] at hx
    refine callP_mono (must_fit hx hb4) (fun y w5 q => ?_) (fun ch w' q => PnF.up id b3 ch w' q)
    obtain ⟨rfl, hf, hb5⟩ := q
    refine wu_box (X3.up hb5) (by kernel_rfl) (Nat.le_refl 2) rfl fun w6 X6 hg6 _ => ?_
    refine rd_boxV X6 (by kernel_rfl) rfl ?_
    exact ⟨_, rfl, rfl, hf, (b3.trans hb5).grownAt hg6 (by have := hb1.size; have := hb2.size; omega)⟩
  exact Calls.mono main fun e w' q => q.imp (fun ⟨v, he, x, hx, q⟩ => ⟨x, by rw [he, hx], q⟩) id

set_option maxHeartbeats 400000 in
theorem lMul {r s : Rat} (w : World) (hr : Fits r) (hs : Fits s) : callP Try.prog (PnF (¬ Fits (r * s)) w) 133 [fracv r.num r.den, fracv s.num s.den] (.one (.agg [.int .i64, .int .i64])) w (fun x w' => x = qv (r * s) ∧ Fits (r * s) ∧ bel w w') := by
  have main : Calls Try.prog 133 #[fracv r.num r.den, fracv s.num s.den] w (retP (fun v w' => ∃ x, v = RS.val (.one (.agg [.int .i64, .int .i64])) x ∧ x = qv (r * s) ∧ Fits (r * s) ∧ bel w w') (some (PnF (¬ Fits (r * s)) w))) := by
    refine S133_calls _ _ _ _ w (PnF (¬ Fits (r * s)) w) _ ?_
    unfold S133
    refine wr_box fun p1 w1 X1 hb1 hp1 _ => ?_
    refine wr_box fun p2 w2 X2 hb2 hp2 _ => ?_
    refine wr_alloc (z := fracv 0 0) (by kernel_rfl) fun p3 w3 X3 hb3 hp3 _ => ?_
    refine rd_boxN ((X1.up hb2).up hb3) (by kernel_rfl) rfl ?_
    refine rd_boxN (X2.up hb3) (by kernel_rfl) rfl ?_
    have b3 : bel w w3 := (hb1.trans hb2).trans hb3
    refine callP_mono (callP_of (opM _ _ _ _ w3 (i64_fits hr) (i64_fits hs))) (fun x w4 q => ?_) (fun _ _ q => q)
    obtain ⟨hx, hb4⟩ := q
    rw [opT_any (f := fun r s => r * s) hr hs] at hx
    refine callP_mono (must_fit hx hb4) (fun y w5 q => ?_) (fun ch w' q => PnF.up id b3 ch w' q)
    obtain ⟨rfl, hf, hb5⟩ := q
    refine wu_box (X3.up hb5) (by kernel_rfl) (Nat.le_refl 2) rfl fun w6 X6 hg6 _ => ?_
    refine rd_boxV X6 (by kernel_rfl) rfl ?_
    exact ⟨_, rfl, rfl, hf, (b3.trans hb5).grownAt hg6 (by have := hb1.size; have := hb2.size; omega)⟩
  exact Calls.mono main fun e w' q => q.imp (fun ⟨v, he, x, hx, q⟩ => ⟨x, by rw [he, hx], q⟩) id

theorem lDiv {r s : Rat} (w : World) (hr : Fits r) (hs : Fits s) (h0 : s.num ≠ 0) : call Try.prog 25 [fracv r.num r.den, fracv s.num s.den] rFE w (fun x w' => x = fitT (r / s) ∧ bel w w') :=
  call_mono (opD _ _ _ _ w (i64_fits hr) (i64_fits hs)) fun x w' ⟨e, hb⟩ => ⟨by rw [e]; exact divT_any hr hs h0, hb⟩
theorem fits_of_int {n : Int} (h : -100000000000000000 ≤ n ∧ n ≤ 100000000000000000) : Fits (n : Rat) := ⟨h.1, h.2, by show (1 : Nat) ≤ _; omega⟩
theorem lWhole (n : Int) (w : World) : call Try.prog 122 [.int .i64 n] (.one (.agg [.int .i64, .int .i64])) w (fun x w' => x = qv (n : Rat) ∧ bel w w') := by
  refine call_of (S122_calls n w _ ?_)
  unfold S122
  refine boxF fun p1 w1 hb1 X1 hp1 => ?_
  refine rd_boxV X1 (by kernel_rfl) rfl ?_
  exact ⟨_, rfl, rfl, hb1⟩
end Go.Proofs.Ytajpdnphamomjaa

/- Arguments that came in: slices of any elements as lists; tables. -/



namespace Go.V
open Go Go.RowKit Go.Q

section
variable {P : Program} {w : World} {t e : TypeId}
theorem Read.elems {α : Type} {enc : α → List Value} {R : α → Prop} {sz : Nat} {cs : List Value} (he : ∀ x, (enc x).length = sz) (h0 : 0 < sz) (hE : ∀ ch, Go.Q.Read P w e ch → ∃ x, ch = enc x ∧ R x)
    (ht : P.underlying t = some (.slice e)) (hs : P.cellsOf e = sz) (h : Go.Q.Read P w t cs) : ∃ a n c, ∃ L : List α, cs = [.slice a n c] ∧ L.length = n ∧ Sl w a n c sz (L.flatMap enc) ∧ ∀ x ∈ L, R x := by
  obtain ⟨a, n, c, rfl, h1, h2, h3, h4⟩ := Go.Q.Read.slice ht h
  have ex : ∀ i : Fin n, ∃ x : α, ∃ ad, a = some ad ∧ w.cells? 0 (ad.add (i * sz)) sz = some (enc x) ∧ R x := fun i => by
    obtain ⟨ad, ch, e1, e2, e3⟩ := h4 i i.2
    obtain ⟨x, rfl, hx⟩ := hE ch e3
    rw [hs] at e2
    exact ⟨x, ad, e1, e2, hx⟩
  refine ⟨a, n, c, List.ofFn fun i => Classical.choose (ex i), rfl, by simp, ?_, ?_⟩
  · refine ⟨by rw [flat_len he]; simp, h1, h2, h3, fun j u hj => ?_⟩
    have hj' : j < n * sz := by
      have := (List.getElem?_eq_some_iff.1 hj).1
      rw [flat_len he] at this
      simpa using this
    have hi : j / sz < n := Nat.div_lt_of_lt_mul (by rwa [Nat.mul_comm])
    have ho : j % sz < sz := Nat.mod_lt _ h0
    obtain ⟨ad, e1, e2, _⟩ := Classical.choose_spec (ex ⟨j / sz, hi⟩)
    have hg := flat_get he (L := List.ofFn fun i => Classical.choose (ex i)) (j := j / sz) (p := Classical.choose (ex ⟨j / sz, hi⟩)) (by simp [hi]) ho
    rw [Nat.div_add_mod' j sz, hj] at hg
    obtain ⟨_, e4, e5⟩ := World.cells?_some e2
    have h6 := e5 (j % sz) ho
    rw [add_add] at h6
    simp only at h6
    rw [Nat.div_add_mod', ← hg] at h6
    refine ⟨ad, e1, h6, ?_⟩
    have := cell_lt h6
    rwa [add_block] at this
  · intro x hx
    rw [List.mem_ofFn] at hx
    obtain ⟨i, rfl⟩ := hx
    obtain ⟨ad, e1, e2, e3⟩ := Classical.choose_spec (ex i)
    exact e3
theorem Read.ones {α : Type} {g : α → Value} {R : α → Prop} {cs : List Value} (hE : ∀ ch, Go.Q.Read P w e ch → ∃ x, ch = [g x] ∧ R x)
    (ht : P.underlying t = some (.slice e)) (hs : P.cellsOf e = 1) (h : Go.Q.Read P w t cs) : ∃ a n c, ∃ L : List α, cs = [.slice a n c] ∧ L.length = n ∧ Sl w a n c 1 (L.map g) ∧ ∀ x ∈ L, R x := by
  obtain ⟨a, n, c, L, h1, h2, h3, h4⟩ := Read.elems (enc := fun x => [g x]) (R := R) (fun _ => rfl) Nat.one_pos hE ht hs h
  rw [← List.map_eq_flatMap] at h3
  exact ⟨a, n, c, L, h1, h2, h3, h4⟩
theorem Read.ints {k : IntKind} {cs : List Value} (ht : P.underlying t = some (.slice e)) (he : P.underlying e = some (.int k)) (hs : P.cellsOf e = 1) (h : Go.Q.Read P w t cs) :
    ∃ a n c, ∃ L : List Int, cs = [.slice a n c] ∧ L.length = n ∧ Sl w a n c 1 (ints k L) ∧ ∀ x ∈ L, (Lit.int k x).wf = true :=
  Read.ones (g := Value.int k) (fun _ h => Go.Q.Read.int he h) ht hs h
structure Tab {α : Type} (g : α → Value) (w : World) (h : Hdr) (T : List (List α)) : Prop where
  ex : ∃ hs : List Hdr, Sl w h.1 h.2.1 h.2.2 1 (hs.map hv) ∧ hs.length = T.length ∧ ∀ (i : Nat) (x : Hdr) (r : List α), hs[i]? = some x → T[i]? = some r → Sl w x.1 x.2.1 x.2.2 1 (r.map g)
abbrev TabI (k : IntKind) (w : World) (h : Hdr) (T : List (List Int)) : Prop := Tab (Value.int k) w h T
theorem Tab.len {α : Type} {g : α → Value} {h : Hdr} {T : List (List α)} (H : Tab g w h T) : T.length = h.2.1 := by
  obtain ⟨hs, h1, h2, _⟩ := H.ex
  have := h1.len
  simp at this
  omega
theorem Tab.up {α : Type} {g : α → Value} {h : Hdr} {T : List (List α)} {w' : World} (H : Tab g w h T) (hb : bel w w') : Tab g w' h T := by
  obtain ⟨hs, h1, h2, h3⟩ := H.ex
  exact ⟨hs, h1.kept hb, h2, fun i x r q1 q2 => (h3 i x r q1 q2).kept hb⟩
theorem Tab.at {α : Type} {g : α → Value} {h : Hdr} {T : List (List α)} (H : Tab g w h T) {z : Value} {bytes : Nat} (TS : TyS P t e z 1 bytes) (he : scal P e = true) {j : Nat} {k : IntKind} {i : Int} {K : (Option Addr × Nat × Nat) → Prop}
    (hj : i = (j : Int)) (hn : j < h.2.1) (hk : ∀ (x : Hdr) (r : List α), T[j]? = some r → Sl w x.1 x.2.1 x.2.2 1 (r.map g) → K x) :
    rdp P (Instr.indexAt t (.slice h.1 h.2.1 h.2.2) (.int k i)) (.one .addr) fun ad => rd P (Instr.loadAt e (.pointer (some ad))) (.one .slice) w K := by
  have hl := H.len
  obtain ⟨hs, h1, h2, h3⟩ := H.ex
  refine at_hdr TS he h1 hj hn fun x hx => ?_
  obtain ⟨r, hr⟩ : ∃ r, T[j]? = some r := ⟨_, List.getElem?_eq_getElem (by omega)⟩
  exact hk x r hr (h3 j x r hx hr)
theorem Arg.slice {v : Value} (ht : P.underlying t = some (.slice e)) (h : Arg P w t v) : ∃ a n c, v = .slice a n c ∧ Go.Q.Read P w t [v] := by
  obtain ⟨⟨r, b, ho⟩, hr⟩ := h
  unfold Value.okWide Cell.okWide Cell.ok at ho
  simp only [ht] at ho
  cases v with
  | slice a n c => exact ⟨a, n, c, rfl, hr⟩
  | _ => simp at ho
end
end Go.V

/- Loops in the calculus: counting loops, the search of slices.IndexFunc. -/

namespace Go.V
open Go Go.RowKit Go.Q

theorem _root_.Go.Q.Sl.up {w w' : World} {a : Option Addr} {n c sz : Nat} {xs : List Value} (h : Sl w a n c sz xs) (hb : bel w w') : Sl w' a n c sz xs := h.kept hb
theorem loop_up {w0 : World} {body : ((Int × Unit) → World → Prop) → (Int × Unit) → World → Prop} (n : Nat) (I : Nat → World → Prop) (h0 : I 0 w0)
    (h : ∀ i w, i ≤ n → I i w → ∀ again : (Int × Unit) → World → Prop, (∀ w', i < n → I (i + 1) w' → again ((i : Int) + 1, ()) w') → body again ((i : Int), ()) w) : loop (0, ()) w0 body := by
  refine loop_gh (G := Nat) (fun i s w' => s = ((i : Int), ()) ∧ i ≤ n ∧ I i w') (fun i => n - i) 0 ⟨rfl, Nat.zero_le _, h0⟩ ?_
  rintro i s w ⟨rfl, hi, hI⟩ again hag
  exact h i w hi hI again fun w' hlt hI' => hag (i + 1) _ _ ⟨rfl, hlt, hI'⟩ (by omega)
theorem loop_upA {A : Type} {a0 : A} {w0 : World} {body : ((A × Int × Unit) → World → Prop) → (A × Int × Unit) → World → Prop} (n : Nat) (I : Nat → A → World → Prop) (h0 : I 0 a0 w0)
    (h : ∀ i a w, i ≤ n → I i a w → ∀ again : (A × Int × Unit) → World → Prop, (∀ a' w', i < n → I (i + 1) a' w' → again (a', (i : Int) + 1, ()) w') → body again (a, (i : Int), ()) w) : loop (a0, 0, ()) w0 body := by
  refine loop_gh (G := Nat) (fun i s w' => s.2 = ((i : Int), ()) ∧ i ≤ n ∧ I i s.1 w') (fun i => n - i) 0 ⟨rfl, Nat.zero_le _, h0⟩ ?_
  rintro i ⟨a, s⟩ w ⟨rfl, hi, hI⟩ again hag
  exact h i a w hi hI again fun a' w' hlt hI' => hag (i + 1) _ _ ⟨rfl, hlt, hI'⟩ (by omega)
theorem pre_step {α : Type} {p : α → Prop} {l : List α} {i : Nat} {y : α} (h : ∀ j, j < i → ∀ x, l[j]? = some x → p x) (hy : l[i]? = some y) (hp : p y) : ∀ j, j < i + 1 → ∀ x, l[j]? = some x → p x := by
  intro j hj x hx
  rcases Nat.lt_or_ge j i with q | q
  · exact h j q x hx
  · have : j = i := by omega
    subst this
    rw [hy] at hx; cases hx; exact hp
theorem pre_zero {α : Type} {p : α → Prop} {l : List α} : ∀ j, j < 0 → ∀ x, l[j]? = some x → p x := fun j h => by omega
theorem pre_all {α : Type} {p : α → Prop} {l : List α} {n : Nat} (h : ∀ j, j < n → ∀ x, l[j]? = some x → p x) (hn : l.length ≤ n) : ∀ x ∈ l, p x := by
  intro x hx
  obtain ⟨j, hj, rfl⟩ := List.mem_iff_getElem.1 hx
  exact h j (by omega) _ (List.getElem?_eq_getElem hj)
theorem mem_at {α : Type} {l : List α} {i : Nat} {y : α} (h : l[i]? = some y) : y ∈ l := List.mem_of_getElem? h

theorem rdF_box0 {P : Program} {t : TypeId} {w : World} {a : Addr} {cs : List Value} {h : Nat} {fi ca : Array Value} {k : Nat → Array Value → Array Value → Prop} (ht : scal P t = true) (hb : Box w a cs) (hi : cs[0]? = some (.func (.func h) fi ca)) (hk : k h fi ca) :
    rdF P bel (Instr.loadAt t (.pointer (some a))) w k := ⟨h, fi, ca, fun w' hw => by rw [run_loadAt, run_loadVar1 ht (hw.cell (hb.cell0 hi))], hk⟩
theorem callX_of {P : Program} {h : Nat} {args args' : List Value} {r : RS} {w : World} {k : r.T → World → Prop} {fn : Func} (hf : P.funcs[h]? = some fn) (hp : plainF fn = true) (ha : args = args') (hc : call P h args' r w k) : callX P h args r w k := by
  unfold callX; rw [hf]; dsimp only; rw [hp]; subst ha; exact hc

theorem var_mk {P : Program} {e : TypeId} {z v : Value} {w : World} {k : Addr → World → Prop} (hz : zeroOf P e = some z) (hs : sizeIs P e v.cells.size = true) (hl : v.cells.size = z.cells.size) (hp : plainV v.cells.toList = true)
    (hk : ∀ a w', Box w' a v.cells.toList → bel w w' → a.block = w.heap.size → k a w') :
    wr P (Instr.alloc e true (.tuple #[])) (.one .addr) w fun x w1 => wu P (Instr.storeAt e (.pointer (some x)) v) w1 fun w2 => k x w2 := by
  refine wr_alloc hz fun a w1 Z h ha _ => ?_
  refine wu_box Z hs (by rw [hl]; simp) hp fun w2 Z hg _ => ?_
  have e2 : putAt z.cells.toList 0 v.cells.toList = v.cells.toList := by
    have key : ∀ (vs pre cs : List Value), cs.length = vs.length → putAt (pre ++ cs) pre.length vs = pre ++ vs := by
      intro vs
      induction vs with
      | nil => intro pre cs h; rw [List.eq_nil_of_length_eq_zero h]; rfl
      | cons x vs ih =>
        intro pre cs h
        cases cs with
        | nil => simp at h
        | cons c cs =>
          simp only [putAt]
          have h1 : (pre ++ c :: cs).set pre.length x = (pre ++ [x]) ++ cs := by simp
          rw [h1]
          have := ih (pre ++ [x]) cs (by simpa using h)
          simp only [List.length_append, List.length_cons, List.length_nil, Nat.zero_add] at this
          rw [this]; simp
    have := key v.cells.toList [] z.cells.toList (by simp [hl])
    simpa using this
  rw [e2] at Z
  exact hk _ _ Z (h.grownAt hg (by omega)) ha

def idxI {β : Type} (q : β → Bool) (ys : List β) : Int :=
  match ys.findIdx? q with
  | some i => (i : Int) | none => -1
theorem idxI_any {β : Type} (q : β → Bool) (ys : List β) : decide (idxI q ys ≥ 0) = ys.any q := by
  unfold idxI
  rw [← List.findIdx?_isSome]
  cases ys.findIdx? q with
  | none => rfl
  | some i => simp
theorem idx_loop {P : Program} {t e : TypeId} {vs : VS} {f : FuncId} {fargs : vs.T → List Value} {a : Option Addr} {n c : Nat} {R : Value → World → Prop} {w0 : World} {β : Type} (xs : List vs.T) (ys : List β) (q : β → Bool) (hn : xs.length = n) (hy : ys.length = n) (hm : n ≤ 9223372036854775807)
    (RD : ∀ (j : Nat) (x : vs.T), xs[j]? = some x → ∀ w', bel w0 w' → ∀ K : vs.T → Prop, K x → rdp P (Instr.indexAt t (.slice a n c) (.int .i64 (j : Int))) (.one .addr) fun ad => rd P (Instr.loadAt e (.pointer (some ad))) vs w' K)
    (CALL : ∀ (j : Nat) (x : vs.T) (y : β), xs[j]? = some x → ys[j]? = some y → ∀ w', bel w0 w' → call P f (fargs x) (.one (.one .bool)) w' fun b w'' => b = q y ∧ bel w' w'')
    (hk : ∀ w', bel w0 w' → R (.int .i64 (idxI q ys)) w') :
    loop (T := (Int × Unit)) (0, ()) w0 fun (again1 : (Int × Unit) → World → Prop) (s2 : (Int × Unit)) w3 => ∀ _ : Nat → Value,
      br (decide (s2.1 < ((n : Nat) : Int))) (rdp P (Instr.indexAt t (.slice a n c) (.int .i64 s2.1)) (.one .addr) fun (x4 : Addr) =>
      rd P (Instr.loadAt e (.pointer (some x4))) vs w3 fun x5 =>
      call P f (fargs x5) (.one (.one .bool)) w3 fun (x6 : Bool) (w7 : World) =>
      br x6 (R (.int .i64 s2.1) w7)
      (z (IntKind.wrap .i64 (s2.1 + 1)) fun (z8 : Int) =>
      again1 (z8, ()) w7))
      (R (.int .i64 (-1)) w3) := by
  refine loop_up n (fun i w' => bel w0 w' ∧ ∀ j, j < i → ∀ y, ys[j]? = some y → q y = false) ⟨bel.refl _, fun j h => by omega⟩ ?_
  rintro i w hi ⟨hb, hq⟩ again hag _
  refine br_dec (fun e => ?_) (fun e => ?_)
  · dsimp only at e
    have hi' : i < n := by omega
    have hx : xs[i]? = some (xs[i]'(by omega)) := List.getElem?_eq_getElem (by omega)
    have hy' : ys[i]? = some (ys[i]'(by omega)) := List.getElem?_eq_getElem (by omega)
    refine RD i _ hx w hb _ ?_
    refine call_mono (CALL i _ _ hx hy' w hb) ?_
    rintro b w2 ⟨rfl, hb2⟩
    refine br_mk (fun hq' => ?_) (fun hq' => ?_)
    · have : idxI q ys = (i : Int) := by
        unfold idxI
        rw [List.findIdx?_eq_some_iff_getElem.2 ⟨by omega, hq', fun j hj => by
          have := hq j hj _ (List.getElem?_eq_getElem (by omega))
          simp [this]⟩]
      rw [← this]
      exact hk _ (hb.trans hb2)
    · refine z_i64 (by dsimp only; omega) ?_
      refine hag _ hi' ⟨hb.trans hb2, fun j hj y hy2 => ?_⟩
      rcases Nat.lt_or_ge j i with h | h
      · exact hq j h y hy2
      · have : j = i := by omega
        subst this
        rw [hy'] at hy2; cases hy2; exact hq'
  · dsimp only at e
    have hi' : i = n := by omega
    have : idxI q ys = -1 := by
      unfold idxI
      rw [List.findIdx?_eq_none_iff.2 fun y hy' => by
        obtain ⟨j, hj, rfl⟩ := List.mem_iff_getElem.1 hy'
        exact hq j (by omega) _ (List.getElem?_eq_getElem hj)]
    rw [← this]
    exact hk _ hb
theorem idx_ints {P : Program} {t e : TypeId} {z0 : Value} {bytes : Nat} (TS : TyS P t e z0 1 bytes) (he : scal P e = true) {kk : IntKind} {f : FuncId} {fargs : Int → List Value} {a : Option Addr} {n c : Nat} {w0 : World} {xs : List Int} (H : Sl w0 a n c 1 (ints kk xs)) (q : Int → Bool)
    (CALL : ∀ (j : Nat) (x : Int), xs[j]? = some x → ∀ w', bel w0 w' → call P f (fargs x) (.one (.one .bool)) w' fun b w'' => b = q x ∧ bel w' w'') :
    loop (T := (Int × Unit)) (0, ()) w0 fun (again1 : (Int × Unit) → World → Prop) (s2 : (Int × Unit)) w3 => ∀ _ : Nat → Value,
      br (decide (s2.1 < ((n : Nat) : Int))) (rdp P (Instr.indexAt t (.slice a n c) (.int .i64 s2.1)) (.one .addr) fun (x4 : Addr) =>
      rd P (Instr.loadAt e (.pointer (some x4))) (.one (.int kk)) w3 fun (x5 : Int) =>
      call P f (fargs x5) (.one (.one .bool)) w3 fun (x6 : Bool) (w7 : World) =>
      br x6 ((fun (v : Value) (w' : World) => ∃ x : Int, v = (RS.one (.one (.int .i64))).val x ∧ x = idxI q xs ∧ bel w0 w') (.int .i64 s2.1) w7)
      (z (IntKind.wrap .i64 (s2.1 + 1)) fun (z8 : Int) =>
      again1 (z8, ()) w7))
      ((fun (v : Value) (w' : World) => ∃ x : Int, v = (RS.one (.one (.int .i64))).val x ∧ x = idxI q xs ∧ bel w0 w') (.int .i64 (-1)) w3) := by
  have hl := H.int
  refine idx_loop (R := (fun (v : Value) (w' : World) => ∃ x : Int, v = (RS.one (.one (.int .i64))).val x ∧ x = idxI q xs ∧ bel w0 w')) (vs := .one (.int kk)) (fargs := fargs) xs xs q hl hl H.le (fun j x hx w' hb K hk => ?_) (fun j x y hx hy w' hb => ?_) (fun w' hb => ⟨_, rfl, rfl, hb⟩)
  · have hx' : (xs : List Int)[j]? = some (x : Int) := hx
    exact at_int TS he (H.kept hb) rfl (by have := (List.getElem?_eq_some_iff.1 hx').1; omega) (fun y hy => by rw [hx'] at hy; cases hy; exact hk)
  · have hx' : (xs : List Int)[j]? = some (x : Int) := hx
    rw [hx'] at hy; cases hy
    exact CALL j x hx' w' hb
theorem idx_tab {P : Program} {t e : TypeId} {z0 : Value} {bytes : Nat} (TS : TyS P t e z0 1 bytes) (he : scal P e = true) {α : Type} {g : α → Value} {f : FuncId} {fargs : Hdr → List Value} {r : Hdr} {w0 : World} {T : List (List α)} (H : Tab g w0 r T) (q : List α → Bool)
    (CALL : ∀ (j : Nat) (x : Hdr) (y : List α), T[j]? = some y → Sl w0 x.1 x.2.1 x.2.2 1 (y.map g) → ∀ w', bel w0 w' → call P f (fargs x) (.one (.one .bool)) w' fun b w'' => b = q y ∧ bel w' w'') :
    loop (T := (Int × Unit)) (0, ()) w0 fun (again1 : (Int × Unit) → World → Prop) (s2 : (Int × Unit)) w3 => ∀ _ : Nat → Value,
      br (decide (s2.1 < ((r.2.1 : Nat) : Int))) (rdp P (Instr.indexAt t (.slice r.1 r.2.1 r.2.2) (.int .i64 s2.1)) (.one .addr) fun (x4 : Addr) =>
      rd P (Instr.loadAt e (.pointer (some x4))) (.one .slice) w3 fun (x5 : Option Addr × Nat × Nat) =>
      call P f (fargs x5) (.one (.one .bool)) w3 fun (x6 : Bool) (w7 : World) =>
      br x6 ((fun (v : Value) (w' : World) => ∃ x : Int, v = (RS.one (.one (.int .i64))).val x ∧ x = idxI q T ∧ bel w0 w') (.int .i64 s2.1) w7)
      (z (IntKind.wrap .i64 (s2.1 + 1)) fun (z8 : Int) =>
      again1 (z8, ()) w7))
      ((fun (v : Value) (w' : World) => ∃ x : Int, v = (RS.one (.one (.int .i64))).val x ∧ x = idxI q T ∧ bel w0 w') (.int .i64 (-1)) w3) := by
  obtain ⟨hs, h1, h2, h3⟩ := H.ex
  have hl : hs.length = r.2.1 := by have := h1.len; simpa using this
  refine idx_loop (R := (fun (v : Value) (w' : World) => ∃ x : Int, v = (RS.one (.one (.int .i64))).val x ∧ x = idxI q T ∧ bel w0 w')) (vs := .one .slice) (fargs := fargs) hs T q hl (by omega) h1.le (fun j x hx w' hb K hk => ?_) (fun j x y hx hy w' hb => ?_) (fun w' hb => ⟨_, rfl, rfl, hb⟩)
  · have hx' : (hs : List Hdr)[j]? = some (x : Hdr) := hx
    exact at_hdr TS he (h1.kept hb) rfl (by have := (List.getElem?_eq_some_iff.1 hx').1; omega) (fun y hy => by rw [hx'] at hy; cases hy; exact hk)
  · have hx' : (hs : List Hdr)[j]? = some (x : Hdr) := hx
    exact CALL j x y hy (h3 j x y hx' hy) w' hb
theorem idx_aggs {P : Program} {t e : TypeId} {z0 : Value} {sz bytes : Nat} (TS : TyS P t e z0 sz bytes) (ht : aggOf P e sz = true) {α : Type} {enc : α → List Value} (he : ∀ a, (enc a).length = sz) (h0 : 0 < sz) {l : List Sh} {dec : α → LT l} (hd : ∀ a, Lget l (enc a) = some (dec a)) {f : FuncId} {fargs : LT l → List Value} {a : Option Addr} {n c : Nat} {w0 : World} {L : List α} (H : Sl w0 a n c sz (L.flatMap enc)) (q : α → Bool)
    (CALL : ∀ (j : Nat) (x : α), L[j]? = some x → ∀ w', bel w0 w' → call P f (fargs (dec x)) (.one (.one .bool)) w' fun b w'' => b = q x ∧ bel w' w'') :
    loop (T := (Int × Unit)) (0, ()) w0 fun (again1 : (Int × Unit) → World → Prop) (s2 : (Int × Unit)) w3 => ∀ _ : Nat → Value,
      br (decide (s2.1 < ((n : Nat) : Int))) (rdp P (Instr.indexAt t (.slice a n c) (.int .i64 s2.1)) (.one .addr) fun (x4 : Addr) =>
      rd P (Instr.loadAt e (.pointer (some x4))) (.agg l) w3 fun (x5 : LT l) =>
      call P f (fargs x5) (.one (.one .bool)) w3 fun (x6 : Bool) (w7 : World) =>
      br x6 ((fun (v : Value) (w' : World) => ∃ x : Int, v = (RS.one (.one (.int .i64))).val x ∧ x = idxI q L ∧ bel w0 w') (.int .i64 s2.1) w7)
      (z (IntKind.wrap .i64 (s2.1 + 1)) fun (z8 : Int) =>
      again1 (z8, ()) w7))
      ((fun (v : Value) (w' : World) => ∃ x : Int, v = (RS.one (.one (.int .i64))).val x ∧ x = idxI q L ∧ bel w0 w') (.int .i64 (-1)) w3) := by
  have hl : L.length = n := by
    have := H.len
    rw [flat_len he] at this
    exact Nat.eq_of_mul_eq_mul_right h0 this
  refine idx_loop (R := (fun (v : Value) (w' : World) => ∃ x : Int, v = (RS.one (.one (.int .i64))).val x ∧ x = idxI q L ∧ bel w0 w')) (vs := .agg l) (fargs := fargs) (L.map dec) L q ((List.length_map ..).trans hl) hl H.le (fun j x hx w' hb K hk => ?_) (fun j x y hx hy w' hb => ?_) (fun w' hb => ⟨_, rfl, rfl, hb⟩)
  · have hx' : (L.map dec)[j]? = some x := hx
    rw [List.getElem?_map] at hx'
    cases hp : L[j]? with
    | none => rw [hp] at hx'; cases hx'
    | some p =>
      rw [hp] at hx'
      cases hx'
      exact at_agg TS ht he h0 (H.kept hb) rfl hp (hd p) hk
  · have hx' : (L.map dec)[j]? = some x := hx
    rw [List.getElem?_map, hy] at hx'
    cases hx'
    exact CALL j y hy w' hb
end Go.V

/- A block of one's own that others may write: relations for regions that tell their states. -/

namespace Go.V
open Go Go.RowKit Go.Q

abbrev Xg (b : Nat) : Rel := fun w w' => w.grownBy w' (some b)
theorem bel.xg {w w' : World} (h : bel w w') (b : Nat) : Xg b w w' := grown_of_bel h _
theorem Box.xg {w w' : World} {a : Addr} {cs : List Value} {b : Nat} (X : Box w a cs) (h : Xg b w w') (hne : a.block ≠ b) : Box w' a cs := X.grown h (by intro e; injection e; omega)
theorem _root_.Go.Q.Sl.xg {w w' : World} {a : Option Addr} {n c sz : Nat} {xs : List Value} {b : Nat} (S : Sl w a n c sz xs) (h : Xg b w w') (hne : ∀ ad, a = some ad → xs ≠ [] → ad.block ≠ b) : Sl w' a n c sz xs :=
  S.grown h fun ad ha hx e => hne ad ha hx (by injection e)
theorem Own.xg {w w' : World} {B : Nat} {e : TypeId} {sz : Nat} {a : Option Addr} {n c : Nat} {xs : List Value} {b : Nat} (O : Own w B e sz a n c xs) (h : Xg b w w') (hb : b < B) : Own w' B e sz a n c xs := by
  refine O.keptBy h ?_
  cases hk : blk a with
  | none => exact .inl rfl
  | some k => exact .inr fun q => by have := (O.lt k hk).1; injection q; omega
theorem rdE_box0 {P : Program} {E : Rel} {t : TypeId} {s : Sh} {w : World} {a : Addr} {cs : List Value} {v : Value} {x : s.T} {k : s.T → Prop} (ht : scal P t = true) (h : ∀ w', E w w' → Box w' a cs) (hi : cs[0]? = some v) (hx : s.get v = some x) (hk : k x) :
    rdE P E (Instr.loadAt t (.pointer (some a))) (.one s) w k := ⟨x, fun w' hw => by rw [run_loadAt, run_loadVar1 ht ((h w' hw).cell0 hi), Sh.get_spec hx]; rfl, hk⟩
theorem rdE_box {P : Program} {E : Rel} {t : TypeId} {s : Sh} {w : World} {a : Addr} {cs : List Value} {i : Nat} {v : Value} {x : s.T} {k : s.T → Prop} (ht : scal P t = true) (h : ∀ w', E w w' → Box w' a cs) (hi : cs[i]? = some v) (hx : s.get v = some x) (hk : k x) :
    rdE P E (Instr.loadAt t (.pointer (some (a.add i)))) (.one s) w k := ⟨x, fun w' hw => by rw [run_loadAt, run_loadVar1 ht ((h w' hw).cell hi), Sh.get_spec hx]; rfl, hk⟩
theorem flExC_mk {w0 : World} {B : Rel → (Nat → Rel) → ((Nat → Bool) → World → Prop) → Facts → Prop} (E : Rel) (G : Nat → Rel) (St : (Nat → Bool) → World → Prop) (Φ : Facts) (h1 : ∀ w, E w w) (h2 : ∀ a b c, E a b → E b c → E a c)
    (h3 : ∀ i j ags v w w', i ≠ j → Φ i ags v w → E w w' → G j w w' → Φ i ags v w') (h4 : St (fun _ => false) w0) (h5 : B E G St Φ) : flExC w0 B := ⟨E, G, St, Φ, h1, h2, h3, h4, h5⟩
theorem flcC_mk {St : (Nat → Bool) → World → Prop} {j : Nat} {E : Rel} {w0 : World} {pre : World → Prop} {ob : (Nat → Bool) → World → Prop} {T : Type} {nxt : T → Prop} (h1 : ∀ D w, D j = false → E w0 w → St D w → pre w → ob D w) (h2 : ∀ x, nxt x) : flcC St j E w0 pre ob nxt := ⟨h1, h2⟩
theorem flendC_mk {St : (Nat → Bool) → World → Prop} {L : List Nat} {E : Rel} {w0 : World} {pre k : World → Prop} (h : ∀ w, E w0 w → St (fun i => L.contains i) w → pre w → k w) : flendC St L E w0 pre k := h
theorem setD_self (D : Nat → Bool) (j : Nat) : setD D j j = true := by simp [setD]
theorem setD_ne {D : Nat → Bool} {i j : Nat} (h : i ≠ j) : setD D j i = D i := by simp [setD, h]
structure Xb (S : Nat → Prop) (w w' : World) : Prop where
  os : w'.os = w.os
  tape : w'.tape = w.tape
  output : w'.output = w.output
  size : w.heap.size ≤ w'.heap.size
  block : ∀ k, k < w.heap.size → ¬ S k → w'.heap[k]? = w.heap[k]?
theorem Xb.refl (S : Nat → Prop) (w : World) : Xb S w w := ⟨rfl, rfl, rfl, Nat.le_refl _, fun _ _ _ => rfl⟩
theorem Xb.trans {S : Nat → Prop} {a b c : World} (h : Xb S a b) (h' : Xb S b c) : Xb S a c :=
  ⟨h'.os.trans h.os, h'.tape.trans h.tape, h'.output.trans h.output, Nat.le_trans h.size h'.size, fun k hk hs => by rw [h'.block k (by have := h.size; omega) hs, h.block k hk hs]⟩
theorem Xb.of {S : Nat → Prop} {w w' : World} {o : Option Nat} (h : w.grownBy w' o) (ho : ∀ k, o = some k → S k) : Xb S w w' :=
  ⟨h.os, h.tape, h.output, h.size, fun k hk hs => h.block k hk (fun e => hs (ho k e.symm))⟩
theorem Xb.bel {S : Nat → Prop} {a w w' : World} (h : bel a w) (h' : Xb S w w') (hs : ∀ k, S k → a.heap.size ≤ k) : bel a w' :=
  ⟨h'.os.trans h.os, h'.tape.trans h.tape, h'.output.trans h.output, Nat.le_trans h.size h'.size, fun k hk => by rw [h'.block k (by have := h.size; omega) (fun q => by have := hs k q; omega), h.block k hk]⟩
theorem Xb.grown {S : Nat → Prop} {w w' : World} (h : Xb S w w') {o : Option Nat} (hs : ∀ k, S k → k < w.heap.size → o = some k) : w.grownBy w' o :=
  ⟨h.os, h.tape, h.output, h.size, fun k hk hne => h.block k hk fun q => hne (hs k q hk).symm⟩
theorem Xb.more {S S' : Nat → Prop} {a w w' : World} (h : Xb S a w) (h' : Xb S' w w') (hs : ∀ k, S' k → S k ∨ a.heap.size ≤ k) : Xb S a w' :=
  ⟨h'.os.trans h.os, h'.tape.trans h.tape, h'.output.trans h.output, Nat.le_trans h.size h'.size, fun k hk hn => by
    rw [h'.block k (by have := h.size; omega) (fun q => by
      rcases hs k q with q | q
      · exact hn q
      · omega), h.block k hk hn]⟩
theorem _root_.Go.Q.Sl.xb {S : Nat → Prop} {w w' : World} {a : Option Addr} {n c sz : Nat} {xs : List Value} (H : Sl w a n c sz xs) (hX : Xb S w w') (hne : ∀ ad, a = some ad → xs ≠ [] → ¬ S ad.block) : Sl w' a n c sz xs := by
  refine ⟨H.len, H.cap, H.most, H.nil', fun k u hu => ?_⟩
  obtain ⟨ad, q1, q2, q3⟩ := H.at' k u hu
  have hx : xs ≠ [] := by rintro rfl; simp at hu
  refine ⟨ad, q1, ?_, by have := hX.size; omega⟩
  have := hX.block ad.block q3 (hne ad q1 hx)
  unfold World.cell? at q2 ⊢
  rw [add_block] at q2 ⊢
  rw [this]; exact q2
theorem Box.xb {S : Nat → Prop} {w w' : World} {a : Addr} {cs : List Value} (X : Box w a cs) (hX : Xb S w w') (hne : ¬ S a.block) : Box w' a cs :=
  ⟨X.off, X.spot, by obtain ⟨T, hT⟩ := X.blk; exact ⟨T, by rw [hX.block _ X.lt hne]; exact hT⟩⟩
theorem Own.apart {w : World} {B B' : Nat} {e e' : TypeId} {sz sz' : Nat} {a a' : Option Addr} {n c n' c' : Nat} {xs ys : List Value} (h : Own w B e sz a n c xs) (h' : Own w B' e' sz' a' n' c' ys) (hne : e ≠ e') : ∀ k, blk a = some k → blk a' = some k → False := by
  intro k hk hk'
  obtain ⟨_, h2⟩ := h
  obtain ⟨_, h2'⟩ := h'
  rcases h2 with ⟨hv, _⟩ | ⟨g, cap, cur, hv, _, hh, _⟩
  · injection hv with ha; rw [ha] at hk; cases hk
  · rcases h2' with ⟨hv', _⟩ | ⟨g', cap', cur', hv', _, hh', _⟩
    · injection hv' with ha'; rw [ha'] at hk'; cases hk'
    · injection hv with ha
      injection hv' with ha'
      subst ha ha'
      have q1 : g = k := by simpa [blk] using hk
      have q2 : g' = k := by simpa [blk] using hk'
      subst q1
      subst q2
      rw [hh] at hh'
      injection hh' with hh'
      injection hh' with _ he _
      exact hne he
theorem xg_put {w w' w'' : World} {t : Nat} {o : Option Nat} (h : w.grownBy w' (some t)) (hg : w'.grownBy w'' o) (ho : ∀ k, o = some k → w.heap.size ≤ k ∨ k = t) : w.grownBy w'' (some t) :=
  ⟨hg.os.trans h.os, hg.tape.trans h.tape, hg.output.trans h.output, Nat.le_trans h.size hg.size, fun k hk hne => by
    rw [hg.block k (by have := h.size; omega) (fun e => by
      rcases ho k e.symm with q | q
      · omega
      · exact hne (by rw [q])), h.block k hk hne]⟩
end Go.V

/- copy, and regions with a relation. -/


namespace Go.V
open Go Go.RowKit Go.Q

theorem putAt_at : ∀ (vs pre cs : List Value), vs.length ≤ cs.length → putAt (pre ++ cs) pre.length vs = pre ++ vs ++ cs.drop vs.length
  | [], pre, cs, _ => by simp [putAt]
  | v :: vs, pre, [], h => by simp at h
  | v :: vs, pre, c :: cs, h => by
    simp only [putAt]
    have h1 : (pre ++ c :: cs).set pre.length v = (pre ++ [v]) ++ cs := by simp
    rw [h1]
    have := putAt_at vs (pre ++ [v]) cs (by simpa using h)
    simp only [List.length_append, List.length_cons, List.length_nil, Nat.zero_add] at this
    rw [this]; simp
theorem flExE_mk {B : Rel → Facts → Prop} (E : Rel) (Φ : Facts) (h1 : ∀ w, E w w) (h2 : ∀ a b c, E a b → E b c → E a c) (h3 : ∀ i ags v w w', Φ i ags v w → E w w' → Φ i ags v w') (h4 : B E Φ) : flExE B := ⟨E, Φ, h1, h2, h3, h4⟩
end Go.V

/- Elements of several cells are stored in rows of one's own. -/

namespace Go.V
open Go Go.RowKit Go.Q

theorem run_storeOwnA {P : Program} {B sz : Nat} {e : TypeId} {ad : Addr} {n c : Nat} : ∀ (vs : List Value) (i : Nat) (w : World) (xs : List Value), Own w B e sz (some ad) n c xs → i + vs.length ≤ xs.length → plainV vs = true →
    ∃ w', (storeCells ad vs i).run P w = .ok () w' ∧ Own w' B e sz (some ad) n c (putAt xs i vs) ∧ w.grownBy w' (some ad.block) ∧ w'.heap.size = w.heap.size
  | [], i, w, xs, hb, _, _ => ⟨w, rfl, hb, grown_refl _ _, rfl⟩
  | v :: vs, i, w, xs, hb, hl, hp => by
    simp only [plainV, List.all_cons, Bool.and_eq_true] at hp
    simp only [List.length_cons] at hl
    obtain ⟨u, hu⟩ : ∃ u, xs[i]? = some u := ⟨_, List.getElem?_eq_getElem (by omega)⟩
    obtain ⟨ad', h1, hc, hfz, _⟩ := hb.cell (j := i) hu
    cases h1
    obtain ⟨w', h1, h2, h3, h4⟩ := run_storeOwnA (P := P) vs (i + 1) (w.setCell (ad.add i) v) (xs.set i v) (hb.set i v) (by simp; omega) hp.2
    refine ⟨w', ?_, h2, ?_, by rw [h4, setCell_size]⟩
    · simp only [storeCells, Sem.run_bind]
      rw [run_store P w (ad.add i) v .plain hp.1, hc]
      simp only [hfz, Bool.false_eq_true, if_false, Result.andThen_ok, h1]
    · refine World.grownBy.trans ?_ h3
      have := setCell_grown w (ad.add i) v
      rwa [add_block] at this
theorem flat_set {α : Type} {enc : α → List Value} {sz : Nat} (he : ∀ a, (enc a).length = sz) (p : α) : ∀ (L : List α) (j : Nat), j < L.length → putAt (L.flatMap enc) (j * sz) (enc p) = (L.set j p).flatMap enc := by
  intro L j hj
  have h1 : L.flatMap enc = (L.take j).flatMap enc ++ (enc L[j] ++ (L.drop (j + 1)).flatMap enc) := by
    conv => lhs; rw [← List.take_append_drop j L, List.drop_eq_getElem_cons hj]
    rw [List.flatMap_append, List.flatMap_cons]
  have h2 : (L.set j p).flatMap enc = (L.take j).flatMap enc ++ (enc p ++ (L.drop (j + 1)).flatMap enc) := by
    rw [List.set_eq_take_append_cons_drop, if_pos hj, List.flatMap_append, List.flatMap_cons]
  have h3 : ((L.take j).flatMap enc).length = j * sz := by rw [flat_len he, List.length_take, Nat.min_eq_left (by omega)]
  rw [h1, h2, ← h3, putAt_at _ _ _ (by rw [List.length_append, he, he]; omega), List.drop_append_of_le_length (by rw [he, he]; omega), List.drop_of_length_le (by rw [he, he]; omega), List.nil_append, List.append_assoc]
theorem set_agg {P : Program} {t e : TypeId} {z : Value} {sz bytes : Nat} (T : TyS P t e z sz bytes) {α : Type} {enc : α → List Value} (he : ∀ a, (enc a).length = sz) {w : World} {B : Nat} {a : Option Addr} {n c j : Nat} {L : List α} (O : Own w B e sz a n c (L.flatMap enc)) {k : IntKind} {i : Int} {v : Value} {p : α} {K : World → Prop}
    (hj : i = (j : Int)) (hn : j < L.length) (hv : v.cells.toList = enc p) (h0 : 0 < sz) (hp : plainV (enc p) = true)
    (hk : ∀ w', Own w' B e sz a n c ((L.set j p).flatMap enc) → w.grownBy w' (blk a) → w'.heap.size = w.heap.size → K w') :
    rdp P (Instr.indexAt t (.slice a n c) (.int k i)) (.one .addr) fun ad => wu P (Instr.storeAt e (.pointer (some ad)) v) w K := by
  have hlen := O.1
  rw [flat_len he] at hlen
  have hL : L.length = n := Nat.eq_of_mul_eq_mul_right h0 hlen
  have hjs : j * sz + sz ≤ (L.flatMap enc).length := by
    rw [flat_len he]
    have : (j + 1) * sz ≤ L.length * sz := Nat.mul_le_mul_right _ hn
    rw [Nat.add_mul, Nat.one_mul] at this; exact this
  obtain ⟨u, hu⟩ : ∃ u, (L.flatMap enc)[j * sz]? = some u := ⟨_, List.getElem?_eq_getElem (by omega)⟩
  obtain ⟨ad, h1, _⟩ := O.cell (j := j * sz) hu
  subst h1
  refine idx_mk T hj (by omega) rfl ?_
  have hvs : v.cells.size = sz := by rw [← Array.length_toList, hv, he]
  have ht : sizeIs P e v.cells.size = true := by
    obtain ⟨i, h1, _, h2, _⟩ := info_parts T.hi
    unfold sizeIs; rw [h1, hvs]; simp [h2]
  obtain ⟨w', h1, h2, h3, h4⟩ := run_storeOwnA (P := P) v.cells.toList (j * sz) w _ O (by rw [hv, he]; exact hjs) (by rw [hv]; exact hp)
  rw [hv, flat_set he p L j hn] at h2
  refine ⟨w', ?_, hk w' h2 h3 h4⟩
  unfold Instr.storeAt Instr.sureAddr storeVar
  simp only [Sem.run_bind, Sem.run_pure, Result.andThen_ok, run_sizeOf ht]
  simp only [ne_eq, not_true_eq_false, if_false]
  rw [storeCells_add]; exact h1
theorem made_flat {α : Type} {enc : α → List Value} {sz : Nat} (he : ∀ a, (enc a).length = sz) (h0 : 0 < sz) (p : α) (cs : Array Value) (hc : cs.toList = enc p) (n : Nat) : (madeCells cs (n * sz)).toList = (List.replicate n p).flatMap enc := by
  refine List.ext_getElem? fun i => ?_
  have hcs : cs.size = sz := by rw [← Array.length_toList, hc, he]
  by_cases hi : i < n * sz
  · have h1 : (List.replicate n p)[i / sz]? = some p := by rw [List.getElem?_replicate, if_pos (Nat.div_lt_of_lt_mul (by rw [Nat.mul_comm]; exact hi))]
    have := flat_get he h1 (Nat.mod_lt i h0)
    rw [Nat.div_add_mod'] at this
    rw [this, ← hc]
    have hm : i % sz < cs.size := by rw [hcs]; exact Nat.mod_lt i h0
    simp [madeCells, hi, hcs]
    rw [getElem!_pos cs _ hm, Array.getElem?_eq_getElem hm]
  · rw [List.getElem?_eq_none (by rw [Array.length_toList, size_madeCells]; omega), List.getElem?_eq_none (by rw [flat_len he, List.length_replicate]; omega)]
end Go.V

/- The conditions of functions, printed by our tool; each is checked against the code by the kernel. -/



namespace Go.Proofs
open Go Go.V Go.RowKit
def S80 (n_ : Int) (most_ : Int) (w0 : World) (R : Value → World → Prop) : Prop :=
 z (IntKind.wrap .i64 (0 - most_)) fun (z1 : Int) =>
 br (decide (n_ ≥ z1)) (R (.bool (decide (n_ ≤ most_))) w0)
 (R (.bool false) w0)
def H80 : Hints := ⟨[], [], [], []⟩
set_option maxRecDepth 100000 in
theorem S80_eq (n_ : Int) (most_ : Int) (w0 : World) (R : Value → World → Prop) : vcFn Try.prog H80 Try.f80 [(.int .i64 n_), (.int .i64 most_)] w0 R = S80 n_ most_ w0 R := by kernel_rfl
set_option maxRecDepth 100000 in
theorem S80_calls (n_ : Int) (most_ : Int) (w0 : World) (R : Value → World → Prop) (h : S80 n_ most_ w0 R) : Calls Try.prog 80 #[(.int .i64 n_), (.int .i64 most_)] w0 (ret R) := by
  rw [← S80_eq] at h; exact vcFn_sound follows_ Try.func80 h

def S31 (s_0a : Option Addr) (s_0n : Nat) (s_0c : Nat) (s_1a : Option Addr) (s_1n : Nat) (s_1c : Nat) (s_2a : Option Addr) (s_2n : Nat) (s_2c : Nat) (w0 : World) (R : Value → World → Prop) : Prop :=
 wr Try.prog (Instr.box 43 (.agg #[(.slice s_0a s_0n s_0c), (.slice s_1a s_1n s_1c), (.slice s_2a s_2n s_2c)])) (.one .addr) w0 fun (x1 : Addr) w2 =>
 rd Try.prog (Instr.loadAt 40 (.pointer (some x1))) (.one .slice) w2 fun (x3 : Hd3) =>
 br (decide (((x3.2.1 : Nat) : Int) > 200)) (R (.int .i64 8) w2)
 (rd Try.prog (Instr.loadAt 41 (.pointer (some (Addr.add x1 1)))) (.one .slice) w2 fun (x4 : Hd3) =>
 br (decide (((x4.2.1 : Nat) : Int) > 100)) (R (.int .i64 8) w2)
 (loop (T := (Int × Unit)) (0, ()) w2 fun (again5 : (Int × Unit) → World → Prop) (s6 : (Int × Unit)) w7 => ∀ _ : Nat → Value,
 rd Try.prog (Instr.loadAt 40 (.pointer (some x1))) (.one .slice) w7 fun (x8 : Hd3) =>
 br (decide (s6.1 < ((x8.2.1 : Nat) : Int))) (rd Try.prog (Instr.loadAt 40 (.pointer (some x1))) (.one .slice) w7 fun (x9 : Hd3) =>
 rdp Try.prog (Instr.indexAt 40 (.slice x9.1 x9.2.1 x9.2.2) (.int .i64 s6.1)) (.one .addr) fun (x10 : Addr) =>
 rd Try.prog (Instr.loadAt 2 (.pointer (some x10))) (.one (.int .i64)) w7 fun (x11 : Int) =>
 br (decide (x11 < 0)) (R (.int .i64 8) w7)
 (rd Try.prog (Instr.loadAt 40 (.pointer (some x1))) (.one .slice) w7 fun (x12 : Hd3) =>
 rdp Try.prog (Instr.indexAt 40 (.slice x12.1 x12.2.1 x12.2.2) (.int .i64 s6.1)) (.one .addr) fun (x13 : Addr) =>
 rd Try.prog (Instr.loadAt 2 (.pointer (some x13))) (.one (.int .i64)) w7 fun (x14 : Int) =>
 br (decide (x14 > 1000000000)) (R (.int .i64 8) w7)
 (z (IntKind.wrap .i64 (s6.1 + 1)) fun (z15 : Int) =>
 again5 (z15, ()) w7)))
 (loop (T := (Int × Unit)) (0, ()) w7 fun (again16 : (Int × Unit) → World → Prop) (s17 : (Int × Unit)) w18 => ∀ _ : Nat → Value,
 rd Try.prog (Instr.loadAt 40 (.pointer (some (Addr.add x1 2)))) (.one .slice) w18 fun (x19 : Hd3) =>
 br (decide (s17.1 < ((x19.2.1 : Nat) : Int))) (rd Try.prog (Instr.loadAt 40 (.pointer (some (Addr.add x1 2)))) (.one .slice) w18 fun (x20 : Hd3) =>
 rdp Try.prog (Instr.indexAt 40 (.slice x20.1 x20.2.1 x20.2.2) (.int .i64 s17.1)) (.one .addr) fun (x21 : Addr) =>
 rd Try.prog (Instr.loadAt 2 (.pointer (some x21))) (.one (.int .i64)) w18 fun (x22 : Int) =>
 call Try.prog 80 [(.int .i64 x22), (.int .i64 1000000000)] (.one (.one .bool)) w18 fun (x23 : Bool) w24 =>
 br (!x23) (R (.int .i64 8) w24)
 (z (IntKind.wrap .i64 (s17.1 + 1)) fun (z25 : Int) =>
 again16 (z25, ()) w24))
 (loop (T := (Int × Unit)) (0, ()) w18 fun (again26 : (Int × Unit) → World → Prop) (s27 : (Int × Unit)) w28 => ∀ _ : Nat → Value,
 rd Try.prog (Instr.loadAt 41 (.pointer (some (Addr.add x1 1)))) (.one .slice) w28 fun (x29 : Hd3) =>
 br (decide (s27.1 < ((x29.2.1 : Nat) : Int))) (loop (T := (Int × Unit)) (0, ()) w28 fun (again30 : (Int × Unit) → World → Prop) (s31 : (Int × Unit)) w32 => ∀ _ : Nat → Value,
 rd Try.prog (Instr.loadAt 41 (.pointer (some (Addr.add x1 1)))) (.one .slice) w32 fun (x33 : Hd3) =>
 rdp Try.prog (Instr.indexAt 41 (.slice x33.1 x33.2.1 x33.2.2) (.int .i64 s27.1)) (.one .addr) fun (x34 : Addr) =>
 rd Try.prog (Instr.loadAt 40 (.pointer (some x34))) (.one .slice) w32 fun (x35 : Hd3) =>
 br (decide (s31.1 < ((x35.2.1 : Nat) : Int))) (rd Try.prog (Instr.loadAt 41 (.pointer (some (Addr.add x1 1)))) (.one .slice) w32 fun (x36 : Hd3) =>
 rdp Try.prog (Instr.indexAt 41 (.slice x36.1 x36.2.1 x36.2.2) (.int .i64 s27.1)) (.one .addr) fun (x37 : Addr) =>
 rd Try.prog (Instr.loadAt 40 (.pointer (some x37))) (.one .slice) w32 fun (x38 : Hd3) =>
 rdp Try.prog (Instr.indexAt 40 (.slice x38.1 x38.2.1 x38.2.2) (.int .i64 s31.1)) (.one .addr) fun (x39 : Addr) =>
 rd Try.prog (Instr.loadAt 2 (.pointer (some x39))) (.one (.int .i64)) w32 fun (x40 : Int) =>
 call Try.prog 80 [(.int .i64 x40), (.int .i64 1000000)] (.one (.one .bool)) w32 fun (x41 : Bool) w42 =>
 br (!x41) (R (.int .i64 8) w42)
 (z (IntKind.wrap .i64 (s31.1 + 1)) fun (z43 : Int) =>
 again30 (z43, ()) w42))
 (z (IntKind.wrap .i64 (s27.1 + 1)) fun (z44 : Int) =>
 again26 (z44, ()) w32))
 (rd Try.prog (Instr.loadAt 40 (.pointer (some (Addr.add x1 2)))) (.one .slice) w28 fun (x45 : Hd3) =>
 rd Try.prog (Instr.loadAt 41 (.pointer (some (Addr.add x1 1)))) (.one .slice) w28 fun (x46 : Hd3) =>
 br (((x45.2.1 : Nat) : Int) != ((x46.2.1 : Nat) : Int)) (R (.int .i64 9) w28)
 (loop (T := (Int × Unit)) (0, ()) w28 fun (again47 : (Int × Unit) → World → Prop) (s48 : (Int × Unit)) w49 => ∀ _ : Nat → Value,
 rd Try.prog (Instr.loadAt 41 (.pointer (some (Addr.add x1 1)))) (.one .slice) w49 fun (x50 : Hd3) =>
 br (decide (s48.1 < ((x50.2.1 : Nat) : Int))) (drw w49 fun w51 =>
 rd Try.prog (Instr.loadAt 41 (.pointer (some (Addr.add x1 1)))) (.one .slice) w51 fun (x52 : Hd3) =>
 rdp Try.prog (Instr.indexAt 41 (.slice x52.1 x52.2.1 x52.2.2) (.int .i64 s48.1)) (.one .addr) fun (x53 : Addr) =>
 rd Try.prog (Instr.loadAt 40 (.pointer (some x53))) (.one .slice) w51 fun (x54 : Hd3) =>
 rd Try.prog (Instr.loadAt 40 (.pointer (some x1))) (.one .slice) w51 fun (x55 : Hd3) =>
 br (((x54.2.1 : Nat) : Int) != ((x55.2.1 : Nat) : Int)) (R (.int .i64 9) w51)
 (z (IntKind.wrap .i64 (s48.1 + 1)) fun (z56 : Int) =>
 again47 (z56, ()) w51))
 (R (.int .i64 0) w49)))))))
def H31 : Hints := ⟨[(2, 0, [(3, (.one (.int .i64)))]), (2, 2, [(4, (.one (.int .i64)))]), (2, 4, [(5, (.one (.int .i64)))]), (2, 6, [(6, (.one (.int .i64)))]), (2, 8, [(7, (.one (.int .i64)))])], [(26, 9)], [], []⟩
set_option maxRecDepth 100000 in
theorem S31_eq (s_0a : Option Addr) (s_0n : Nat) (s_0c : Nat) (s_1a : Option Addr) (s_1n : Nat) (s_1c : Nat) (s_2a : Option Addr) (s_2n : Nat) (s_2c : Nat) (w0 : World) (R : Value → World → Prop) : vcFn Try.prog H31 Try.f31 [(.agg #[(.slice s_0a s_0n s_0c), (.slice s_1a s_1n s_1c), (.slice s_2a s_2n s_2c)])] w0 R = S31 s_0a s_0n s_0c s_1a s_1n s_1c s_2a s_2n s_2c w0 R := by kernel_rfl
set_option maxRecDepth 100000 in
theorem S31_calls (s_0a : Option Addr) (s_0n : Nat) (s_0c : Nat) (s_1a : Option Addr) (s_1n : Nat) (s_1c : Nat) (s_2a : Option Addr) (s_2n : Nat) (s_2c : Nat) (w0 : World) (R : Value → World → Prop) (h : S31 s_0a s_0n s_0c s_1a s_1n s_1c s_2a s_2n s_2c w0 R) : Calls Try.prog 31 #[(.agg #[(.slice s_0a s_0n s_0c), (.slice s_1a s_1n s_1c), (.slice s_2a s_2n s_2c)])] w0 (ret R) := by
  rw [← S31_eq] at h; exact vcFn_sound follows_ Try.func31 h

def S76 (n_ : Int) (low_ : Int) (high_ : Int) (w0 : World) (R : Value → World → Prop) : Prop :=
 br (decide (n_ < low_)) (R (.bool true) w0)
 (R (.bool (decide (n_ > high_))) w0)
def H76 : Hints := ⟨[], [], [], []⟩
set_option maxRecDepth 100000 in
theorem S76_eq (n_ : Int) (low_ : Int) (high_ : Int) (w0 : World) (R : Value → World → Prop) : vcFn Try.prog H76 Try.f76 [(.int .i64 n_), (.int .i64 low_), (.int .i64 high_)] w0 R = S76 n_ low_ high_ w0 R := by kernel_rfl
set_option maxRecDepth 100000 in
theorem S76_calls (n_ : Int) (low_ : Int) (high_ : Int) (w0 : World) (R : Value → World → Prop) (h : S76 n_ low_ high_ w0 R) : Calls Try.prog 76 #[(.int .i64 n_), (.int .i64 low_), (.int .i64 high_)] w0 (ret R) := by
  rw [← S76_eq] at h; exact vcFn_sound follows_ Try.func76 h

def S75 (n_ : Int) (cap0 : Addr) (cap1 : Addr) (w0 : World) (R : Value → World → Prop) : Prop :=
 rd Try.prog (Instr.loadAt 2 (.pointer (some cap0))) (.one (.int .i64)) w0 fun (x1 : Int) =>
 rd Try.prog (Instr.loadAt 2 (.pointer (some cap1))) (.one (.int .i64)) w0 fun (x2 : Int) =>
 call Try.prog 76 [(.int .i64 n_), (.int .i64 x1), (.int .i64 x2)] (.one (.one .bool)) w0 fun (x3 : Bool) w4 =>
 R (.bool x3) w4
def H75 : Hints := ⟨[], [], [], []⟩
set_option maxRecDepth 100000 in
theorem S75_eq (n_ : Int) (cap0 : Addr) (cap1 : Addr) (w0 : World) (R : Value → World → Prop) : vcFn Try.prog H75 Try.f75 [(.int .i64 n_), (.pointer (some cap0)), (.pointer (some cap1))] w0 R = S75 n_ cap0 cap1 w0 R := by kernel_rfl
set_option maxRecDepth 100000 in
theorem S75_calls (n_ : Int) (cap0 : Addr) (cap1 : Addr) (w0 : World) (R : Value → World → Prop) (h : S75 n_ cap0 cap1 w0 R) : Calls Try.prog 75 #[(.int .i64 n_), (.pointer (some cap0)), (.pointer (some cap1))] w0 (ret R) := by
  rw [← S75_eq] at h; exact vcFn_sound follows_ Try.func75 h

def S112a (s_a : Option Addr) (s_n : Nat) (s_c : Nat) (cap1_0 : Addr) (cap1_1 : Addr) (w0 : World) (R : Value → World → Prop) : Prop :=
 loop (T := (Int × Unit)) (0, ()) w0 fun (again1 : (Int × Unit) → World → Prop) (s2 : (Int × Unit)) w3 => ∀ _ : Nat → Value,
 br (decide (s2.1 < ((s_n : Nat) : Int))) (rdp Try.prog (Instr.indexAt 40 (.slice s_a s_n s_c) (.int .i64 s2.1)) (.one .addr) fun (x4 : Addr) =>
 rd Try.prog (Instr.loadAt 2 (.pointer (some x4))) (.one (.int .i64)) w3 fun (x5 : Int) =>
 call Try.prog 75 [(.int .i64 x5), (.pointer (some cap1_0)), (.pointer (some cap1_1))] (.one (.one .bool)) w3 fun (x6 : Bool) w7 =>
 br x6 (R (.int .i64 s2.1) w7)
 (z (IntKind.wrap .i64 (s2.1 + 1)) fun (z8 : Int) =>
 again1 (z8, ()) w7))
 (R (.int .i64 (-1)) w3)
def H112a : Hints := ⟨[(2, 0, [(8, (.one (.int .i64)))])], [], [], []⟩
set_option maxRecDepth 100000 in
theorem S112a_eq (s_a : Option Addr) (s_n : Nat) (s_c : Nat) (cap1_0 : Addr) (cap1_1 : Addr) (w0 : World) (R : Value → World → Prop) : vcFn Try.prog H112a Try.f112 [(.slice s_a s_n s_c), (.func (.func 75) #[] #[(.pointer (some cap1_0)), (.pointer (some cap1_1))])] w0 R = S112a s_a s_n s_c cap1_0 cap1_1 w0 R := by kernel_rfl
set_option maxRecDepth 100000 in
theorem S112a_calls (s_a : Option Addr) (s_n : Nat) (s_c : Nat) (cap1_0 : Addr) (cap1_1 : Addr) (w0 : World) (R : Value → World → Prop) (h : S112a s_a s_n s_c cap1_0 cap1_1 w0 R) : Calls Try.prog 112 #[(.slice s_a s_n s_c), (.func (.func 75) #[] #[(.pointer (some cap1_0)), (.pointer (some cap1_1))])] w0 (ret R) := by
  rw [← S112a_eq] at h; exact vcFn_sound follows_ Try.func112 h

def S74a (s_a : Option Addr) (s_n : Nat) (s_c : Nat) (cap1_0 : Addr) (cap1_1 : Addr) (w0 : World) (R : Value → World → Prop) : Prop :=
 call Try.prog 112 [(.slice s_a s_n s_c), (.func (.func 75) #[] #[(.pointer (some cap1_0)), (.pointer (some cap1_1))])] (.one (.one (.int .i64))) w0 fun (x1 : Int) w2 =>
 R (.bool (decide (x1 ≥ 0))) w2
def H74a : Hints := ⟨[], [], [], []⟩
set_option maxRecDepth 100000 in
theorem S74a_eq (s_a : Option Addr) (s_n : Nat) (s_c : Nat) (cap1_0 : Addr) (cap1_1 : Addr) (w0 : World) (R : Value → World → Prop) : vcFn Try.prog H74a Try.f74 [(.slice s_a s_n s_c), (.func (.func 75) #[] #[(.pointer (some cap1_0)), (.pointer (some cap1_1))])] w0 R = S74a s_a s_n s_c cap1_0 cap1_1 w0 R := by kernel_rfl
set_option maxRecDepth 100000 in
theorem S74a_calls (s_a : Option Addr) (s_n : Nat) (s_c : Nat) (cap1_0 : Addr) (cap1_1 : Addr) (w0 : World) (R : Value → World → Prop) (h : S74a s_a s_n s_c cap1_0 cap1_1 w0 R) : Calls Try.prog 74 #[(.slice s_a s_n s_c), (.func (.func 75) #[] #[(.pointer (some cap1_0)), (.pointer (some cap1_1))])] w0 (ret R) := by
  rw [← S74a_eq] at h; exact vcFn_sound follows_ Try.func74 h

def S73 (l_a : Option Addr) (l_n : Nat) (l_c : Nat) (low_ : Int) (high_ : Int) (w0 : World) (R : Value → World → Prop) : Prop :=
 wr Try.prog (Instr.box 2 (.int .i64 low_)) (.one .addr) w0 fun (x1 : Addr) w2 =>
 wr Try.prog (Instr.box 2 (.int .i64 high_)) (.one .addr) w2 fun (x3 : Addr) w4 =>
 call Try.prog 74 [(.slice l_a l_n l_c), (.func (.func 75) #[] #[(.pointer (some x1)), (.pointer (some x3))])] (.one (.one .bool)) w4 fun (x5 : Bool) w6 =>
 R (.bool x5) w6
def H73 : Hints := ⟨[], [], [], []⟩
set_option maxRecDepth 100000 in
theorem S73_eq (l_a : Option Addr) (l_n : Nat) (l_c : Nat) (low_ : Int) (high_ : Int) (w0 : World) (R : Value → World → Prop) : vcFn Try.prog H73 Try.f73 [(.slice l_a l_n l_c), (.int .i64 low_), (.int .i64 high_)] w0 R = S73 l_a l_n l_c low_ high_ w0 R := by kernel_rfl
set_option maxRecDepth 100000 in
theorem S73_calls (l_a : Option Addr) (l_n : Nat) (l_c : Nat) (low_ : Int) (high_ : Int) (w0 : World) (R : Value → World → Prop) (h : S73 l_a l_n l_c low_ high_ w0 R) : Calls Try.prog 73 #[(.slice l_a l_n l_c), (.int .i64 low_), (.int .i64 high_)] w0 (ret R) := by
  rw [← S73_eq] at h; exact vcFn_sound follows_ Try.func73 h

def S78 (r_a : Option Addr) (r_n : Nat) (r_c : Nat) (cap0 : Addr) (w0 : World) (R : Value → World → Prop) : Prop :=
 rdF Try.prog bel (Instr.loadAt 100 (.pointer (some cap0))) w0 fun (h1 : Nat) (h1f h1c : Array Value) =>
 callX Try.prog h1 (h1f ++ (#[(.slice r_a r_n r_c), (.int .i64 (-1000000)), (.int .i64 1000000)] : Array Value) ++ h1c).toList (.one (.one .bool)) w0 fun (x2 : Bool) w3 =>
 R (.bool x2) w3
def H78 : Hints := ⟨[], [], [], []⟩
set_option maxRecDepth 100000 in
theorem S78_eq (r_a : Option Addr) (r_n : Nat) (r_c : Nat) (cap0 : Addr) (w0 : World) (R : Value → World → Prop) : vcFn Try.prog H78 Try.f78 [(.slice r_a r_n r_c), (.pointer (some cap0))] w0 R = S78 r_a r_n r_c cap0 w0 R := by kernel_rfl
set_option maxRecDepth 100000 in
theorem S78_calls (r_a : Option Addr) (r_n : Nat) (r_c : Nat) (cap0 : Addr) (w0 : World) (R : Value → World → Prop) (h : S78 r_a r_n r_c cap0 w0 R) : Calls Try.prog 78 #[(.slice r_a r_n r_c), (.pointer (some cap0))] w0 (ret R) := by
  rw [← S78_eq] at h; exact vcFn_sound follows_ Try.func78 h

def S79 (_r_a : Option Addr) (r_n : Nat) (_r_c : Nat) (cap0 : Addr) (w0 : World) (R : Value → World → Prop) : Prop :=
 rd Try.prog (Instr.loadAt 40 (.pointer (some cap0))) (.one .slice) w0 fun (x1 : Hd3) =>
 R (.bool (((r_n : Nat) : Int) != ((x1.2.1 : Nat) : Int))) w0
def H79 : Hints := ⟨[], [], [], []⟩
set_option maxRecDepth 100000 in
theorem S79_eq (r_a : Option Addr) (r_n : Nat) (r_c : Nat) (cap0 : Addr) (w0 : World) (R : Value → World → Prop) : vcFn Try.prog H79 Try.f79 [(.slice r_a r_n r_c), (.pointer (some cap0))] w0 R = S79 r_a r_n r_c cap0 w0 R := by kernel_rfl
set_option maxRecDepth 100000 in
theorem S79_calls (r_a : Option Addr) (r_n : Nat) (r_c : Nat) (cap0 : Addr) (w0 : World) (R : Value → World → Prop) (h : S79 r_a r_n r_c cap0 w0 R) : Calls Try.prog 79 #[(.slice r_a r_n r_c), (.pointer (some cap0))] w0 (ret R) := by
  rw [← S79_eq] at h; exact vcFn_sound follows_ Try.func79 h

def S113b (s_a : Option Addr) (s_n : Nat) (s_c : Nat) (cap1_0 : Addr) (w0 : World) (R : Value → World → Prop) : Prop :=
 loop (T := (Int × Unit)) (0, ()) w0 fun (again1 : (Int × Unit) → World → Prop) (s2 : (Int × Unit)) w3 => ∀ _ : Nat → Value,
 br (decide (s2.1 < ((s_n : Nat) : Int))) (rdp Try.prog (Instr.indexAt 41 (.slice s_a s_n s_c) (.int .i64 s2.1)) (.one .addr) fun (x4 : Addr) =>
 rd Try.prog (Instr.loadAt 40 (.pointer (some x4))) (.one .slice) w3 fun (x5 : Hd3) =>
 call Try.prog 78 [(.slice x5.1 x5.2.1 x5.2.2), (.pointer (some cap1_0))] (.one (.one .bool)) w3 fun (x6 : Bool) w7 =>
 br x6 (R (.int .i64 s2.1) w7)
 (z (IntKind.wrap .i64 (s2.1 + 1)) fun (z8 : Int) =>
 again1 (z8, ()) w7))
 (R (.int .i64 (-1)) w3)
def H113b : Hints := ⟨[(2, 0, [(8, (.one (.int .i64)))])], [], [], []⟩
set_option maxRecDepth 100000 in
theorem S113b_eq (s_a : Option Addr) (s_n : Nat) (s_c : Nat) (cap1_0 : Addr) (w0 : World) (R : Value → World → Prop) : vcFn Try.prog H113b Try.f113 [(.slice s_a s_n s_c), (.func (.func 78) #[] #[(.pointer (some cap1_0))])] w0 R = S113b s_a s_n s_c cap1_0 w0 R := by kernel_rfl
set_option maxRecDepth 100000 in
theorem S113b_calls (s_a : Option Addr) (s_n : Nat) (s_c : Nat) (cap1_0 : Addr) (w0 : World) (R : Value → World → Prop) (h : S113b s_a s_n s_c cap1_0 w0 R) : Calls Try.prog 113 #[(.slice s_a s_n s_c), (.func (.func 78) #[] #[(.pointer (some cap1_0))])] w0 (ret R) := by
  rw [← S113b_eq] at h; exact vcFn_sound follows_ Try.func113 h

def S77b (s_a : Option Addr) (s_n : Nat) (s_c : Nat) (cap1_0 : Addr) (w0 : World) (R : Value → World → Prop) : Prop :=
 call Try.prog 113 [(.slice s_a s_n s_c), (.func (.func 78) #[] #[(.pointer (some cap1_0))])] (.one (.one (.int .i64))) w0 fun (x1 : Int) w2 =>
 R (.bool (decide (x1 ≥ 0))) w2
def H77b : Hints := ⟨[], [], [], []⟩
set_option maxRecDepth 100000 in
theorem S77b_eq (s_a : Option Addr) (s_n : Nat) (s_c : Nat) (cap1_0 : Addr) (w0 : World) (R : Value → World → Prop) : vcFn Try.prog H77b Try.f77 [(.slice s_a s_n s_c), (.func (.func 78) #[] #[(.pointer (some cap1_0))])] w0 R = S77b s_a s_n s_c cap1_0 w0 R := by kernel_rfl
set_option maxRecDepth 100000 in
theorem S77b_calls (s_a : Option Addr) (s_n : Nat) (s_c : Nat) (cap1_0 : Addr) (w0 : World) (R : Value → World → Prop) (h : S77b s_a s_n s_c cap1_0 w0 R) : Calls Try.prog 77 #[(.slice s_a s_n s_c), (.func (.func 78) #[] #[(.pointer (some cap1_0))])] w0 (ret R) := by
  rw [← S77b_eq] at h; exact vcFn_sound follows_ Try.func77 h

def S113c (s_a : Option Addr) (s_n : Nat) (s_c : Nat) (cap1_0 : Addr) (w0 : World) (R : Value → World → Prop) : Prop :=
 loop (T := (Int × Unit)) (0, ()) w0 fun (again1 : (Int × Unit) → World → Prop) (s2 : (Int × Unit)) w3 => ∀ _ : Nat → Value,
 br (decide (s2.1 < ((s_n : Nat) : Int))) (rdp Try.prog (Instr.indexAt 41 (.slice s_a s_n s_c) (.int .i64 s2.1)) (.one .addr) fun (x4 : Addr) =>
 rd Try.prog (Instr.loadAt 40 (.pointer (some x4))) (.one .slice) w3 fun (x5 : Hd3) =>
 call Try.prog 79 [(.slice x5.1 x5.2.1 x5.2.2), (.pointer (some cap1_0))] (.one (.one .bool)) w3 fun (x6 : Bool) w7 =>
 br x6 (R (.int .i64 s2.1) w7)
 (z (IntKind.wrap .i64 (s2.1 + 1)) fun (z8 : Int) =>
 again1 (z8, ()) w7))
 (R (.int .i64 (-1)) w3)
def H113c : Hints := ⟨[(2, 0, [(8, (.one (.int .i64)))])], [], [], []⟩
set_option maxRecDepth 100000 in
theorem S113c_eq (s_a : Option Addr) (s_n : Nat) (s_c : Nat) (cap1_0 : Addr) (w0 : World) (R : Value → World → Prop) : vcFn Try.prog H113c Try.f113 [(.slice s_a s_n s_c), (.func (.func 79) #[] #[(.pointer (some cap1_0))])] w0 R = S113c s_a s_n s_c cap1_0 w0 R := by kernel_rfl
set_option maxRecDepth 100000 in
theorem S113c_calls (s_a : Option Addr) (s_n : Nat) (s_c : Nat) (cap1_0 : Addr) (w0 : World) (R : Value → World → Prop) (h : S113c s_a s_n s_c cap1_0 w0 R) : Calls Try.prog 113 #[(.slice s_a s_n s_c), (.func (.func 79) #[] #[(.pointer (some cap1_0))])] w0 (ret R) := by
  rw [← S113c_eq] at h; exact vcFn_sound follows_ Try.func113 h

def S77c (s_a : Option Addr) (s_n : Nat) (s_c : Nat) (cap1_0 : Addr) (w0 : World) (R : Value → World → Prop) : Prop :=
 call Try.prog 113 [(.slice s_a s_n s_c), (.func (.func 79) #[] #[(.pointer (some cap1_0))])] (.one (.one (.int .i64))) w0 fun (x1 : Int) w2 =>
 R (.bool (decide (x1 ≥ 0))) w2
def H77c : Hints := ⟨[], [], [], []⟩
set_option maxRecDepth 100000 in
theorem S77c_eq (s_a : Option Addr) (s_n : Nat) (s_c : Nat) (cap1_0 : Addr) (w0 : World) (R : Value → World → Prop) : vcFn Try.prog H77c Try.f77 [(.slice s_a s_n s_c), (.func (.func 79) #[] #[(.pointer (some cap1_0))])] w0 R = S77c s_a s_n s_c cap1_0 w0 R := by kernel_rfl
set_option maxRecDepth 100000 in
theorem S77c_calls (s_a : Option Addr) (s_n : Nat) (s_c : Nat) (cap1_0 : Addr) (w0 : World) (R : Value → World → Prop) (h : S77c s_a s_n s_c cap1_0 w0 R) : Calls Try.prog 77 #[(.slice s_a s_n s_c), (.func (.func 79) #[] #[(.pointer (some cap1_0))])] w0 (ret R) := by
  rw [← S77c_eq] at h; exact vcFn_sound follows_ Try.func77 h

def S30 (s_0a : Option Addr) (s_0n : Nat) (s_0c : Nat) (s_1a : Option Addr) (s_1n : Nat) (s_1c : Nat) (s_2a : Option Addr) (s_2n : Nat) (s_2c : Nat) (w0 : World) (R : Value → World → Prop) : Prop :=
 wr Try.prog (Instr.box 43 (.agg #[(.slice s_0a s_0n s_0c), (.slice s_1a s_1n s_1c), (.slice s_2a s_2n s_2c)])) (.one .addr) w0 fun (x1 : Addr) w2 =>
 rd Try.prog (Instr.loadAt 40 (.pointer (some x1))) (.one .slice) w2 fun (x3 : Hd3) =>
 br (decide (((x3.2.1 : Nat) : Int) > 200)) (R (.int .i64 8) w2)
 (rd Try.prog (Instr.loadAt 41 (.pointer (some (Addr.add x1 1)))) (.one .slice) w2 fun (x4 : Hd3) =>
 br (decide (((x4.2.1 : Nat) : Int) > 100)) (R (.int .i64 8) w2)
 (wr Try.prog (Instr.alloc 100 true (.tuple #[])) (.one .addr) w2 fun (x5 : Addr) w6 =>
 wu Try.prog (Instr.storeAt 100 (.pointer (some x5)) (.func (.func 73) #[] #[])) w6 fun w7 =>
 rdF Try.prog bel (Instr.loadAt 100 (.pointer (some x5))) w7 fun (h8 : Nat) (h8f h8c : Array Value) =>
 rd Try.prog (Instr.loadAt 40 (.pointer (some x1))) (.one .slice) w7 fun (x9 : Hd3) =>
 callX Try.prog h8 (h8f ++ (#[(.slice x9.1 x9.2.1 x9.2.2), (.int .i64 0), (.int .i64 1000000000)] : Array Value) ++ h8c).toList (.one (.one .bool)) w7 fun (x10 : Bool) w11 =>
 br x10 (R (.int .i64 8) w11)
 (rdF Try.prog bel (Instr.loadAt 100 (.pointer (some x5))) w11 fun (h12 : Nat) (h12f h12c : Array Value) =>
 rd Try.prog (Instr.loadAt 40 (.pointer (some (Addr.add x1 2)))) (.one .slice) w11 fun (x13 : Hd3) =>
 callX Try.prog h12 (h12f ++ (#[(.slice x13.1 x13.2.1 x13.2.2), (.int .i64 (-1000000000)), (.int .i64 1000000000)] : Array Value) ++ h12c).toList (.one (.one .bool)) w11 fun (x14 : Bool) w15 =>
 br x14 (R (.int .i64 8) w15)
 (rd Try.prog (Instr.loadAt 41 (.pointer (some (Addr.add x1 1)))) (.one .slice) w15 fun (x16 : Hd3) =>
 call Try.prog 77 [(.slice x16.1 x16.2.1 x16.2.2), (.func (.func 78) #[] #[(.pointer (some x5))])] (.one (.one .bool)) w15 fun (x17 : Bool) w18 =>
 br x17 (R (.int .i64 8) w18)
 (rd Try.prog (Instr.loadAt 40 (.pointer (some (Addr.add x1 2)))) (.one .slice) w18 fun (x19 : Hd3) =>
 rd Try.prog (Instr.loadAt 41 (.pointer (some (Addr.add x1 1)))) (.one .slice) w18 fun (x20 : Hd3) =>
 br (((x19.2.1 : Nat) : Int) != ((x20.2.1 : Nat) : Int)) (R (.int .i64 9) w18)
 (rd Try.prog (Instr.loadAt 41 (.pointer (some (Addr.add x1 1)))) (.one .slice) w18 fun (x21 : Hd3) =>
 call Try.prog 77 [(.slice x21.1 x21.2.1 x21.2.2), (.func (.func 79) #[] #[(.pointer (some x1))])] (.one (.one .bool)) w18 fun (x22 : Bool) w23 =>
 br x22 (R (.int .i64 9) w23)
 (R (.int .i64 0) w23)))))))
def H30 : Hints := ⟨[], [], [], []⟩
set_option maxRecDepth 100000 in
theorem S30_eq (s_0a : Option Addr) (s_0n : Nat) (s_0c : Nat) (s_1a : Option Addr) (s_1n : Nat) (s_1c : Nat) (s_2a : Option Addr) (s_2n : Nat) (s_2c : Nat) (w0 : World) (R : Value → World → Prop) : vcFn Try.prog H30 Try.f30 [(.agg #[(.slice s_0a s_0n s_0c), (.slice s_1a s_1n s_1c), (.slice s_2a s_2n s_2c)])] w0 R = S30 s_0a s_0n s_0c s_1a s_1n s_1c s_2a s_2n s_2c w0 R := by kernel_rfl
set_option maxRecDepth 100000 in
theorem S30_calls (s_0a : Option Addr) (s_0n : Nat) (s_0c : Nat) (s_1a : Option Addr) (s_1n : Nat) (s_1c : Nat) (s_2a : Option Addr) (s_2n : Nat) (s_2c : Nat) (w0 : World) (R : Value → World → Prop) (h : S30 s_0a s_0n s_0c s_1a s_1n s_1c s_2a s_2n s_2c w0 R) : Calls Try.prog 30 #[(.agg #[(.slice s_0a s_0n s_0c), (.slice s_1a s_1n s_1c), (.slice s_2a s_2n s_2c)])] w0 (ret R) := by
  rw [← S30_eq] at h; exact vcFn_sound follows_ Try.func30 h

def S33 (s_0a : Option Addr) (s_0n : Nat) (s_0c : Nat) (s_1a : Option Addr) (s_1n : Nat) (s_1c : Nat) (s_2a : Option Addr) (s_2n : Nat) (s_2c : Nat) (x_a : Option Addr) (x_n : Nat) (x_c : Nat) (w0 : World) (R : Value → World → Prop) : Prop :=
 wr Try.prog (Instr.box 43 (.agg #[(.slice s_0a s_0n s_0c), (.slice s_1a s_1n s_1c), (.slice s_2a s_2n s_2c)])) (.one .addr) w0 fun (x1 : Addr) w2 =>
 rd Try.prog (Instr.loadAt 43 (.pointer (some x1))) (.agg [.slice, .slice, .slice]) w2 fun (x3 : (Hd3 × Hd3 × Hd3 × Unit)) =>
 call Try.prog 31 [(.agg #[(.slice x3.1.1 x3.1.2.1 x3.1.2.2), (.slice x3.2.1.1 x3.2.1.2.1 x3.2.1.2.2), (.slice x3.2.2.1.1 x3.2.2.1.2.1 x3.2.2.1.2.2)])] (.one (.one (.int .i64))) w2 fun (x4 : Int) w5 =>
 br (x4 != 0) (R (.bool false) w5)
 (rd Try.prog (Instr.loadAt 40 (.pointer (some x1))) (.one .slice) w5 fun (x6 : Hd3) =>
 br (((x_n : Nat) : Int) != ((x6.2.1 : Nat) : Int)) (R (.bool false) w5)
 (loop (T := (Int × Unit)) (0, ()) w5 fun (again7 : (Int × Unit) → World → Prop) (s8 : (Int × Unit)) w9 => ∀ _ : Nat → Value,
 br (decide (s8.1 < ((x_n : Nat) : Int))) (drw w9 fun w10 => flEx fun F11 =>
 rdp Try.prog (Instr.indexAt 33 (.slice x_a x_n x_c) (.int .i64 s8.1)) (.one .addr) fun (x12 : Addr) =>
 rd Try.prog (Instr.loadAt 23 (.pointer (some x12))) (.agg [(.int .i64), (.int .i64)]) w10 fun (x13 : (Int × Int × Unit)) =>
 flc bel w10 (fun _w15 => True) (fun w14 =>
   call Try.prog 15 [(.agg #[(.int .i64 x13.1), (.int .i64 x13.2.1)])] (.one (.one .bool)) w14 fun (x16 : Bool) w17 =>
 (bel w14 w17 ∧ F11 4 [(.agg #[(.int .i64 x13.1), (.int .i64 x13.2.1)])] (.bool x16) w17))
  fun (x18 : Bool) =>
 br (!x18) (flend bel w10 (fun w20 => F11 4 [(.agg #[(.int .i64 x13.1), (.int .i64 x13.2.1)])] (.bool x18) w20 ∧ True) fun w19 =>
 R (.bool false) w19)
 (rdp Try.prog (Instr.indexAt 33 (.slice x_a x_n x_c) (.int .i64 s8.1)) (.one .addr) fun (x21 : Addr) =>
 rd Try.prog (Instr.loadAt 2 (.pointer (some x21))) (.one (.int .i64)) w10 fun (x22 : Int) =>
 br (decide (x22 < 0)) (flend bel w10 (fun w24 => F11 4 [(.agg #[(.int .i64 x13.1), (.int .i64 x13.2.1)])] (.bool x18) w24 ∧ True) fun w23 =>
 R (.bool false) w23)
 (rd Try.prog (Instr.loadAt 40 (.pointer (some x1))) (.one .slice) w10 fun (x25 : Hd3) =>
 rdp Try.prog (Instr.indexAt 40 (.slice x25.1 x25.2.1 x25.2.2) (.int .i64 s8.1)) (.one .addr) fun (x26 : Addr) =>
 rd Try.prog (Instr.loadAt 2 (.pointer (some x26))) (.one (.int .i64)) w10 fun (x27 : Int) =>
 flc bel w10 (fun w29 => F11 4 [(.agg #[(.int .i64 x13.1), (.int .i64 x13.2.1)])] (.bool x18) w29 ∧ True) (fun w28 =>
   call Try.prog 83 [(.int .i64 x27)] (.one (.agg [.bool, .slice, .slice])) w28 fun (x30 : (Bool × Hd3 × Hd3 × Unit)) w31 =>
 (bel w28 w31 ∧ F11 20 [(.int .i64 x27)] (.agg #[(.bool x30.1), (.slice x30.2.1.1 x30.2.1.2.1 x30.2.1.2.2), (.slice x30.2.2.1.1 x30.2.2.1.2.1 x30.2.2.1.2.2)]) w31))
  fun (x32 : (Bool × Hd3 × Hd3 × Unit)) =>
 rdp Try.prog (Instr.indexAt 33 (.slice x_a x_n x_c) (.int .i64 s8.1)) (.one .addr) fun (x33 : Addr) =>
 rd Try.prog (Instr.loadAt 23 (.pointer (some x33))) (.agg [(.int .i64), (.int .i64)]) w10 fun (x34 : (Int × Int × Unit)) =>
 flend bel w10 (fun w36 => F11 20 [(.int .i64 x27)] (.agg #[(.bool x32.1), (.slice x32.2.1.1 x32.2.1.2.1 x32.2.1.2.2), (.slice x32.2.2.1.1 x32.2.2.1.2.1 x32.2.2.1.2.2)]) w36 ∧ F11 4 [(.agg #[(.int .i64 x13.1), (.int .i64 x13.2.1)])] (.bool x18) w36 ∧ True) fun w35 =>
 call Try.prog 63 [(.agg #[(.int .i64 x34.1), (.int .i64 x34.2.1)])] (.one (.agg [.bool, .slice, .slice])) w35 fun (x37 : (Bool × Hd3 × Hd3 × Unit)) w38 =>
 call Try.prog 82 [(.agg #[(.bool x32.1), (.slice x32.2.1.1 x32.2.1.2.1 x32.2.1.2.2), (.slice x32.2.2.1.1 x32.2.2.1.2.1 x32.2.2.1.2.2)]), (.agg #[(.bool x37.1), (.slice x37.2.1.1 x37.2.1.2.1 x37.2.1.2.2), (.slice x37.2.2.1.1 x37.2.2.1.2.1 x37.2.2.1.2.2)])] (.one (.one .bool)) w38 fun (x39 : Bool) w40 =>
 br x39 (R (.bool false) w40)
 (z (IntKind.wrap .i64 (s8.1 + 1)) fun (z41 : Int) =>
 again7 (z41, ()) w40))))
 (loop (T := (Int × Unit)) (0, ()) w9 fun (again42 : (Int × Unit) → World → Prop) (s43 : (Int × Unit)) w44 => ∀ _ : Nat → Value,
 rd Try.prog (Instr.loadAt 41 (.pointer (some (Addr.add x1 1)))) (.one .slice) w44 fun (x45 : Hd3) =>
 br (decide (s43.1 < ((x45.2.1 : Nat) : Int))) (call Try.prog 83 [(.int .i64 0)] (.one (.agg [.bool, .slice, .slice])) w44 fun (x46 : (Bool × Hd3 × Hd3 × Unit)) w47 =>
 wr Try.prog (Instr.alloc 90 true (.tuple #[])) (.one .addr) w47 fun (x48 : Addr) w49 =>
 wu Try.prog (Instr.storeAt 90 (.pointer (some x48)) (.agg #[(.bool x46.1), (.slice x46.2.1.1 x46.2.1.2.1 x46.2.1.2.2), (.slice x46.2.2.1.1 x46.2.2.1.2.1 x46.2.2.1.2.2)])) w49 fun w50 =>
 loop (T := (Int × Unit)) (0, ()) w50 fun (again51 : (Int × Unit) → World → Prop) (s52 : (Int × Unit)) w53 => ∀ _ : Nat → Value,
 br (decide (s52.1 < ((x_n : Nat) : Int))) (join (T := (Unit)) (fun (_s55 : (Unit)) w56 => ∀ _ : Nat → Value,
 z (IntKind.wrap .i64 (s52.1 + 1)) fun (z57 : Int) =>
 again51 (z57, ()) w56)
  fun (K54 : (Unit) → World → Prop) =>
 rdp Try.prog (Instr.indexAt 33 (.slice x_a x_n x_c) (.int .i64 s52.1)) (.one .addr) fun (x58 : Addr) =>
 rd Try.prog (Instr.loadAt 2 (.pointer (some x58))) (.one (.int .i64)) w53 fun (x59 : Int) =>
 br (x59 != 0) (rd Try.prog (Instr.loadAt 41 (.pointer (some (Addr.add x1 1)))) (.one .slice) w53 fun (x60 : Hd3) =>
 rdp Try.prog (Instr.indexAt 41 (.slice x60.1 x60.2.1 x60.2.2) (.int .i64 s43.1)) (.one .addr) fun (x61 : Addr) =>
 rd Try.prog (Instr.loadAt 40 (.pointer (some x61))) (.one .slice) w53 fun (x62 : Hd3) =>
 rdp Try.prog (Instr.indexAt 40 (.slice x62.1 x62.2.1 x62.2.2) (.int .i64 s52.1)) (.one .addr) fun (x63 : Addr) =>
 rd Try.prog (Instr.loadAt 2 (.pointer (some x63))) (.one (.int .i64)) w53 fun (x64 : Int) =>
 br (x64 != 0) (drw w53 fun w65 => flEx fun F66 =>
 rd Try.prog (Instr.loadAt 90 (.pointer (some x48))) (.agg [.bool, .slice, .slice]) w65 fun (x67 : (Bool × Hd3 × Hd3 × Unit)) =>
 rdp Try.prog (Instr.indexAt 33 (.slice x_a x_n x_c) (.int .i64 s52.1)) (.one .addr) fun (x68 : Addr) =>
 rd Try.prog (Instr.loadAt 23 (.pointer (some x68))) (.agg [(.int .i64), (.int .i64)]) w65 fun (x69 : (Int × Int × Unit)) =>
 flc bel w65 (fun _w71 => True) (fun w70 =>
   call Try.prog 63 [(.agg #[(.int .i64 x69.1), (.int .i64 x69.2.1)])] (.one (.agg [.bool, .slice, .slice])) w70 fun (x72 : (Bool × Hd3 × Hd3 × Unit)) w73 =>
 (bel w70 w73 ∧ F66 5 [(.agg #[(.int .i64 x69.1), (.int .i64 x69.2.1)])] (.agg #[(.bool x72.1), (.slice x72.2.1.1 x72.2.1.2.1 x72.2.1.2.2), (.slice x72.2.2.1.1 x72.2.2.1.2.1 x72.2.2.1.2.2)]) w73))
  fun (x74 : (Bool × Hd3 × Hd3 × Unit)) =>
 rd Try.prog (Instr.loadAt 41 (.pointer (some (Addr.add x1 1)))) (.one .slice) w65 fun (x75 : Hd3) =>
 rdp Try.prog (Instr.indexAt 41 (.slice x75.1 x75.2.1 x75.2.2) (.int .i64 s43.1)) (.one .addr) fun (x76 : Addr) =>
 rd Try.prog (Instr.loadAt 40 (.pointer (some x76))) (.one .slice) w65 fun (x77 : Hd3) =>
 rdp Try.prog (Instr.indexAt 40 (.slice x77.1 x77.2.1 x77.2.2) (.int .i64 s52.1)) (.one .addr) fun (x78 : Addr) =>
 rd Try.prog (Instr.loadAt 2 (.pointer (some x78))) (.one (.int .i64)) w65 fun (x79 : Int) =>
 flc bel w65 (fun w81 => F66 5 [(.agg #[(.int .i64 x69.1), (.int .i64 x69.2.1)])] (.agg #[(.bool x74.1), (.slice x74.2.1.1 x74.2.1.2.1 x74.2.1.2.2), (.slice x74.2.2.1.1 x74.2.2.1.2.1 x74.2.2.1.2.2)]) w81 ∧ True) (fun w80 =>
   call Try.prog 83 [(.int .i64 x79)] (.one (.agg [.bool, .slice, .slice])) w80 fun (x82 : (Bool × Hd3 × Hd3 × Unit)) w83 =>
 (bel w80 w83 ∧ F66 14 [(.int .i64 x79)] (.agg #[(.bool x82.1), (.slice x82.2.1.1 x82.2.1.2.1 x82.2.1.2.2), (.slice x82.2.2.1.1 x82.2.2.1.2.1 x82.2.2.1.2.2)]) w83))
  fun (x84 : (Bool × Hd3 × Hd3 × Unit)) =>
 flc bel w65 (fun w86 => F66 14 [(.int .i64 x79)] (.agg #[(.bool x84.1), (.slice x84.2.1.1 x84.2.1.2.1 x84.2.1.2.2), (.slice x84.2.2.1.1 x84.2.2.1.2.1 x84.2.2.1.2.2)]) w86 ∧ F66 5 [(.agg #[(.int .i64 x69.1), (.int .i64 x69.2.1)])] (.agg #[(.bool x74.1), (.slice x74.2.1.1 x74.2.1.2.1 x74.2.1.2.2), (.slice x74.2.2.1.1 x74.2.2.1.2.1 x74.2.2.1.2.2)]) w86 ∧ True) (fun w85 =>
   call Try.prog 69 [(.agg #[(.bool x74.1), (.slice x74.2.1.1 x74.2.1.2.1 x74.2.1.2.2), (.slice x74.2.2.1.1 x74.2.2.1.2.1 x74.2.2.1.2.2)]), (.agg #[(.bool x84.1), (.slice x84.2.1.1 x84.2.1.2.1 x84.2.1.2.2), (.slice x84.2.2.1.1 x84.2.2.1.2.1 x84.2.2.1.2.2)])] (.one (.agg [.bool, .slice, .slice])) w85 fun (x87 : (Bool × Hd3 × Hd3 × Unit)) w88 =>
 (bel w85 w88 ∧ F66 15 [(.agg #[(.bool x74.1), (.slice x74.2.1.1 x74.2.1.2.1 x74.2.1.2.2), (.slice x74.2.2.1.1 x74.2.2.1.2.1 x74.2.2.1.2.2)]), (.agg #[(.bool x84.1), (.slice x84.2.1.1 x84.2.1.2.1 x84.2.1.2.2), (.slice x84.2.2.1.1 x84.2.2.1.2.1 x84.2.2.1.2.2)])] (.agg #[(.bool x87.1), (.slice x87.2.1.1 x87.2.1.2.1 x87.2.1.2.2), (.slice x87.2.2.1.1 x87.2.2.1.2.1 x87.2.2.1.2.2)]) w88))
  fun (x89 : (Bool × Hd3 × Hd3 × Unit)) =>
 flend bel w65 (fun w91 => F66 15 [(.agg #[(.bool x74.1), (.slice x74.2.1.1 x74.2.1.2.1 x74.2.1.2.2), (.slice x74.2.2.1.1 x74.2.2.1.2.1 x74.2.2.1.2.2)]), (.agg #[(.bool x84.1), (.slice x84.2.1.1 x84.2.1.2.1 x84.2.1.2.2), (.slice x84.2.2.1.1 x84.2.2.1.2.1 x84.2.2.1.2.2)])] (.agg #[(.bool x89.1), (.slice x89.2.1.1 x89.2.1.2.1 x89.2.1.2.2), (.slice x89.2.2.1.1 x89.2.2.1.2.1 x89.2.2.1.2.2)]) w91 ∧ F66 14 [(.int .i64 x79)] (.agg #[(.bool x84.1), (.slice x84.2.1.1 x84.2.1.2.1 x84.2.1.2.2), (.slice x84.2.2.1.1 x84.2.2.1.2.1 x84.2.2.1.2.2)]) w91 ∧ F66 5 [(.agg #[(.int .i64 x69.1), (.int .i64 x69.2.1)])] (.agg #[(.bool x74.1), (.slice x74.2.1.1 x74.2.1.2.1 x74.2.1.2.2), (.slice x74.2.2.1.1 x74.2.2.1.2.1 x74.2.2.1.2.2)]) w91 ∧ True) fun w90 =>
 call Try.prog 62 [(.agg #[(.bool x67.1), (.slice x67.2.1.1 x67.2.1.2.1 x67.2.1.2.2), (.slice x67.2.2.1.1 x67.2.2.1.2.1 x67.2.2.1.2.2)]), (.agg #[(.bool x89.1), (.slice x89.2.1.1 x89.2.1.2.1 x89.2.1.2.2), (.slice x89.2.2.1.1 x89.2.2.1.2.1 x89.2.2.1.2.2)])] (.one (.agg [.bool, .slice, .slice])) w90 fun (x92 : (Bool × Hd3 × Hd3 × Unit)) w93 =>
 wu Try.prog (Instr.storeAt 90 (.pointer (some x48)) (.agg #[(.bool x92.1), (.slice x92.2.1.1 x92.2.1.2.1 x92.2.1.2.2), (.slice x92.2.2.1.1 x92.2.2.1.2.1 x92.2.2.1.2.2)])) w93 fun w94 =>
 K54 (()) w94)
 (K54 (()) w53))
 (K54 (()) w53))
 (drw w53 fun w95 => flEx fun F96 =>
 rd Try.prog (Instr.loadAt 90 (.pointer (some x48))) (.agg [.bool, .slice, .slice]) w95 fun (x97 : (Bool × Hd3 × Hd3 × Unit)) =>
 rd Try.prog (Instr.loadAt 40 (.pointer (some (Addr.add x1 2)))) (.one .slice) w95 fun (x98 : Hd3) =>
 rdp Try.prog (Instr.indexAt 40 (.slice x98.1 x98.2.1 x98.2.2) (.int .i64 s43.1)) (.one .addr) fun (x99 : Addr) =>
 rd Try.prog (Instr.loadAt 2 (.pointer (some x99))) (.one (.int .i64)) w95 fun (x100 : Int) =>
 z (IntKind.wrap .i64 (0 - x100)) fun (z101 : Int) =>
 flc bel w95 (fun _w103 => True) (fun w102 =>
   call Try.prog 83 [(.int .i64 z101)] (.one (.agg [.bool, .slice, .slice])) w102 fun (x104 : (Bool × Hd3 × Hd3 × Unit)) w105 =>
 (bel w102 w105 ∧ F96 7 [(.int .i64 z101)] (.agg #[(.bool x104.1), (.slice x104.2.1.1 x104.2.1.2.1 x104.2.1.2.2), (.slice x104.2.2.1.1 x104.2.2.1.2.1 x104.2.2.1.2.2)]) w105))
  fun (x106 : (Bool × Hd3 × Hd3 × Unit)) =>
 flend bel w95 (fun w108 => F96 7 [(.int .i64 z101)] (.agg #[(.bool x106.1), (.slice x106.2.1.1 x106.2.1.2.1 x106.2.1.2.2), (.slice x106.2.2.1.1 x106.2.2.1.2.1 x106.2.2.1.2.2)]) w108 ∧ True) fun w107 =>
 call Try.prog 62 [(.agg #[(.bool x97.1), (.slice x97.2.1.1 x97.2.1.2.1 x97.2.1.2.2), (.slice x97.2.2.1.1 x97.2.2.1.2.1 x97.2.2.1.2.2)]), (.agg #[(.bool x106.1), (.slice x106.2.1.1 x106.2.1.2.1 x106.2.1.2.2), (.slice x106.2.2.1.1 x106.2.2.1.2.1 x106.2.2.1.2.2)])] (.one (.agg [.bool, .slice, .slice])) w107 fun (x109 : (Bool × Hd3 × Hd3 × Unit)) w110 =>
 call Try.prog 72 [(.agg #[(.bool x109.1), (.slice x109.2.1.1 x109.2.1.2.1 x109.2.1.2.2), (.slice x109.2.2.1.1 x109.2.2.1.2.1 x109.2.2.1.2.2)])] (.one (.one (.int .i64))) w110 fun (x111 : Int) w112 =>
 br (x111 != 0) (R (.bool false) w112)
 (z (IntKind.wrap .i64 (s43.1 + 1)) fun (z113 : Int) =>
 again42 (z113, ()) w112)))
 (R (.bool true) w44))))
def H33 : Hints := ⟨[(2, 0, [(5, (.one (.int .i64)))]), (2, 2, [(6, (.one (.int .i64)))]), (2, 4, [(8, (.one (.int .i64)))]), (1, 5, [])], [(6, 25), (16, 16), (17, 8)], [], []⟩
set_option maxRecDepth 100000 in
theorem S33_eq (s_0a : Option Addr) (s_0n : Nat) (s_0c : Nat) (s_1a : Option Addr) (s_1n : Nat) (s_1c : Nat) (s_2a : Option Addr) (s_2n : Nat) (s_2c : Nat) (x_a : Option Addr) (x_n : Nat) (x_c : Nat) (w0 : World) (R : Value → World → Prop) : vcFn Try.prog H33 Try.f33 [(.agg #[(.slice s_0a s_0n s_0c), (.slice s_1a s_1n s_1c), (.slice s_2a s_2n s_2c)]), (.slice x_a x_n x_c)] w0 R = S33 s_0a s_0n s_0c s_1a s_1n s_1c s_2a s_2n s_2c x_a x_n x_c w0 R := by kernel_rfl
set_option maxRecDepth 100000 in
theorem S33_calls (s_0a : Option Addr) (s_0n : Nat) (s_0c : Nat) (s_1a : Option Addr) (s_1n : Nat) (s_1c : Nat) (s_2a : Option Addr) (s_2n : Nat) (s_2c : Nat) (x_a : Option Addr) (x_n : Nat) (x_c : Nat) (w0 : World) (R : Value → World → Prop) (h : S33 s_0a s_0n s_0c s_1a s_1n s_1c s_2a s_2n s_2c x_a x_n x_c w0 R) : Calls Try.prog 33 #[(.agg #[(.slice s_0a s_0n s_0c), (.slice s_1a s_1n s_1c), (.slice s_2a s_2n s_2c)]), (.slice x_a x_n x_c)] w0 (ret R) := by
  rw [← S33_eq] at h; exact vcFn_sound follows_ Try.func33 h

end Go.Proofs

/- Systems of equations: reading them, and when they are valid: the reference. -/



namespace Go.Proofs.Ytajpdnphamomjaa
open Go.RowKit Go.Q Go.Q.Num Go.V

theorem tyI64 : TyS Try.prog 40 2 (.int .i64 0) 1 8 := ⟨by kernel_rfl, by kernel_rfl⟩
theorem tyTab : TyS Try.prog 41 40 (.slice none 0 0) 1 24 := ⟨by kernel_rfl, by kernel_rfl⟩
theorem tyFr : TyS Try.prog 33 23 (.agg #[.int .i64 0, .int .i64 0]) 2 16 := ⟨by kernel_rfl, by kernel_rfl⟩
structure Sys (w : World) (u r b : Hdr) (up : List Int) (T : List (List Int)) (rt : List Int) : Prop where
  u : Sl w u.1 u.2.1 u.2.2 1 (ints .i64 up)
  r : TabI .i64 w r T
  b : Sl w b.1 b.2.1 b.2.2 1 (ints .i64 rt)
theorem Sys.up {w w' : World} {u r b : Hdr} {up : List Int} {T : List (List Int)} {rt : List Int} (H : Sys w u r b up T rt) (h : bel w w') : Sys w' u r b up T rt := ⟨H.u.kept h, H.r.up h, H.b.kept h⟩
abbrev sysv (u r b : Hdr) : Value := .agg #[.slice u.1 u.2.1 u.2.2, .slice r.1 r.2.1 r.2.2, .slice b.1 b.2.1 b.2.2]
abbrev sysc (u r b : Hdr) : List Value := [.slice u.1 u.2.1 u.2.2, .slice r.1 r.2.1 r.2.2, .slice b.1 b.2.1 b.2.2]

def SysR (up : List Int) (T : List (List Int)) (rt : List Int) : Prop :=
  (∀ x ∈ up, 0 ≤ x ∧ x ≤ 1000000000) ∧ (∀ x ∈ rt, -1000000000 ≤ x ∧ x ≤ 1000000000) ∧ (∀ r ∈ T, ∀ x ∈ r, -1000000 ≤ x ∧ x ≤ 1000000)
def SysA (up : List Int) (T : List (List Int)) (rt : List Int) : Prop := rt.length = T.length ∧ ∀ r ∈ T, r.length = up.length
instance (up : List Int) (T : List (List Int)) (rt : List Int) : Decidable (SysR up T rt) := by unfold SysR; infer_instance
instance (up : List Int) (T : List (List Int)) (rt : List Int) : Decidable (SysA up T rt) := by unfold SysA; infer_instance
def sysE (up : List Int) (T : List (List Int)) (rt : List Int) : Int :=
  if 200 < up.length ∨ 100 < T.length then 8 else if SysR up T rt then (if SysA up T rt then 0 else 9) else 8
section
variable {up : List Int} {T : List (List Int)} {rt : List Int}
theorem sysE_1 (h : 200 < up.length) : sysE up T rt = 8 := by unfold sysE; rw [if_pos (.inl h)]
theorem sysE_2 (h : 100 < T.length) : sysE up T rt = 8 := by unfold sysE; rw [if_pos (.inr h)]
theorem sysE_3 (h : ¬ SysR up T rt) : sysE up T rt = 8 := by unfold sysE; split <;> first | rfl | rw [if_neg h]
theorem sysE_4 (h1 : ¬ 200 < up.length) (h2 : ¬ 100 < T.length) (h3 : SysR up T rt) (h4 : ¬ SysA up T rt) : sysE up T rt = 9 := by unfold sysE; rw [if_neg (by rintro (h | h); exact h1 h; exact h2 h), if_pos h3, if_neg h4]
theorem sysE_0 (h1 : ¬ 200 < up.length) (h2 : ¬ 100 < T.length) (h3 : SysR up T rt) (h4 : SysA up T rt) : sysE up T rt = 0 := by unfold sysE; rw [if_neg (by rintro (h | h); exact h1 h; exact h2 h), if_pos h3, if_pos h4]
theorem sysE_ok (h : sysE up T rt = 0) : up.length ≤ 200 ∧ T.length ≤ 100 ∧ SysR up T rt ∧ SysA up T rt := by
  unfold sysE at h
  split at h
  · omega
  · rename_i hn
    split at h
    · split at h
      · rename_i h1 h2; exact ⟨by omega, by omega, h1, h2⟩
      · omega
    · omega
end

theorem withinF (n m : Int) (w : World) (h : 0 ≤ m ∧ m ≤ 1000000000) : call Try.prog 80 [.int .i64 n, .int .i64 m] (.one (.one .bool)) w (fun x w' => x = (decide (-m ≤ n) && decide (n ≤ m)) ∧ bel w w') := by
  refine call_of (S80_calls n m w _ ?_)
  unfold S80
  refine z_i64 (by omega) ?_
  refine br_dec (fun e => ⟨_, rfl, ?_, bel.refl _⟩) (fun e => ⟨_, rfl, ?_, bel.refl _⟩)
  · rw [decide_eq_true (show -m ≤ n by omega), Bool.true_and]
  · rw [decide_eq_false (show ¬ -m ≤ n by omega), Bool.false_and]

set_option maxHeartbeats 1000000 in
theorem valid11 (u r b : Hdr) (up : List Int) (T : List (List Int)) (rt : List Int) (w : World) (H : Sys w u r b up T rt) :
    call Try.prog 31 [sysv u r b] (.one (.one (.int .i64))) w (fun x w' => x = sysE up T rt ∧ bel w w') := by
  refine call_of (S31_calls u.1 u.2.1 u.2.2 r.1 r.2.1 r.2.2 b.1 b.2.1 b.2.2 w _ ?_)
  unfold S31
  have hu := H.u.int
  have hT := H.r.len
  have hb := H.b.int
  have ku := H.u.le
  have kb := H.b.le
  refine wr_box fun x1 w2 X h _ _ => ?_
  replace X : Box w2 x1 (sysc u r b) := X
  replace H := H.up h
  have kT : r.2.1 ≤ 9223372036854775807 := by obtain ⟨hs, q, _⟩ := H.r.ex; exact q.le
  refine rd_box0 (by kernel_rfl) X rfl rfl ?_
  refine br_dec (fun e => ⟨_, rfl, (sysE_1 (by dsimp only at e; omega)).symm, h⟩) (fun e1 => ?_)
  refine rd_box (by kernel_rfl) X (i := 1) rfl rfl ?_
  refine br_dec (fun e => ⟨_, rfl, (sysE_2 (by dsimp only at e; omega)).symm, h⟩) (fun e2 => ?_)
  dsimp only at e1 e2
  refine loop_up u.2.1 (fun i w' => bel w2 w' ∧ ∀ j, j < i → ∀ x, up[j]? = some x → 0 ≤ x ∧ x ≤ 1000000000) ⟨bel.refl _, pre_zero⟩ fun i w7 hi ⟨hw, hq⟩ again hag _ => ?_
  refine rd_box0 (by kernel_rfl) (X.up hw) rfl rfl ?_
  refine br_dec (fun e => ?_) (fun e => ?_)
  · dsimp only at e
    refine rd_box0 (by kernel_rfl) (X.up hw) rfl rfl ?_
    refine at_int tyI64 (by kernel_rfl) (H.up hw).u rfl (by omega) fun x hx => ?_
    refine br_dec (fun e3 => ⟨_, rfl, (sysE_3 fun q => ?_).symm, h.trans hw⟩) (fun e3 => ?_)
    · have := q.1 x (mem_at hx); omega
    refine rd_box0 (by kernel_rfl) (X.up hw) rfl rfl ?_
    refine at_int tyI64 (by kernel_rfl) (H.up hw).u rfl (by omega) fun y hy => ?_
    rw [hx] at hy; cases hy
    refine br_dec (fun e3 => ⟨_, rfl, (sysE_3 fun q => ?_).symm, h.trans hw⟩) (fun e4 => ?_)
    · have := q.1 x (mem_at hx); omega
    refine z_i64 (by dsimp only; omega) ?_
    exact hag _ (by omega) ⟨hw, pre_step hq hx (by omega)⟩
  dsimp only at e
  have Q1 := pre_all hq (by omega)
  clear hq hag again
  have h := h.trans hw; replace X := X.up hw; replace H := H.up hw; clear hw hi e
  refine loop_up b.2.1 (fun i w' => bel w7 w' ∧ ∀ j, j < i → ∀ x, rt[j]? = some x → -1000000000 ≤ x ∧ x ≤ 1000000000) ⟨bel.refl _, pre_zero⟩ fun i w8 hi ⟨hw, hq⟩ again hag _ => ?_
  refine rd_box (by kernel_rfl) (X.up hw) (i := 2) rfl rfl ?_
  refine br_dec (fun e => ?_) (fun e => ?_)
  · dsimp only at e
    refine rd_box (by kernel_rfl) (X.up hw) (i := 2) rfl rfl ?_
    refine at_int tyI64 (by kernel_rfl) (H.up hw).b rfl (by omega) fun x hx => ?_
    refine call_mono (withinF x 1000000000 w8 (by omega)) ?_
    rintro _ w9 ⟨rfl, h'⟩
    replace hw := hw.trans h'
    refine br_not (fun e3 => ⟨_, rfl, (sysE_3 fun q => ?_).symm, h.trans hw⟩) (fun e3 => ?_)
    · have := q.2.1 x (mem_at hx); simp at e3; omega
    refine z_i64 (by dsimp only; omega) ?_
    simp only [Bool.and_eq_true, decide_eq_true_eq] at e3
    exact hag _ (by omega) ⟨hw, pre_step hq hx e3⟩
  dsimp only at e
  have Q2 := pre_all hq (by omega)
  clear hq hag again
  replace h := h.trans hw; replace X := X.up hw; replace H := H.up hw; clear hw hi e
  refine loop_up r.2.1 (fun i w' => bel w8 w' ∧ ∀ j, j < i → ∀ q, T[j]? = some q → ∀ x ∈ q, -1000000 ≤ x ∧ x ≤ 1000000) ⟨bel.refl _, pre_zero⟩ fun i w9 hi ⟨hw, hq⟩ again hag _ => ?_
  refine rd_box (by kernel_rfl) (X.up hw) (i := 1) rfl rfl ?_
  refine br_dec (fun e => ?_) (fun e => ?_)
  · dsimp only at e
    obtain ⟨row, hrow⟩ : ∃ row, T[i]? = some row := ⟨_, List.getElem?_eq_getElem (by omega)⟩
    refine loop_up row.length (fun k w' => bel w9 w' ∧ ∀ j, j < k → ∀ x, row[j]? = some x → -1000000 ≤ x ∧ x ≤ 1000000) ⟨bel.refl _, pre_zero⟩ fun k w10 hk ⟨hw', hq'⟩ again' hag' _ => ?_
    have hwk := hw.trans hw'
    refine rd_box (by kernel_rfl) (X.up hwk) (i := 1) rfl rfl ?_
    refine (H.up hwk).r.at tyTab (by kernel_rfl) rfl (by omega) fun y row' h1 HR => ?_
    rw [hrow] at h1; cases h1
    have hrl : row.length = y.2.1 := Sl.int HR
    have krl := HR.le
    refine br_dec (fun e => ?_) (fun e => ?_)
    · dsimp only at e
      refine rd_box (by kernel_rfl) (X.up hwk) (i := 1) rfl rfl ?_
      refine (H.up hwk).r.at tyTab (by kernel_rfl) rfl (by omega) fun y' row' h1 HR' => ?_
      rw [hrow] at h1; cases h1
      have hrl' : row.length = y'.2.1 := Sl.int HR'
      refine at_int tyI64 (by kernel_rfl) HR' rfl (by omega) fun x hx => ?_
      refine call_mono (withinF x 1000000 w10 (by omega)) ?_
      rintro _ w11 ⟨rfl, h'⟩
      replace hw' := hw'.trans h'
      refine br_not (fun e3 => ⟨_, rfl, (sysE_3 fun q => ?_).symm, h.trans (hw.trans hw')⟩) (fun e3 => ?_)
      · have := q.2.2 row (mem_at hrow) x (mem_at hx); simp at e3; omega
      refine z_i64 (by dsimp only; omega) ?_
      simp only [Bool.and_eq_true, decide_eq_true_eq] at e3
      exact hag' _ (by omega) ⟨hw', pre_step hq' hx e3⟩
    · dsimp only at e
      refine z_i64 (by dsimp only; omega) ?_
      exact hag _ (by omega) ⟨hwk, pre_step hq hrow (pre_all hq' (by omega))⟩
  dsimp only at e
  have Q3 := pre_all hq (by omega)
  clear hq hag again
  replace h := h.trans hw; replace X := X.up hw; replace H := H.up hw; clear hw hi e
  have HR : SysR up T rt := ⟨Q1, Q2, Q3⟩
  refine rd_box (by kernel_rfl) X (i := 2) rfl rfl ?_
  refine rd_box (by kernel_rfl) X (i := 1) rfl rfl ?_
  refine br_ne (fun e => ⟨_, rfl, (sysE_4 (by omega) (by omega) HR fun q => ?_).symm, h⟩) (fun e4 => ?_)
  · have := q.1; dsimp only at e; omega
  dsimp only at e4
  refine loop_up r.2.1 (fun i w' => bel w9 w' ∧ ∀ j, j < i → ∀ q, T[j]? = some q → q.length = up.length) ⟨bel.refl _, pre_zero⟩ fun i w10 hi ⟨hw, hq⟩ again hag _ => ?_
  refine rd_box (by kernel_rfl) (X.up hw) (i := 1) rfl rfl ?_
  refine br_dec (fun e => ?_) (fun e => ?_)
  · dsimp only at e
    refine drw_mk fun w11 h' _ => ?_
    replace hw := hw.trans h'
    refine rd_box (by kernel_rfl) (X.up hw) (i := 1) rfl rfl ?_
    refine (H.up hw).r.at tyTab (by kernel_rfl) rfl (by omega) fun y row h1 HR' => ?_
    have hrl : row.length = y.2.1 := Sl.int HR'
    refine rd_box0 (by kernel_rfl) (X.up hw) rfl rfl ?_
    refine br_ne (fun e => ⟨_, rfl, (sysE_4 (by omega) (by omega) HR fun q => ?_).symm, h.trans hw⟩) (fun e5 => ?_)
    · have := q.2 row (mem_at h1); dsimp only at e; omega
    dsimp only at e5
    refine z_i64 (by dsimp only; omega) ?_
    exact hag _ (by omega) ⟨hw, pre_step hq h1 (by omega)⟩
  · dsimp only at e
    exact ⟨_, rfl, (sysE_0 (by omega) (by omega) HR ⟨by omega, pre_all hq (by omega)⟩).symm, h.trans hw⟩
abbrev OwnI (w : World) (B : Nat) (h : Hdr) (xs : List Int) : Prop := Own w B 2 1 h.1 h.2.1 h.2.2 (ints .i64 xs)
theorem OwnI.len {w : World} {B : Nat} {h : Hdr} {xs : List Int} (H : OwnI w B h xs) : xs.length = h.2.1 := H.sl.int
end Go.Proofs.Ytajpdnphamomjaa

/- When a system is valid: the program. -/

namespace Go.Proofs.Ytajpdnphamomjaa
open Go.RowKit Go.Q Go.Q.Num Go.V

def outB (lo hi n : Int) : Bool := decide (n < lo) || decide (n > hi)
theorem outB_f {lo hi n : Int} (h : outB lo hi n = false) : lo ≤ n ∧ n ≤ hi := by unfold outB at h; simp at h; omega
theorem outB_t {lo hi n : Int} (h : outB lo hi n = true) : ¬ (lo ≤ n ∧ n ≤ hi) := by unfold outB at h; simp at h; omega
theorem any_f {α : Type} {p : α → Bool} {l : List α} (h : l.any p = false) : ∀ x ∈ l, p x = false := by simpa using h
theorem any_t {α : Type} {p : α → Bool} {l : List α} (h : l.any p = true) : ∃ x ∈ l, p x = true := by simpa using h
theorem outsideF (n lo hi : Int) (w : World) : call Try.prog 76 [.int .i64 n, .int .i64 lo, .int .i64 hi] (.one (.one .bool)) w (fun x w' => x = outB lo hi n ∧ bel w w') := by
  refine call_of (S76_calls n lo hi w _ ?_)
  unfold S76
  refine br_dec (fun e => ⟨_, rfl, ?_, bel.refl _⟩) (fun e => ⟨_, rfl, ?_, bel.refl _⟩)
  · unfold outB; rw [decide_eq_true e, Bool.true_or]
  · unfold outB; rw [decide_eq_false e, Bool.false_or]
theorem valid11F (n lo hi : Int) (c0 c1 : Addr) (w : World) (X0 : Box w c0 [.int .i64 lo]) (X1 : Box w c1 [.int .i64 hi]) :
    call Try.prog 75 [.int .i64 n, .pointer (some c0), .pointer (some c1)] (.one (.one .bool)) w (fun x w' => x = outB lo hi n ∧ bel w w') := by
  refine call_of (S75_calls n c0 c1 w _ ?_)
  unfold S75
  refine rd_box0 (by kernel_rfl) X0 rfl rfl ?_
  refine rd_box0 (by kernel_rfl) X1 rfl rfl ?_
  refine call_mono (outsideF n lo hi w) ?_
  rintro x w2 ⟨rfl, h⟩
  exact ⟨_, rfl, rfl, h⟩
theorem hasA (a : Option Addr) (n c : Nat) (xs : List Int) (lo hi : Int) (c0 c1 : Addr) (w : World) (H : Sl w a n c 1 (ints .i64 xs)) (X0 : Box w c0 [.int .i64 lo]) (X1 : Box w c1 [.int .i64 hi]) :
    call Try.prog 74 [.slice a n c, .func (.func 75) #[] #[.pointer (some c0), .pointer (some c1)]] (.one (.one .bool)) w (fun x w' => x = xs.any (outB lo hi) ∧ bel w w') := by
  refine call_of (S74a_calls a n c c0 c1 w _ ?_)
  unfold S74a
  refine call_mono (r := .one (.one (.int .i64))) (Q := fun x w' => x = idxI (outB lo hi) xs ∧ bel w w') (call_of (S112a_calls a n c c0 c1 w _ ?_)) ?_
  · unfold S112a
    exact idx_ints tyI64 (by kernel_rfl) (fargs := fun x5 => [.int .i64 x5, .pointer (some c0), .pointer (some c1)]) H (outB lo hi) (fun j x hx w' hb => valid11F x lo hi c0 c1 w' (X0.up hb) (X1.up hb))
  · rintro x w2 ⟨rfl, hb⟩
    exact ⟨_, rfl, idxI_any _ _, hb⟩
theorem wideF (a : Option Addr) (n c : Nat) (xs : List Int) (lo hi : Int) (w : World) (H : Sl w a n c 1 (ints .i64 xs)) :
    call Try.prog 73 [.slice a n c, .int .i64 lo, .int .i64 hi] (.one (.one .bool)) w (fun x w' => x = xs.any (outB lo hi) ∧ bel w w') := by
  refine call_of (S73_calls a n c lo hi w _ ?_)
  unfold S73
  refine wr_box fun x1 w2 X h _ _ => ?_
  refine wr_box fun x3 w4 Y h' _ _ => ?_
  replace h := h.trans h'; replace X := X.up h'; clear h'
  refine call_mono (hasA a n c xs lo hi x1 x3 w4 (H.kept h) X Y) ?_
  rintro x w6 ⟨rfl, h'⟩
  exact ⟨_, rfl, rfl, h.trans h'⟩
set_option maxRecDepth 100000 in
theorem valid2F (a : Option Addr) (n c : Nat) (xs : List Int) (c0 : Addr) (w : World) (H : Sl w a n c 1 (ints .i64 xs)) (X0 : Box w c0 [.func (.func 73) #[] #[]]) :
    call Try.prog 78 [.slice a n c, .pointer (some c0)] (.one (.one .bool)) w (fun x w' => x = xs.any (outB (-1000000) 1000000) ∧ bel w w') := by
  refine call_of (S78_calls a n c c0 w _ ?_)
  unfold S78
  refine rdF_box0 (by kernel_rfl) X0 rfl ?_
  refine callX_of Try.func73 (by kernel_rfl) rfl ?_
  refine call_mono (wideF a n c xs _ _ w H) ?_
  rintro x w2 ⟨rfl, h⟩
  exact ⟨_, rfl, rfl, h⟩
theorem valid3F (a : Option Addr) (n c : Nat) (c0 : Addr) (v : Hdr) (v1 v2 : Value) (w : World) (X0 : Box w c0 [.slice v.1 v.2.1 v.2.2, v1, v2]) :
    call Try.prog 79 [.slice a n c, .pointer (some c0)] (.one (.one .bool)) w (fun x w' => x = ((n : Int) != (v.2.1 : Int)) ∧ bel w w') := by
  refine call_of (S79_calls a n c c0 w _ ?_)
  unfold S79
  refine rd_box0 (by kernel_rfl) X0 rfl rfl ?_
  exact ⟨_, rfl, rfl, bel.refl _⟩
theorem hasB (r : Hdr) (T : List (List Int)) (c0 : Addr) (w : World) (H : TabI .i64 w r T) (X0 : Box w c0 [.func (.func 73) #[] #[]]) :
    call Try.prog 77 [.slice r.1 r.2.1 r.2.2, .func (.func 78) #[] #[.pointer (some c0)]] (.one (.one .bool)) w (fun x w' => x = T.any (fun q => q.any (outB (-1000000) 1000000)) ∧ bel w w') := by
  refine call_of (S77b_calls r.1 r.2.1 r.2.2 c0 w _ ?_)
  unfold S77b
  refine call_mono (r := .one (.one (.int .i64))) (Q := fun x w' => x = idxI (fun q => q.any (outB (-1000000) 1000000)) T ∧ bel w w') (call_of (S113b_calls r.1 r.2.1 r.2.2 c0 w _ ?_)) ?_
  · unfold S113b
    exact idx_tab tyTab (by kernel_rfl) (fargs := fun x5 => [.slice x5.1 x5.2.1 x5.2.2, .pointer (some c0)]) H (fun q => q.any (outB (-1000000) 1000000)) (fun j x y hy hr w' hb => valid2F x.1 x.2.1 x.2.2 y c0 w' (hr.kept hb) (X0.up hb))
  · rintro x w2 ⟨rfl, hb⟩
    exact ⟨_, rfl, idxI_any _ _, hb⟩
theorem hasC (r : Hdr) (T : List (List Int)) (c0 : Addr) (v : Hdr) (v1 v2 : Value) (w : World) (H : TabI .i64 w r T) (X0 : Box w c0 [.slice v.1 v.2.1 v.2.2, v1, v2]) :
    call Try.prog 77 [.slice r.1 r.2.1 r.2.2, .func (.func 79) #[] #[.pointer (some c0)]] (.one (.one .bool)) w (fun x w' => x = T.any (fun q => (q.length : Int) != (v.2.1 : Int)) ∧ bel w w') := by
  refine call_of (S77c_calls r.1 r.2.1 r.2.2 c0 w _ ?_)
  unfold S77c
  refine call_mono (r := .one (.one (.int .i64))) (Q := fun x w' => x = idxI (fun q : List Int => (q.length : Int) != (v.2.1 : Int)) T ∧ bel w w') (call_of (S113c_calls r.1 r.2.1 r.2.2 c0 w _ ?_)) ?_
  · unfold S113c
    exact idx_tab tyTab (by kernel_rfl) (fargs := fun x5 => [.slice x5.1 x5.2.1 x5.2.2, .pointer (some c0)]) H (fun q : List Int => (q.length : Int) != (v.2.1 : Int)) (fun j x y hy hr w' hb => by rw [Sl.int hr]; exact valid3F x.1 x.2.1 x.2.2 c0 v v1 v2 w' (X0.up hb))
  · rintro x w2 ⟨rfl, hb⟩
    exact ⟨_, rfl, idxI_any _ _, hb⟩

set_option maxRecDepth 100000 in
theorem validL (u r b : Hdr) (up : List Int) (T : List (List Int)) (rt : List Int) (w : World) (H : Sys w u r b up T rt) :
    call Try.prog 30 [sysv u r b] (.one (.one (.int .i64))) w (fun x w' => x = sysE up T rt ∧ bel w w') := by
  refine call_of (S30_calls u.1 u.2.1 u.2.2 r.1 r.2.1 r.2.2 b.1 b.2.1 b.2.2 w _ ?_)
  unfold S30
  have hu := H.u.int
  have hT := H.r.len
  have hb := H.b.int
  refine wr_box fun x1 w2 X h _ _ => ?_
  replace X : Box w2 x1 (sysc u r b) := X
  replace H := H.up h
  refine rd_box0 (by kernel_rfl) X rfl rfl ?_
  refine br_dec (fun e => ⟨_, rfl, (sysE_1 (by dsimp only at e; omega)).symm, h⟩) (fun e1 => ?_)
  refine rd_box (by kernel_rfl) X (i := 1) rfl rfl ?_
  refine br_dec (fun e => ⟨_, rfl, (sysE_2 (by dsimp only at e; omega)).symm, h⟩) (fun e2 => ?_)
  dsimp only at e1 e2
  refine var_mk (z := .nilFunc) (by kernel_rfl) (by kernel_rfl) rfl rfl fun x5 w7 Y h' _ => ?_
  replace Y : Box w7 x5 [.func (.func 73) #[] #[]] := Y
  replace h := h.trans h'; replace X := X.up h'; replace H := H.up h'; clear h'
  refine rdF_box0 (by kernel_rfl) Y rfl ?_
  refine rd_box0 (by kernel_rfl) X rfl rfl ?_
  refine callX_of Try.func73 (by kernel_rfl) rfl ?_
  refine call_mono (wideF _ _ _ up _ _ w7 H.u) ?_
  rintro x w11 ⟨rfl, h'⟩
  replace h := h.trans h'; replace X := X.up h'; replace H := H.up h'; replace Y := Y.up h'; clear h'
  refine br_mk (fun e => ⟨_, rfl, (sysE_3 fun q => ?_).symm, h⟩) (fun e3 => ?_)
  · obtain ⟨x, hx, hq⟩ := any_t e; exact outB_t hq (q.1 x hx)
  refine rdF_box0 (by kernel_rfl) Y rfl ?_
  refine rd_box (by kernel_rfl) X (i := 2) rfl rfl ?_
  refine callX_of Try.func73 (by kernel_rfl) rfl ?_
  refine call_mono (wideF _ _ _ rt _ _ w11 H.b) ?_
  rintro x w15 ⟨rfl, h'⟩
  replace h := h.trans h'; replace X := X.up h'; replace H := H.up h'; replace Y := Y.up h'; clear h'
  refine br_mk (fun e => ⟨_, rfl, (sysE_3 fun q => ?_).symm, h⟩) (fun e4 => ?_)
  · obtain ⟨x, hx, hq⟩ := any_t e; exact outB_t hq (q.2.1 x hx)
  refine rd_box (by kernel_rfl) X (i := 1) rfl rfl ?_
  refine call_mono (hasB r T x5 w15 H.r Y) ?_
  rintro x w18 ⟨rfl, h'⟩
  replace h := h.trans h'; replace X := X.up h'; replace H := H.up h'; replace Y := Y.up h'; clear h'
  refine br_mk (fun e => ⟨_, rfl, (sysE_3 fun q => ?_).symm, h⟩) (fun e5 => ?_)
  · obtain ⟨x, hx, hq⟩ := any_t e
    obtain ⟨y, hy, hq⟩ := any_t hq
    exact outB_t hq (q.2.2 x hx y hy)
  have HR : SysR up T rt := ⟨fun x hx => outB_f (any_f e3 x hx), fun x hx => outB_f (any_f e4 x hx), fun q hq x hx => outB_f (any_f (any_f e5 q hq) x hx)⟩
  refine rd_box (by kernel_rfl) X (i := 2) rfl rfl ?_
  refine rd_box (by kernel_rfl) X (i := 1) rfl rfl ?_
  refine br_ne (fun e => ⟨_, rfl, (sysE_4 (by omega) (by omega) HR fun q => ?_).symm, h⟩) (fun e6 => ?_)
  · have := q.1; dsimp only at e; omega
  dsimp only at e6
  refine rd_box (by kernel_rfl) X (i := 1) rfl rfl ?_
  refine call_mono (hasC r T x1 u _ _ w18 H.r X) ?_
  rintro x w23 ⟨rfl, h'⟩
  replace h := h.trans h'; replace X := X.up h'; replace H := H.up h'; clear h'
  refine br_mk (fun e => ⟨_, rfl, (sysE_4 (by omega) (by omega) HR fun q => ?_).symm, h⟩) (fun e7 => ⟨_, rfl, (sysE_0 (by omega) (by omega) HR ⟨by omega, fun q hq => ?_⟩).symm, h⟩)
  · obtain ⟨x, hx, hq⟩ := any_t e
    have := q.2 x hx
    simp at hq; omega
  · have := any_f e7 q hq
    simp at this; omega
end Go.Proofs.Ytajpdnphamomjaa

/- The conditions of functions, printed by our tool; each is checked against the code by the kernel. -/



namespace Go.Proofs
open Go Go.V Go.RowKit
def S81 (n_ : Int) (w0 : World) (R : Value → World → Prop) : Prop :=
 wr Try.prog (Instr.alloc 81 true (.tuple #[])) (.one .addr) w0 fun (x1 : Addr) w2 =>
 call Try.prog 65 [(.int .i64 n_)] (.one (.one (.int .u64))) w2 fun (x3 : Int) w4 =>
 call Try.prog 103 [(.int .u64 x3)] (.one (.one .slice)) w4 fun (x5 : Hd3) w6 =>
 call Try.prog 103 [(.int .u64 1)] (.one (.one .slice)) w6 fun (x7 : Hd3) w8 =>
 wu Try.prog (Instr.storeAt 81 (.pointer (some x1)) (.agg #[(.bool (decide (n_ < 0))), (.slice x5.1 x5.2.1 x5.2.2), (.slice x7.1 x7.2.1 x7.2.2)])) w8 fun w9 =>
 rd Try.prog (loadVar 81 x1) (.agg [.bool, .slice, .slice]) w9 fun (x10 : (Bool × Hd3 × Hd3 × Unit)) =>
 R (.agg #[(.bool x10.1), (.slice x10.2.1.1 x10.2.1.2.1 x10.2.1.2.2), (.slice x10.2.2.1.1 x10.2.2.1.2.1 x10.2.2.1.2.2)]) w9
def H81 : Hints := ⟨[], [], [], []⟩
set_option maxRecDepth 100000 in
theorem S81_eq (n_ : Int) (w0 : World) (R : Value → World → Prop) : vcFn Try.prog H81 Try.f81 [(.int .i64 n_)] w0 R = S81 n_ w0 R := by kernel_rfl
set_option maxRecDepth 100000 in
theorem S81_calls (n_ : Int) (w0 : World) (R : Value → World → Prop) (h : S81 n_ w0 R) : Calls Try.prog 81 #[(.int .i64 n_)] w0 (ret R) := by
  rw [← S81_eq] at h; exact vcFn_sound follows_ Try.func81 h

def S83 (n_ : Int) (w0 : World) (R : Value → World → Prop) : Prop :=
 wr Try.prog (Instr.alloc 90 true (.tuple #[])) (.one .addr) w0 fun (x1 : Addr) w2 =>
 call Try.prog 53 [(.int .i64 n_)] (.one (.one .slice)) w2 fun (x3 : Hd3) w4 =>
 wr Try.prog (Instr.buildSlice 73 1 #[(0, (.int .u64 1))]) (.one .slice) w4 fun (x5 : Hd3) w6 =>
 wu Try.prog (Instr.storeAt 90 (.pointer (some x1)) (.agg #[(.bool (decide (n_ < 0))), (.slice x3.1 x3.2.1 x3.2.2), (.slice x5.1 x5.2.1 x5.2.2)])) w6 fun w7 =>
 rd Try.prog (loadVar 90 x1) (.agg [.bool, .slice, .slice]) w7 fun (x8 : (Bool × Hd3 × Hd3 × Unit)) =>
 R (.agg #[(.bool x8.1), (.slice x8.2.1.1 x8.2.1.2.1 x8.2.1.2.2), (.slice x8.2.2.1.1 x8.2.2.1.2.1 x8.2.2.1.2.2)]) w7
def H83 : Hints := ⟨[], [], [], []⟩
set_option maxRecDepth 100000 in
theorem S83_eq (n_ : Int) (w0 : World) (R : Value → World → Prop) : vcFn Try.prog H83 Try.f83 [(.int .i64 n_)] w0 R = S83 n_ w0 R := by kernel_rfl
set_option maxRecDepth 100000 in
theorem S83_calls (n_ : Int) (w0 : World) (R : Value → World → Prop) (h : S83 n_ w0 R) : Calls Try.prog 83 #[(.int .i64 n_)] w0 (ret R) := by
  rw [← S83_eq] at h; exact vcFn_sound follows_ Try.func83 h

def S82 (a_0 : Bool) (a_1a : Option Addr) (a_1n : Nat) (a_1c : Nat) (a_2a : Option Addr) (a_2n : Nat) (a_2c : Nat) (b_0 : Bool) (b_1a : Option Addr) (b_1n : Nat) (b_1c : Nat) (b_2a : Option Addr) (b_2n : Nat) (b_2c : Nat) (w0 : World) (R : Value → World → Prop) : Prop :=
 wr Try.prog (Instr.box 90 (.agg #[(.bool a_0), (.slice a_1a a_1n a_1c), (.slice a_2a a_2n a_2c)])) (.one .addr) w0 fun (x1 : Addr) w2 =>
 wr Try.prog (Instr.box 90 (.agg #[(.bool b_0), (.slice b_1a b_1n b_1c), (.slice b_2a b_2n b_2c)])) (.one .addr) w2 fun (x3 : Addr) w4 =>
 drw w4 fun w5 => flEx fun F6 =>
 rd Try.prog (Instr.loadAt 90 (.pointer (some x1))) (.agg [.bool, .slice, .slice]) w5 fun (x7 : (Bool × Hd3 × Hd3 × Unit)) =>
 rd Try.prog (Instr.loadAt 90 (.pointer (some x3))) (.agg [.bool, .slice, .slice]) w5 fun (x8 : (Bool × Hd3 × Hd3 × Unit)) =>
 flc bel w5 (fun _w10 => True) (fun w9 =>
   call Try.prog 66 [(.agg #[(.bool x8.1), (.slice x8.2.1.1 x8.2.1.2.1 x8.2.1.2.2), (.slice x8.2.2.1.1 x8.2.2.1.2.1 x8.2.2.1.2.2)])] (.one (.agg [.bool, .slice, .slice])) w9 fun (x11 : (Bool × Hd3 × Hd3 × Unit)) w12 =>
 (bel w9 w12 ∧ F6 2 [(.agg #[(.bool x8.1), (.slice x8.2.1.1 x8.2.1.2.1 x8.2.1.2.2), (.slice x8.2.2.1.1 x8.2.2.1.2.1 x8.2.2.1.2.2)])] (.agg #[(.bool x11.1), (.slice x11.2.1.1 x11.2.1.2.1 x11.2.1.2.2), (.slice x11.2.2.1.1 x11.2.2.1.2.1 x11.2.2.1.2.2)]) w12))
  fun (x13 : (Bool × Hd3 × Hd3 × Unit)) =>
 flend bel w5 (fun w15 => F6 2 [(.agg #[(.bool x8.1), (.slice x8.2.1.1 x8.2.1.2.1 x8.2.1.2.2), (.slice x8.2.2.1.1 x8.2.2.1.2.1 x8.2.2.1.2.2)])] (.agg #[(.bool x13.1), (.slice x13.2.1.1 x13.2.1.2.1 x13.2.1.2.2), (.slice x13.2.2.1.1 x13.2.2.1.2.1 x13.2.2.1.2.2)]) w15 ∧ True) fun w14 =>
 call Try.prog 62 [(.agg #[(.bool x7.1), (.slice x7.2.1.1 x7.2.1.2.1 x7.2.1.2.2), (.slice x7.2.2.1.1 x7.2.2.1.2.1 x7.2.2.1.2.2)]), (.agg #[(.bool x13.1), (.slice x13.2.1.1 x13.2.1.2.1 x13.2.1.2.2), (.slice x13.2.2.1.1 x13.2.2.1.2.1 x13.2.2.1.2.2)])] (.one (.agg [.bool, .slice, .slice])) w14 fun (x16 : (Bool × Hd3 × Hd3 × Unit)) w17 =>
 call Try.prog 72 [(.agg #[(.bool x16.1), (.slice x16.2.1.1 x16.2.1.2.1 x16.2.1.2.2), (.slice x16.2.2.1.1 x16.2.2.1.2.1 x16.2.2.1.2.2)])] (.one (.one (.int .i64))) w17 fun (x18 : Int) w19 =>
 R (.bool (decide (x18 < 0))) w19
def H82 : Hints := ⟨[], [(1, 3)], [], []⟩
set_option maxRecDepth 100000 in
theorem S82_eq (a_0 : Bool) (a_1a : Option Addr) (a_1n : Nat) (a_1c : Nat) (a_2a : Option Addr) (a_2n : Nat) (a_2c : Nat) (b_0 : Bool) (b_1a : Option Addr) (b_1n : Nat) (b_1c : Nat) (b_2a : Option Addr) (b_2n : Nat) (b_2c : Nat) (w0 : World) (R : Value → World → Prop) : vcFn Try.prog H82 Try.f82 [(.agg #[(.bool a_0), (.slice a_1a a_1n a_1c), (.slice a_2a a_2n a_2c)]), (.agg #[(.bool b_0), (.slice b_1a b_1n b_1c), (.slice b_2a b_2n b_2c)])] w0 R = S82 a_0 a_1a a_1n a_1c a_2a a_2n a_2c b_0 b_1a b_1n b_1c b_2a b_2n b_2c w0 R := by kernel_rfl
set_option maxRecDepth 100000 in
theorem S82_calls (a_0 : Bool) (a_1a : Option Addr) (a_1n : Nat) (a_1c : Nat) (a_2a : Option Addr) (a_2n : Nat) (a_2c : Nat) (b_0 : Bool) (b_1a : Option Addr) (b_1n : Nat) (b_1c : Nat) (b_2a : Option Addr) (b_2n : Nat) (b_2c : Nat) (w0 : World) (R : Value → World → Prop) (h : S82 a_0 a_1a a_1n a_1c a_2a a_2n a_2c b_0 b_1a b_1n b_1c b_2a b_2n b_2c w0 R) : Calls Try.prog 82 #[(.agg #[(.bool a_0), (.slice a_1a a_1n a_1c), (.slice a_2a a_2n a_2c)]), (.agg #[(.bool b_0), (.slice b_1a b_1n b_1c), (.slice b_2a b_2n b_2c)])] w0 (ret R) := by
  rw [← S82_eq] at h; exact vcFn_sound follows_ Try.func82 h

def S32 (s_0a : Option Addr) (s_0n : Nat) (s_0c : Nat) (s_1a : Option Addr) (s_1n : Nat) (s_1c : Nat) (s_2a : Option Addr) (s_2n : Nat) (s_2c : Nat) (x_a : Option Addr) (x_n : Nat) (x_c : Nat) (w0 : World) (R : Value → World → Prop) : Prop :=
 wr Try.prog (Instr.box 43 (.agg #[(.slice s_0a s_0n s_0c), (.slice s_1a s_1n s_1c), (.slice s_2a s_2n s_2c)])) (.one .addr) w0 fun (x1 : Addr) w2 =>
 rd Try.prog (Instr.loadAt 43 (.pointer (some x1))) (.agg [.slice, .slice, .slice]) w2 fun (x3 : (Hd3 × Hd3 × Hd3 × Unit)) =>
 call Try.prog 30 [(.agg #[(.slice x3.1.1 x3.1.2.1 x3.1.2.2), (.slice x3.2.1.1 x3.2.1.2.1 x3.2.1.2.2), (.slice x3.2.2.1.1 x3.2.2.1.2.1 x3.2.2.1.2.2)])] (.one (.one (.int .i64))) w2 fun (x4 : Int) w5 =>
 br (x4 != 0) (R (.bool false) w5)
 (rd Try.prog (Instr.loadAt 40 (.pointer (some x1))) (.one .slice) w5 fun (x6 : Hd3) =>
 br (((x_n : Nat) : Int) != ((x6.2.1 : Nat) : Int)) (R (.bool false) w5)
 (loop (T := (Int × Unit)) (0, ()) w5 fun (again7 : (Int × Unit) → World → Prop) (s8 : (Int × Unit)) w9 => ∀ _ : Nat → Value,
 br (decide (s8.1 < ((x_n : Nat) : Int))) (rdp Try.prog (Instr.indexAt 33 (.slice x_a x_n x_c) (.int .i64 s8.1)) (.one .addr) fun (x10 : Addr) =>
 rd Try.prog (Instr.loadAt 23 (.pointer (some x10))) (.agg [(.int .i64), (.int .i64)]) w9 fun (x11 : (Int × Int × Unit)) =>
 wr Try.prog (Instr.alloc 23 true (.tuple #[])) (.one .addr) w9 fun (x12 : Addr) w13 =>
 wu Try.prog (Instr.storeAt 23 (.pointer (some x12)) (.agg #[(.int .i64 x11.1), (.int .i64 x11.2.1)])) w13 fun w14 =>
 drw w14 fun w15 => flEx fun F16 =>
 rd Try.prog (Instr.loadAt 23 (.pointer (some x12))) (.agg [(.int .i64), (.int .i64)]) w15 fun (x17 : (Int × Int × Unit)) =>
 flc bel w15 (fun _w19 => True) (fun w18 =>
   call Try.prog 20 [(.agg #[(.int .i64 x17.1), (.int .i64 x17.2.1)])] (.one (.one .bool)) w18 fun (x20 : Bool) w21 =>
 (bel w18 w21 ∧ F16 1 [(.agg #[(.int .i64 x17.1), (.int .i64 x17.2.1)])] (.bool x20) w21))
  fun (x22 : Bool) =>
 br (!x22) (flend bel w15 (fun w24 => F16 1 [(.agg #[(.int .i64 x17.1), (.int .i64 x17.2.1)])] (.bool x22) w24 ∧ True) fun w23 =>
 R (.bool false) w23)
 (rd Try.prog (Instr.loadAt 2 (.pointer (some x12))) (.one (.int .i64)) w15 fun (x25 : Int) =>
 br (decide (x25 < 0)) (flend bel w15 (fun w27 => F16 1 [(.agg #[(.int .i64 x17.1), (.int .i64 x17.2.1)])] (.bool x22) w27 ∧ True) fun w26 =>
 R (.bool false) w26)
 (rd Try.prog (Instr.loadAt 23 (.pointer (some x12))) (.agg [(.int .i64), (.int .i64)]) w15 fun (x28 : (Int × Int × Unit)) =>
 flc bel w15 (fun w30 => F16 1 [(.agg #[(.int .i64 x17.1), (.int .i64 x17.2.1)])] (.bool x22) w30 ∧ True) (fun w29 =>
   call Try.prog 56 [(.agg #[(.int .i64 x28.1), (.int .i64 x28.2.1)])] (.one (.agg [.bool, .slice, .slice])) w29 fun (x31 : (Bool × Hd3 × Hd3 × Unit)) w32 =>
 (bel w29 w32 ∧ F16 10 [(.agg #[(.int .i64 x28.1), (.int .i64 x28.2.1)])] (.agg #[(.bool x31.1), (.slice x31.2.1.1 x31.2.1.2.1 x31.2.1.2.2), (.slice x31.2.2.1.1 x31.2.2.1.2.1 x31.2.2.1.2.2)]) w32))
  fun (x33 : (Bool × Hd3 × Hd3 × Unit)) =>
 rd Try.prog (Instr.loadAt 40 (.pointer (some x1))) (.one .slice) w15 fun (x34 : Hd3) =>
 rdp Try.prog (Instr.indexAt 40 (.slice x34.1 x34.2.1 x34.2.2) (.int .i64 s8.1)) (.one .addr) fun (x35 : Addr) =>
 rd Try.prog (Instr.loadAt 2 (.pointer (some x35))) (.one (.int .i64)) w15 fun (x36 : Int) =>
 flend bel w15 (fun w38 => F16 10 [(.agg #[(.int .i64 x28.1), (.int .i64 x28.2.1)])] (.agg #[(.bool x33.1), (.slice x33.2.1.1 x33.2.1.2.1 x33.2.1.2.2), (.slice x33.2.2.1.1 x33.2.2.1.2.1 x33.2.2.1.2.2)]) w38 ∧ F16 1 [(.agg #[(.int .i64 x17.1), (.int .i64 x17.2.1)])] (.bool x22) w38 ∧ True) fun w37 =>
 call Try.prog 81 [(.int .i64 x36)] (.one (.agg [.bool, .slice, .slice])) w37 fun (x39 : (Bool × Hd3 × Hd3 × Unit)) w40 =>
 call Try.prog 57 [(.agg #[(.bool x33.1), (.slice x33.2.1.1 x33.2.1.2.1 x33.2.1.2.2), (.slice x33.2.2.1.1 x33.2.2.1.2.1 x33.2.2.1.2.2)]), (.agg #[(.bool x39.1), (.slice x39.2.1.1 x39.2.1.2.1 x39.2.1.2.2), (.slice x39.2.2.1.1 x39.2.2.1.2.1 x39.2.2.1.2.2)])] (.one (.one (.int .i64))) w40 fun (x41 : Int) w42 =>
 br (decide (x41 > 0)) (R (.bool false) w42)
 (z (IntKind.wrap .i64 (s8.1 + 1)) fun (z43 : Int) =>
 again7 (z43, ()) w42))))
 (rd Try.prog (Instr.loadAt 41 (.pointer (some (Addr.add x1 1)))) (.one .slice) w9 fun (x44 : Hd3) =>
 loop (T := (Int × Unit)) (0, ()) w9 fun (again45 : (Int × Unit) → World → Prop) (s46 : (Int × Unit)) w47 => ∀ _ : Nat → Value,
 br (decide (s46.1 < ((x44.2.1 : Nat) : Int))) (rdp Try.prog (Instr.indexAt 41 (.slice x44.1 x44.2.1 x44.2.2) (.int .i64 s46.1)) (.one .addr) fun (x48 : Addr) =>
 rd Try.prog (Instr.loadAt 40 (.pointer (some x48))) (.one .slice) w47 fun (x49 : Hd3) =>
 call Try.prog 81 [(.int .i64 0)] (.one (.agg [.bool, .slice, .slice])) w47 fun (x50 : (Bool × Hd3 × Hd3 × Unit)) w51 =>
 wr Try.prog (Instr.alloc 81 true (.tuple #[])) (.one .addr) w51 fun (x52 : Addr) w53 =>
 wu Try.prog (Instr.storeAt 81 (.pointer (some x52)) (.agg #[(.bool x50.1), (.slice x50.2.1.1 x50.2.1.2.1 x50.2.1.2.2), (.slice x50.2.2.1.1 x50.2.2.1.2.1 x50.2.2.1.2.2)])) w53 fun w54 =>
 loop (T := (Int × Unit)) (0, ()) w54 fun (again55 : (Int × Unit) → World → Prop) (s56 : (Int × Unit)) w57 => ∀ _ : Nat → Value,
 br (decide (s56.1 < ((x49.2.1 : Nat) : Int))) (join (T := (Unit)) (fun (_s59 : (Unit)) w60 => ∀ _ : Nat → Value,
 z (IntKind.wrap .i64 (s56.1 + 1)) fun (z61 : Int) =>
 again55 (z61, ()) w60)
  fun (K58 : (Unit) → World → Prop) =>
 rdp Try.prog (Instr.indexAt 40 (.slice x49.1 x49.2.1 x49.2.2) (.int .i64 s56.1)) (.one .addr) fun (x62 : Addr) =>
 rd Try.prog (Instr.loadAt 2 (.pointer (some x62))) (.one (.int .i64)) w57 fun (x63 : Int) =>
 br (x63 != 0) (rdp Try.prog (Instr.indexAt 33 (.slice x_a x_n x_c) (.int .i64 s56.1)) (.one .addr) fun (x64 : Addr) =>
 rd Try.prog (Instr.loadAt 2 (.pointer (some x64))) (.one (.int .i64)) w57 fun (x65 : Int) =>
 br (x65 != 0) (drw w57 fun w66 => flEx fun F67 =>
 rd Try.prog (Instr.loadAt 81 (.pointer (some x52))) (.agg [.bool, .slice, .slice]) w66 fun (x68 : (Bool × Hd3 × Hd3 × Unit)) =>
 rdp Try.prog (Instr.indexAt 33 (.slice x_a x_n x_c) (.int .i64 s56.1)) (.one .addr) fun (x69 : Addr) =>
 rd Try.prog (Instr.loadAt 23 (.pointer (some x69))) (.agg [(.int .i64), (.int .i64)]) w66 fun (x70 : (Int × Int × Unit)) =>
 flc bel w66 (fun _w72 => True) (fun w71 =>
   call Try.prog 56 [(.agg #[(.int .i64 x70.1), (.int .i64 x70.2.1)])] (.one (.agg [.bool, .slice, .slice])) w71 fun (x73 : (Bool × Hd3 × Hd3 × Unit)) w74 =>
 (bel w71 w74 ∧ F67 5 [(.agg #[(.int .i64 x70.1), (.int .i64 x70.2.1)])] (.agg #[(.bool x73.1), (.slice x73.2.1.1 x73.2.1.2.1 x73.2.1.2.2), (.slice x73.2.2.1.1 x73.2.2.1.2.1 x73.2.2.1.2.2)]) w74))
  fun (x75 : (Bool × Hd3 × Hd3 × Unit)) =>
 flc bel w66 (fun w77 => F67 5 [(.agg #[(.int .i64 x70.1), (.int .i64 x70.2.1)])] (.agg #[(.bool x75.1), (.slice x75.2.1.1 x75.2.1.2.1 x75.2.1.2.2), (.slice x75.2.2.1.1 x75.2.2.1.2.1 x75.2.2.1.2.2)]) w77 ∧ True) (fun w76 =>
   call Try.prog 81 [(.int .i64 x63)] (.one (.agg [.bool, .slice, .slice])) w76 fun (x78 : (Bool × Hd3 × Hd3 × Unit)) w79 =>
 (bel w76 w79 ∧ F67 7 [(.int .i64 x63)] (.agg #[(.bool x78.1), (.slice x78.2.1.1 x78.2.1.2.1 x78.2.1.2.2), (.slice x78.2.2.1.1 x78.2.2.1.2.1 x78.2.2.1.2.2)]) w79))
  fun (x80 : (Bool × Hd3 × Hd3 × Unit)) =>
 flc bel w66 (fun w82 => F67 7 [(.int .i64 x63)] (.agg #[(.bool x80.1), (.slice x80.2.1.1 x80.2.1.2.1 x80.2.1.2.2), (.slice x80.2.2.1.1 x80.2.2.1.2.1 x80.2.2.1.2.2)]) w82 ∧ F67 5 [(.agg #[(.int .i64 x70.1), (.int .i64 x70.2.1)])] (.agg #[(.bool x75.1), (.slice x75.2.1.1 x75.2.1.2.1 x75.2.1.2.2), (.slice x75.2.2.1.1 x75.2.2.1.2.1 x75.2.2.1.2.2)]) w82 ∧ True) (fun w81 =>
   call Try.prog 68 [(.agg #[(.bool x75.1), (.slice x75.2.1.1 x75.2.1.2.1 x75.2.1.2.2), (.slice x75.2.2.1.1 x75.2.2.1.2.1 x75.2.2.1.2.2)]), (.agg #[(.bool x80.1), (.slice x80.2.1.1 x80.2.1.2.1 x80.2.1.2.2), (.slice x80.2.2.1.1 x80.2.2.1.2.1 x80.2.2.1.2.2)])] (.one (.agg [.bool, .slice, .slice])) w81 fun (x83 : (Bool × Hd3 × Hd3 × Unit)) w84 =>
 (bel w81 w84 ∧ F67 8 [(.agg #[(.bool x75.1), (.slice x75.2.1.1 x75.2.1.2.1 x75.2.1.2.2), (.slice x75.2.2.1.1 x75.2.2.1.2.1 x75.2.2.1.2.2)]), (.agg #[(.bool x80.1), (.slice x80.2.1.1 x80.2.1.2.1 x80.2.1.2.2), (.slice x80.2.2.1.1 x80.2.2.1.2.1 x80.2.2.1.2.2)])] (.agg #[(.bool x83.1), (.slice x83.2.1.1 x83.2.1.2.1 x83.2.1.2.2), (.slice x83.2.2.1.1 x83.2.2.1.2.1 x83.2.2.1.2.2)]) w84))
  fun (x85 : (Bool × Hd3 × Hd3 × Unit)) =>
 flend bel w66 (fun w87 => F67 8 [(.agg #[(.bool x75.1), (.slice x75.2.1.1 x75.2.1.2.1 x75.2.1.2.2), (.slice x75.2.2.1.1 x75.2.2.1.2.1 x75.2.2.1.2.2)]), (.agg #[(.bool x80.1), (.slice x80.2.1.1 x80.2.1.2.1 x80.2.1.2.2), (.slice x80.2.2.1.1 x80.2.2.1.2.1 x80.2.2.1.2.2)])] (.agg #[(.bool x85.1), (.slice x85.2.1.1 x85.2.1.2.1 x85.2.1.2.2), (.slice x85.2.2.1.1 x85.2.2.1.2.1 x85.2.2.1.2.2)]) w87 ∧ F67 7 [(.int .i64 x63)] (.agg #[(.bool x80.1), (.slice x80.2.1.1 x80.2.1.2.1 x80.2.1.2.2), (.slice x80.2.2.1.1 x80.2.2.1.2.1 x80.2.2.1.2.2)]) w87 ∧ F67 5 [(.agg #[(.int .i64 x70.1), (.int .i64 x70.2.1)])] (.agg #[(.bool x75.1), (.slice x75.2.1.1 x75.2.1.2.1 x75.2.1.2.2), (.slice x75.2.2.1.1 x75.2.2.1.2.1 x75.2.2.1.2.2)]) w87 ∧ True) fun w86 =>
 call Try.prog 60 [(.agg #[(.bool x68.1), (.slice x68.2.1.1 x68.2.1.2.1 x68.2.1.2.2), (.slice x68.2.2.1.1 x68.2.2.1.2.1 x68.2.2.1.2.2)]), (.agg #[(.bool x85.1), (.slice x85.2.1.1 x85.2.1.2.1 x85.2.1.2.2), (.slice x85.2.2.1.1 x85.2.2.1.2.1 x85.2.2.1.2.2)])] (.one (.agg [.bool, .slice, .slice])) w86 fun (x88 : (Bool × Hd3 × Hd3 × Unit)) w89 =>
 wu Try.prog (Instr.storeAt 81 (.pointer (some x52)) (.agg #[(.bool x88.1), (.slice x88.2.1.1 x88.2.1.2.1 x88.2.1.2.2), (.slice x88.2.2.1.1 x88.2.2.1.2.1 x88.2.2.1.2.2)])) w89 fun w90 =>
 K58 (()) w90)
 (K58 (()) w57))
 (K58 (()) w57))
 (drw w57 fun w91 => flEx fun F92 =>
 rd Try.prog (Instr.loadAt 81 (.pointer (some x52))) (.agg [.bool, .slice, .slice]) w91 fun (x93 : (Bool × Hd3 × Hd3 × Unit)) =>
 rd Try.prog (Instr.loadAt 40 (.pointer (some (Addr.add x1 2)))) (.one .slice) w91 fun (x94 : Hd3) =>
 rdp Try.prog (Instr.indexAt 40 (.slice x94.1 x94.2.1 x94.2.2) (.int .i64 s46.1)) (.one .addr) fun (x95 : Addr) =>
 rd Try.prog (Instr.loadAt 2 (.pointer (some x95))) (.one (.int .i64)) w91 fun (x96 : Int) =>
 flc bel w91 (fun _w98 => True) (fun w97 =>
   call Try.prog 81 [(.int .i64 x96)] (.one (.agg [.bool, .slice, .slice])) w97 fun (x99 : (Bool × Hd3 × Hd3 × Unit)) w100 =>
 (bel w97 w100 ∧ F92 6 [(.int .i64 x96)] (.agg #[(.bool x99.1), (.slice x99.2.1.1 x99.2.1.2.1 x99.2.1.2.2), (.slice x99.2.2.1.1 x99.2.2.1.2.1 x99.2.2.1.2.2)]) w100))
  fun (x101 : (Bool × Hd3 × Hd3 × Unit)) =>
 flend bel w91 (fun w103 => F92 6 [(.int .i64 x96)] (.agg #[(.bool x101.1), (.slice x101.2.1.1 x101.2.1.2.1 x101.2.1.2.2), (.slice x101.2.2.1.1 x101.2.2.1.2.1 x101.2.2.1.2.2)]) w103 ∧ True) fun w102 =>
 call Try.prog 57 [(.agg #[(.bool x93.1), (.slice x93.2.1.1 x93.2.1.2.1 x93.2.1.2.2), (.slice x93.2.2.1.1 x93.2.2.1.2.1 x93.2.2.1.2.2)]), (.agg #[(.bool x101.1), (.slice x101.2.1.1 x101.2.1.2.1 x101.2.1.2.2), (.slice x101.2.2.1.1 x101.2.2.1.2.1 x101.2.2.1.2.2)])] (.one (.one (.int .i64))) w102 fun (x104 : Int) w105 =>
 br (x104 != 0) (R (.bool false) w105)
 (z (IntKind.wrap .i64 (s46.1 + 1)) fun (z106 : Int) =>
 again45 (z106, ()) w105)))
 (R (.bool true) w47))))
def H32 : Hints := ⟨[(2, 0, [(25, (.one (.int .i64)))]), (2, 2, [(54, (.one (.int .i64)))]), (2, 4, [(62, (.one (.int .i64)))]), (1, 5, [])], [(6, 16), (17, 9), (19, 7)], [], []⟩
set_option maxRecDepth 100000 in
theorem S32_eq (s_0a : Option Addr) (s_0n : Nat) (s_0c : Nat) (s_1a : Option Addr) (s_1n : Nat) (s_1c : Nat) (s_2a : Option Addr) (s_2n : Nat) (s_2c : Nat) (x_a : Option Addr) (x_n : Nat) (x_c : Nat) (w0 : World) (R : Value → World → Prop) : vcFn Try.prog H32 Try.f32 [(.agg #[(.slice s_0a s_0n s_0c), (.slice s_1a s_1n s_1c), (.slice s_2a s_2n s_2c)]), (.slice x_a x_n x_c)] w0 R = S32 s_0a s_0n s_0c s_1a s_1n s_1c s_2a s_2n s_2c x_a x_n x_c w0 R := by kernel_rfl
set_option maxRecDepth 100000 in
theorem S32_calls (s_0a : Option Addr) (s_0n : Nat) (s_0c : Nat) (s_1a : Option Addr) (s_1n : Nat) (s_1c : Nat) (s_2a : Option Addr) (s_2n : Nat) (s_2c : Nat) (x_a : Option Addr) (x_n : Nat) (x_c : Nat) (w0 : World) (R : Value → World → Prop) (h : S32 s_0a s_0n s_0c s_1a s_1n s_1c s_2a s_2n s_2c x_a x_n x_c w0 R) : Calls Try.prog 32 #[(.agg #[(.slice s_0a s_0n s_0c), (.slice s_1a s_1n s_1c), (.slice s_2a s_2n s_2c)]), (.slice x_a x_n x_c)] w0 (ret R) := by
  rw [← S32_eq] at h; exact vcFn_sound follows_ Try.func32 h

end Go.Proofs

/- Whole numbers as fractions; the reference's fractions as triples; comparisons. -/


namespace Go.Proofs.Ytajpdnphamomjaa
open Go.RowKit Go.Q Go.Q.Num Go.V

/-! ### the reference's fractions -/
abbrev NR (w : World) (s : Hd) (x : Nat) : Prop := NumAt 1000000000 .u64 w s.1 s.2.1 s.2.2 x
abbrev BX (L : Nat) (w : World) (t : TE) (r : Rat) : Prop := t.1 = decide (r.num < 0) ∧ NR w t.2.1 r.num.natAbs ∧ NR w t.2.2.1 r.den ∧ t.2.1.2.1 ≤ L ∧ t.2.2.1.2.1 ≤ L
theorem BX.up {L : Nat} {w w' : World} {t : TE} {r : Rat} (h : BX L w t r) (hb : bel w w') : BX L w' t r := ⟨h.1, h.2.1.kept hb, h.2.2.1.kept hb, h.2.2.2⟩
theorem BX.at {L : Nat} {w : World} {t : TE} {r : Rat} (h : BX L w t r) : BigAt L w (exV t) r := by
  obtain ⟨h1, h2, h3, h4, h5⟩ := h
  exact ⟨_, _, _, _, _, _, by rw [← h1], h2, h3, h4, h5⟩
theorem BX.le {L M : Nat} {w : World} {t : TE} {r : Rat} (h : BX L w t r) (hL : L ≤ M) : BX M w t r := ⟨h.1, h.2.1, h.2.2.1, Nat.le_trans h.2.2.2.1 hL, Nat.le_trans h.2.2.2.2 hL⟩
theorem EX.le {L M : Nat} {w : World} {t : TE} {r : Rat} (h : EX L w t r) (hL : L ≤ M) : EX M w t r := ⟨h.1, h.2.1, h.2.2.1, Nat.le_trans h.2.2.2.1 hL, Nat.le_trans h.2.2.2.2 hL⟩
theorem callBX {f : FuncId} {args : List Value} {w : World} {L : Nat} {r : Rat} (h : Calls Try.prog f args.toArray w (QBig L r w)) : call Try.prog f args (.one sBig) w (fun (x : TE) w' => BX L w' x r ∧ Fr w x.2.1.1 ∧ Fr w x.2.2.1.1 ∧ bel w w') :=
  Calls.mono h fun _ _ ⟨a, n, c, b, m, d, he, h1, h2, h3, h4, h5, h6, h7⟩ => ⟨(decide (r.num < 0), (a, n, c), (b, m, d), ()), he, ⟨rfl, h1, h2, h3, h4⟩, h6, h7, h5⟩
theorem timesX (t u : TE) (r s : Rat) (L M : Nat) (w : World) (h1 : BX L w t r) (h2 : BX M w u s) (hL : L ≤ 1000000) (hM : M ≤ 1000000) :
    call Try.prog 69 [exV t, exV u] (.one sBig) w (fun (x : TE) w' => BX (L + M + 1) w' x (r * s) ∧ Fr w x.2.1.1 ∧ Fr w x.2.2.1.1 ∧ bel w w') :=
  callBX (times10 _ _ _ _ _ _ w h1.at h2.at (by omega) (by omega))
theorem plusX (t u : TE) (r s : Rat) (L M : Nat) (w : World) (h1 : BX L w t r) (h2 : BX M w u s) (hL : L ≤ 1000000) (hM : M ≤ 1000000) :
    call Try.prog 62 [exV t, exV u] (.one sBig) w (fun (x : TE) w' => BX (L + M + 2) w' x (r + s) ∧ Fr w x.2.1.1 ∧ Fr w x.2.2.1.1 ∧ bel w w') :=
  callBX (plusAny _ _ _ _ _ _ w h1.at h2.at (by omega) (by omega))
theorem signX (t : TE) (r : Rat) (L : Nat) (w : World) (h1 : BX L w t r) (hL : L ≤ 1000000) : call Try.prog 72 [exV t] (.one (.one (.int .i64))) w (fun x w' => x = rsign r ∧ bel w w') :=
  callI (sign10 _ _ _ w h1.at (by omega))
theorem makeX {n d : Int} (w : World) (h : IsFrac n d) : call Try.prog 63 [fracv n d] (.one sBig) w (fun (x : TE) w' => BX 3 w' x (ratv n d) ∧ Fr w x.2.1.1 ∧ Fr w x.2.2.1.1 ∧ bel w w') := by
  have := callBX (f := 63) (args := [frac (ratv n d)]) (make10 (ratv n d) w (ratv_frac h).2.2)
  rw [frac_ratv h] at this; exact this
theorem turnedX (t : TE) (r : Rat) (L : Nat) (w : World) (h1 : BX L w t r) (hL : L ≤ 1000000) : call Try.prog 66 [exV t] (.one sBig) w (fun (x : TE) w' => BX L w' x (-r) ∧ bel w w') := by
  refine Calls.mono (turned10 _ _ _ w h1.at (by omega)) ?_
  rintro e w' ⟨v, he, ⟨a, n, c, b, m, d, hv, q1, q2, q3, q4⟩, hb⟩
  exact ⟨((decide ((-r).num < 0), (a, n, c), (b, m, d), ()) : TE), by rw [he, hv]; rfl, ⟨rfl, q1, q2, q3, q4⟩, hb⟩
theorem tyNum : TyS Try.prog 73 76 (.int .u64 0) 1 8 := ⟨by kernel_rfl, by kernel_rfl⟩
theorem dig1 : Dig 1000000000 [1] := ⟨by intro d hd; simp at hd; omega, by intro x hx; simp at hx; omega⟩
theorem callN' {f : FuncId} {args : List Value} {w : World} {x L : Nat} (h : Calls Try.prog f args.toArray w (QNum 1000000000 .u64 x L w)) : call Try.prog f args (.one (.one .slice)) w (fun (v : Hd) w' => NR w' v x ∧ v.2.1 ≤ L ∧ Fr w v.1 ∧ bel w w') :=
  Calls.mono h fun _ _ ⟨a, n, c, he, h1, h2, h3, h4⟩ => ⟨(a, n, c), he, h1, h2, h4, h3⟩
theorem exV_inj {t u : TE} (h : exV t = exV u) : t = u := by
  obtain ⟨a, ⟨b1, b2, b3⟩, ⟨c1, c2, c3⟩, _⟩ := t
  obtain ⟨a', ⟨b1', b2', b3'⟩, ⟨c1', c2', c3'⟩, _⟩ := u
  simp only [exV, Value.agg.injEq, Array.mk.injEq, List.cons.injEq, Value.bool.injEq, Value.slice.injEq, and_true] at h
  obtain ⟨rfl, ⟨rfl, rfl, rfl⟩, rfl, rfl, rfl⟩ := h
  rfl
theorem wholeX (n : Int) (w : World) (hn : I64 n) : call Try.prog 83 [.int .i64 n] (.one sBig) w (fun (x : TE) w' => BX 3 w' x (n : Rat) ∧ Fr w x.2.1.1 ∧ Fr w x.2.2.1.1 ∧ bel w w') := by
  refine call_of (S83_calls n w _ ?_)
  unfold S83
  refine wr_alloc (z := .agg #[.bool false, .slice none 0 0, .slice none 0 0]) (by kernel_rfl) fun x1 w2 X h hx _ => ?_
  have hne : w.heap.size ≤ x1.block := by omega
  refine call_mono (callN' (of10 n w2 hn.1 hn.2)) ?_
  rintro (o : Hd) w4 ⟨hO, hl, hF, h'⟩
  have fO : Fr w o.1 := hF.mono h.size
  have aO : Apart x1 o n.natAbs := Apart.fr X hF
  replace h := h.trans h'; replace X := X.up h'; clear h'
  refine wr_lit tyNum #[.int .u64 1] (fill_one 1 (.int .u64 1) _ rfl (by simp)) (by omega) (by omega) rfl (by unfold maxLen; omega) fun ad w6 O h' hbl _ => ?_
  have hN : NR w6 (some ad, 1, 1) 1 := ⟨[1], (O w4.heap.size (Nat.le_refl _)).sl, dig1, rfl⟩
  have aN : Apart x1 (some ad, 1, 1) 1 := fun a ha _ => by cases ha; have := X.lt; omega
  have fN : Fr w (some ad) := fun a ha => by cases ha; have := h.size; omega
  replace hO : NR w6 o n.natAbs := NumAt.kept hO h'
  replace h := h.trans h'; replace X := X.up h'; clear h'
  refine wu_box X (by kernel_rfl) (Nat.le_refl 3) rfl fun w7 X hg _ => ?_
  have hO' : NR w7 o n.natAbs := NumAt.grown hO hg fun a ha hv _ e => aO a ha hv (by injection e)
  have hN' : NR w7 (some ad, 1, 1) 1 := NumAt.grown hN hg fun a ha hv _ e => aN a ha hv (by injection e)
  exact rd_boxV X (by kernel_rfl) rfl ⟨((decide (n < 0), o, (some ad, 1, 1), ()) : TE), rfl, ⟨rfl, hO', hN', hl, by show 1 ≤ 3; omega⟩, fO, fN, h.grownAt hg hne⟩
theorem wholeF (n : Int) (w : World) (hn : I64 n) : call Try.prog 81 [.int .i64 n] (.one sBig) w (fun (x : TE) w' => EX 2 w' x (n : Rat) ∧ Fr w x.2.1.1 ∧ Fr w x.2.2.1.1 ∧ bel w w') := by
  refine call_of (S81_calls n w _ ?_)
  unfold S81
  refine wr_alloc (z := .agg #[.bool false, .slice none 0 0, .slice none 0 0]) (by kernel_rfl) fun x1 w2 X h hx _ => ?_
  have hne : w.heap.size ≤ x1.block := by omega
  refine call_mono (callU (sizeF n w2 hn.1 hn.2)) ?_
  rintro _ w3 ⟨rfl, h'⟩
  replace h := h.trans h'; replace X := X.up h'; clear h'
  refine call_mono (callF' (natOfF n.natAbs w3 (by omega))) ?_
  rintro (o : Hd) w4 ⟨hO, hl, hF, h'⟩
  have fO : Fr w o.1 := hF.mono h.size
  have aO : Apart x1 o n.natAbs := Apart.fr X hF
  replace h := h.trans h'; replace X := X.up h'; clear h'
  refine call_mono (callF' (natOfF 1 w4 (by omega))) ?_
  rintro (d : Hd) w6 ⟨hN, hl2, hF2, h'⟩
  have fN : Fr w d.1 := hF2.mono h.size
  have aN : Apart x1 d 1 := Apart.fr X hF2
  replace hO := hO.up h'
  replace h := h.trans h'; replace X := X.up h'; clear h'
  refine wu_box X (by kernel_rfl) (Nat.le_refl 3) rfl fun w7 X hg _ => ?_
  exact rd_boxV X (by kernel_rfl) rfl ⟨((decide (n < 0), o, d, ()) : TE), rfl, ⟨rfl, aO.grown hO hg, aN.grown hN hg, hl, hl2⟩, fO, fN, h.grownAt hg hne⟩
theorem lessX (t u : TE) (r s : Rat) (L M : Nat) (w : World) (h1 : BX L w t r) (h2 : BX M w u s) (hL : L ≤ 400000) (hM : M ≤ 400000) :
    call Try.prog 82 [exV t, exV u] (.one (.one .bool)) w (fun x w' => x = decide (rsign (r + -s) < 0) ∧ bel w w') := by
  obtain ⟨t0, tn, td, _⟩ := t
  obtain ⟨u0, un, ud, _⟩ := u
  refine call_of (S82_calls t0 tn.1 tn.2.1 tn.2.2 td.1 td.2.1 td.2.2 u0 un.1 un.2.1 un.2.2 ud.1 ud.2.1 ud.2.2 w _ ?_)
  unfold S82
  refine wr_box fun x1 w2 X h _ _ => ?_
  refine wr_box fun x3 w4 Y h' _ _ => ?_
  replace h := h.trans h'; replace X := X.up h'; clear h'
  refine drw_mk fun w5 h' _ => ?_
  replace h := h.trans h'; replace X := X.up h'; replace Y := Y.up h'; clear h'
  refine flEx_mk (fun _ _ v w' => ∃ t : TE, v = exV t ∧ BX M w' t (-s)) (fun _ _ _ _ _ ⟨t, e, q⟩ hb => ⟨t, e, q.up hb⟩) ?_
  refine rd_boxN X (by kernel_rfl) rfl ?_
  refine rd_boxN Y (by kernel_rfl) rfl ?_
  refine flc_mk (fun w9 hb _ => call_mono (turnedX (u0, un, ud, ()) s M w9 (h2.up (h.trans hb)) (by omega)) fun x w' ⟨q, hb'⟩ => ⟨hb', x, rfl, q⟩) (fun (x13 : TE) => ?_)
  refine flend_mk fun w14 hb hp => ?_
  obtain ⟨⟨t', ht, q⟩, _⟩ := hp
  have ht' := exV_inj (t := x13) ht
  subst ht'
  refine call_mono (plusX (t0, tn, td, ()) x13 r (-s) L M w14 (h1.up (h.trans hb)) q (by omega) (by omega)) ?_
  rintro (y : TE) w17 ⟨hy, _, _, h'⟩
  refine call_mono (signX y _ _ w17 hy (by omega)) ?_
  rintro _ w19 ⟨rfl, h2'⟩
  exact ⟨_, rfl, rfl, ((h.trans hb).trans h').trans h2'⟩

/-! ### signs and comparisons -/
theorem num_neg {r : Rat} : r.num < 0 ↔ r < 0 := by
  have := Rat.num_nonneg (q := r)
  rw [← Rat.not_le, ← this]; omega
theorem rsign_neg {r : Rat} : rsign r < 0 ↔ r < 0 := by
  rw [← num_neg]; unfold rsign
  split
  · omega
  · split <;> omega
theorem rsign_zero {r : Rat} : rsign r = 0 ↔ r = 0 := by
  rw [← Rat.num_eq_zero]; unfold rsign
  split
  · omega
  · split <;> omega
theorem cmpq_gt0 {r s : Rat} : cmpq r s > 0 ↔ s < r := by
  rw [Rat.lt_iff]; unfold cmpq cmpi
  split
  · omega
  · split <;> omega
theorem cmpq_lt0 {r s : Rat} : cmpq r s < 0 ↔ r < s := by
  rw [Rat.lt_iff]; unfold cmpq cmpi
  split
  · omega
  · split <;> omega
theorem cmpq_eq0 {r s : Rat} : cmpq r s = 0 ↔ r = s := by
  have h1 := cmpq_gt0 (r := r) (s := s)
  have h2 := cmpq_lt0 (r := r) (s := s)
  constructor
  · intro h
    have a : ¬ s < r := fun q => by have := h1.2 q; omega
    have b : ¬ r < s := fun q => by have := h2.2 q; omega
    grind
  · rintro rfl
    have a : ¬ cmpq r r > 0 := fun q => by have := h1.1 q; grind
    have b : ¬ cmpq r r < 0 := fun q => by have := h2.1 q; grind
    omega
theorem less_iff {r s : Rat} : rsign (r + -s) < 0 ↔ r < s := by rw [rsign_neg]; grind
theorem same_iff {r s : Rat} : rsign (r + -s) = 0 ↔ r = s := by rw [rsign_zero]; grind
theorem cmpX (t u : TE) (r s : Rat) (L M : Nat) (w : World) (h1 : EX L w t r) (h2 : EX M w u s) (hL : L ≤ 1000000) (hM : M ≤ 1000000) : call Try.prog 57 [exV t, exV u] (.one (.one (.int .i64))) w (fun x w' => x = cmpq r s ∧ bel w w') := by
  have a : EX (max L M) w t r := h1.le (by omega)
  have b : EX (max L M) w u s := h2.le (by omega)
  exact callI (cmpE _ _ r s (max L M) w a.at b.at (by omega))
theorem fromX {n d : Int} (w : World) (h : IsFrac n d) : call Try.prog 56 [fracv n d] (.one sBig) w (fun (x : TE) w' => EX 2 w' x (ratv n d) ∧ bel w w') := by
  have := callE (f := 56) (args := [frac (ratv n d)]) ((fromF (ratv n d) w (ratv_frac h).2.2).mono fun _ _ h => h.at)
  rw [frac_ratv h] at this; exact this
end Go.Proofs.Ytajpdnphamomjaa

/- When numbers are a solution: the reference. -/

namespace Go.Proofs.Ytajpdnphamomjaa
open Go.RowKit Go.Q Go.Q.Num Go.V

def dotT (r : List Int) (L : List (Int × Int)) (k : Nat) : Rat :=
  match r[k]?, L[k]? with
  | some c, some p => ratv p.1 p.2 * (c : Rat)
  | _, _ => 0
def dotN (r : List Int) (L : List (Int × Int)) : Nat → Rat
  | 0 => 0
  | k + 1 => dotN r L k + dotT r L k
structure SolP (up : List Int) (T : List (List Int)) (rt : List Int) (L : List (Int × Int)) : Prop where
  ok : sysE up T rt = 0
  len : L.length = up.length
  each : ∀ (k : Nat) p u, L[k]? = some p → up[k]? = some u → IsFrac p.1 p.2 ∧ ¬ p.1 < 0 ∧ ¬ ((u : Rat) < ratv p.1 p.2)
  rows : ∀ (i : Nat) r b, T[i]? = some r → rt[i]? = some b → dotN r L up.length = (b : Rat)
theorem dotT_at {r : List Int} {L : List (Int × Int)} {k : Nat} {c : Int} {p : Int × Int} (h1 : r[k]? = some c) (h2 : L[k]? = some p) : dotT r L k = ratv p.1 p.2 * (c : Rat) := by unfold dotT; rw [h1, h2]
theorem ratv_zero (d : Int) : ratv 0 d = 0 := by unfold ratv; exact Rat.zero_mkRat _
theorem dotT_p0 {r : List Int} {L : List (Int × Int)} {k : Nat} {c : Int} {p : Int × Int} (h1 : r[k]? = some c) (h2 : L[k]? = some p) (h : p.1 = 0) : dotT r L k = 0 := by
  rw [dotT_at h1 h2, h, ratv_zero, Rat.zero_mul]
theorem dotT_c0 {r : List Int} {L : List (Int × Int)} {k : Nat} {c : Int} {p : Int × Int} (h1 : r[k]? = some c) (h2 : L[k]? = some p) (h : c = 0) : dotT r L k = 0 := by
  rw [dotT_at h1 h2, h]; exact Rat.mul_zero _
abbrev boxc (t : TE) : List Value := [.bool t.1, .slice t.2.1.1 t.2.1.2.1 t.2.1.2.2, .slice t.2.2.1.1 t.2.2.1.2.1 t.2.2.1.2.2]
abbrev ApT (x : Addr) (t : TE) (r : Rat) : Prop := Apart x t.2.1 r.num.natAbs ∧ Apart x t.2.2.1 r.den
theorem ApT.fr {x : Addr} {t : TE} {r : Rat} {w : World} {cs : List Value} (X : Box w x cs) (h1 : Fr w t.2.1.1) (h2 : Fr w t.2.2.1.1) : ApT x t r := ⟨Apart.fr X h1, Apart.fr X h2⟩
theorem EX.grownA {L : Nat} {w w' : World} {t : TE} {r : Rat} {x : Addr} (h : EX L w t r) (ha : ApT x t r) (hg : w.grownBy w' (some x.block)) : EX L w' t r := ⟨h.1, ha.1.grown h.2.1 hg, ha.2.grown h.2.2.1 hg, h.2.2.2⟩
theorem BX.grown {L : Nat} {w w' : World} {t : TE} {r : Rat} {x : Addr} (h : BX L w t r) (ha : ApT x t r) (hg : w.grownBy w' (some x.block)) : BX L w' t r :=
  ⟨h.1, NumAt.grown h.2.1 hg fun a q hv _ e => ha.1 a q hv (by injection e), NumAt.grown h.2.2.1 hg fun a q hv _ e => ha.2 a q hv (by injection e), h.2.2.2⟩
theorem ApT.old {x : Addr} {t : TE} {r : Rat} {L : Nat} {w : World} (h : BX L w t r) (hx : w.heap.size ≤ x.block) : ApT x t r :=
  ⟨fun ad ha hy e => by have := NumAt.lt_heap h.2.1 hy ad ha; omega, fun ad ha hy e => by have := NumAt.lt_heap h.2.2.1 hy ad ha; omega⟩
theorem ApT.oldE {x : Addr} {t : TE} {r : Rat} {L : Nat} {w : World} (h : EX L w t r) (hx : w.heap.size ≤ x.block) : ApT x t r :=
  ⟨Apart.old h.2.1 hx, Apart.old h.2.2.1 hx⟩
theorem at_fst {w : World} {a : Option Addr} {n c j : Nat} {L : List (Int × Int)} {p : Int × Int} {K : Int → Prop} (H : Sl w a n c 2 (L.flatMap encF)) {i : Int} (hj : i = (j : Int)) (hp : L[j]? = some p) (hk : K p.1) :
    rdp Try.prog (Instr.indexAt 33 (.slice a n c) (.int .i64 i)) (.one .addr) fun ad => rd Try.prog (Instr.loadAt 2 (.pointer (some ad))) (.one (.int .i64)) w K :=
  idx_agg tyFracs encF_len (by omega) H hj hp fun ad h => rd_cell (by kernel_rfl) (by have := h 0 _ rfl; rwa [Go.Q.add_zero] at this) rfl hk
theorem at_frac {w : World} {a : Option Addr} {n c j : Nat} {L : List (Int × Int)} {p : Int × Int} {K : Int × Int × Unit → Prop} (H : Sl w a n c 2 (L.flatMap encF)) {i : Int} (hj : i = (j : Int)) (hp : L[j]? = some p) (hk : K (p.1, p.2, ())) :
    rdp Try.prog (Instr.indexAt 33 (.slice a n c) (.int .i64 i)) (.one .addr) fun ad => rd Try.prog (Instr.loadAt 23 (.pointer (some ad))) (.agg [.int .i64, .int .i64]) w K :=
  at_agg tyFracs agFrac encF_len (by omega) H hj hp rfl hk
theorem fr_len {w : World} {a : Option Addr} {n c : Nat} {L : List (Int × Int)} (H : Sl w a n c 2 (L.flatMap encF)) : L.length = n := by
  have := H.len
  rw [flat_len encF_len] at this
  omega
theorem i64_of {x : Int} (h : -1000000000 ≤ x ∧ x ≤ 1000000000) : I64 x := ⟨by omega, by omega⟩

set_option maxHeartbeats 1600000 in
theorem sol11 (u r b x : Hdr) (up : List Int) (T : List (List Int)) (rt : List Int) (L : List (Int × Int)) (w : World) (H : Sys w u r b up T rt) (HL : Sl w x.1 x.2.1 x.2.2 2 (L.flatMap encF)) (hI : ∀ p ∈ L, I64 p.1 ∧ I64 p.2) :
    call Try.prog 33 [sysv u r b, .slice x.1 x.2.1 x.2.2] (.one (.one .bool)) w (fun v w' => (v = true ↔ SolP up T rt L) ∧ bel w w') := by
  refine call_of (S33_calls u.1 u.2.1 u.2.2 r.1 r.2.1 r.2.2 b.1 b.2.1 b.2.2 x.1 x.2.1 x.2.2 w _ ?_)
  unfold S33
  have hu := H.u.int
  have hT := H.r.len
  have hb := H.b.int
  have hl := fr_len HL
  have no : ∀ {w' : World}, bel w w' → (SolP up T rt L → False) → ∃ v : Bool, Value.bool false = (RS.one (.one .bool)).val v ∧ (v = true ↔ SolP up T rt L) ∧ bel w w' := fun hb q => ⟨false, rfl, ⟨fun e => (Bool.noConfusion e), fun s => (q s).elim⟩, hb⟩
  refine wr_box fun x1 w2 X h _ _ => ?_
  replace X : Box w2 x1 (sysc u r b) := X
  replace H := H.up h; replace HL := HL.up h
  refine rd_boxN X (by kernel_rfl) rfl ?_
  refine call_mono (valid11 u r b up T rt w2 H) ?_
  rintro x4 w5 ⟨rfl, h'⟩
  replace h := h.trans h'; replace X := X.up h'; replace H := H.up h'; replace HL := HL.up h'; clear h'
  have kl := HL.le
  refine br_ne (fun e => no h fun s => e s.ok) (fun e0 => ?_)
  obtain ⟨v1, v2, v3, v4⟩ := sysE_ok e0
  refine rd_box0 (by kernel_rfl) X rfl rfl ?_
  refine br_ne (fun e => no h fun s => ?_) (fun e1 => ?_)
  · have := s.len; dsimp only at e; omega
  dsimp only at e1
  refine loop_up x.2.1 (fun i w' => bel w5 w' ∧ ∀ j, j < i → ∀ p u, L[j]? = some p → up[j]? = some u → IsFrac p.1 p.2 ∧ ¬ p.1 < 0 ∧ ¬ ((u : Rat) < ratv p.1 p.2)) ⟨bel.refl _, fun j h => by omega⟩ fun i w9 hi ⟨hw, hq⟩ again hag _ => ?_
  refine br_dec (fun e => ?_) (fun e => ?_)
  · dsimp only at e
    obtain ⟨p, hp⟩ : ∃ p, L[i]? = some p := ⟨_, List.getElem?_eq_getElem (by omega)⟩
    obtain ⟨uu, huu⟩ : ∃ uu, up[i]? = some uu := ⟨_, List.getElem?_eq_getElem (by omega)⟩
    have hpi := hI p (mem_at hp)
    have hui := v3.1 uu (mem_at huu)
    refine drw_mk fun w10 h' _ => ?_
    replace hw := hw.trans h'
    refine flEx_mk (fun i _ v w' => (i = 4 → v = .bool (decide (IsFrac p.1 p.2))) ∧ (i = 20 → ∃ t : TE, v = exV t ∧ BX 3 w' t (uu : Rat))) (fun _ _ _ _ _ h hb => ⟨h.1, fun e => by obtain ⟨t, q1, q2⟩ := h.2 e; exact ⟨t, q1, q2.up hb⟩⟩) ?_
    refine at_frac (HL.up hw) rfl hp ?_
    refine flc_mk (fun w14 hb _ => call_mono (callB (valid10 p.1 p.2 w14 hpi.1.1 hpi.1.2 hpi.2.1 hpi.2.2)) fun y w' ⟨hy, hb'⟩ => ⟨hb', fun _ => by rw [hy], fun e => by omega⟩) (fun x18 => ?_)
    refine br_not (fun ev => flend_mk fun w19 hb hf => no (h.trans (hw.trans hb)) fun s => ?_) (fun ev => ?_)
    · have f1 : x18 = decide (IsFrac p.1 p.2) := by have := hf.1.1 rfl; injection this
      rw [ev, decide_eq_true (s.each i p uu hp huu).1] at f1
      cases f1
    refine at_fst (HL.up hw) rfl hp ?_
    refine br_dec (fun en => flend_mk fun w23 hb hf => no (h.trans (hw.trans hb)) fun s => (s.each i p uu hp huu).2.1 en) (fun en => ?_)
    refine rd_box0 (by kernel_rfl) (X.up hw) rfl rfl ?_
    refine at_int tyI64 (by kernel_rfl) (H.up hw).u rfl (by omega) fun y hy => ?_
    rw [huu] at hy; cases hy
    refine flc_mk (fun w28 hb _ => call_mono (wholeX uu w28 (i64_of (by omega))) fun y w' ⟨hy, _, _, hb'⟩ => ⟨hb', fun e => by omega, fun _ => ⟨y, rfl, hy⟩⟩) (fun (x32 : TE) => ?_)
    refine at_frac (HL.up hw) rfl hp ?_
    refine flend_mk fun w35 hb hf => ?_
    have f1 : x18 = decide (IsFrac p.1 p.2) := by have := hf.2.1.1 rfl; injection this
    obtain ⟨t, ht, hB⟩ := hf.1.2 rfl
    have ht' := exV_inj (t := x32) ht
    subst ht'
    have hF : IsFrac p.1 p.2 := by rw [ev] at f1; exact of_decide_eq_true f1.symm
    refine call_mono (makeX w35 hF) ?_
    rintro (y : TE) w38 ⟨hy, _, _, h2'⟩
    refine call_mono (lessX x32 y _ _ 3 3 w38 (hB.up h2') hy (by omega) (by omega)) ?_
    rintro _ w40 ⟨rfl, h3'⟩
    have hw' := ((hw.trans hb).trans h2').trans h3'
    refine br_dec (fun el => no (h.trans hw') fun s => (s.each i p uu hp huu).2.2 (less_iff.1 el)) (fun el => ?_)
    refine z_i64 (by dsimp only; omega) ?_
    refine hag _ (by omega) ⟨hw', fun j hj p' u' q1 q2 => ?_⟩
    rcases Nat.lt_or_ge j i with q | q
    · exact hq j q p' u' q1 q2
    · have : j = i := by omega
      subst this
      rw [hp] at q1; cases q1
      rw [huu] at q2; cases q2
      exact ⟨hF, en, fun q => el (less_iff.2 q)⟩
  dsimp only at e
  have Q1 : ∀ (k : Nat) p u, L[k]? = some p → up[k]? = some u → IsFrac p.1 p.2 ∧ ¬ p.1 < 0 ∧ ¬ ((u : Rat) < ratv p.1 p.2) := fun k p u q1 q2 => hq k (by have := (List.getElem?_eq_some_iff.1 q1).1; omega) p u q1 q2
  clear hq hag again
  replace h := h.trans hw; replace X := X.up hw; replace H := H.up hw; replace HL := HL.up hw; clear hw hi e
  refine loop_up r.2.1 (fun i w' => bel w9 w' ∧ ∀ j, j < i → ∀ q c, T[j]? = some q → rt[j]? = some c → dotN q L up.length = (c : Rat)) ⟨bel.refl _, fun j h => by omega⟩ fun i w44 hi ⟨hw, hq⟩ again hag _ => ?_
  refine rd_box (by kernel_rfl) (X.up hw) (i := 1) rfl rfl ?_
  refine br_dec (fun e => ?_) (fun e => ?_)
  · dsimp only at e
    obtain ⟨row, hrow⟩ : ∃ row, T[i]? = some row := ⟨_, List.getElem?_eq_getElem (by omega)⟩
    obtain ⟨cc, hcc⟩ : ∃ cc, rt[i]? = some cc := ⟨_, List.getElem?_eq_getElem (by have := v4.1; omega)⟩
    have hrl := v4.2 row (mem_at hrow)
    have hci := v3.2.1 cc (mem_at hcc)
    refine call_mono (wholeX 0 w44 ⟨by omega, by omega⟩) ?_
    rintro (t0 : TE) w47 ⟨hB0, _, _, h'⟩
    refine var_mk (z := .agg #[.bool false, .slice none 0 0, .slice none 0 0]) (by kernel_rfl) (by kernel_rfl) rfl rfl fun x48 w50 Y h2' hy => ?_
    replace Y : Box w50 x48 (boxc t0) := Y
    have A0 : ApT x48 t0 (0 : Rat) := ApT.old hB0 (by omega)
    have hn48 : w44.heap.size ≤ x48.block := by have := h'.size; omega
    refine loop_up x.2.1 (fun k w' => bel w44 w' ∧ ∃ t, Box w' x48 (boxc t) ∧ BX (3 + 9 * k) w' t (dotN row L k) ∧ ApT x48 t (dotN row L k)) ⟨h'.trans h2', t0, Y, hB0.up h2', A0⟩ fun k w53 hk ⟨hw2, t, Y, hB, hA⟩ again' hag' _ => ?_
    refine br_dec (fun e2 => ?_) (fun e2 => ?_)
    · dsimp only at e2
      obtain ⟨p, hp⟩ : ∃ p, L[k]? = some p := ⟨_, List.getElem?_eq_getElem (by omega)⟩
      obtain ⟨c, hc⟩ : ∃ c, row[k]? = some c := ⟨_, List.getElem?_eq_getElem (by omega)⟩
      obtain ⟨uu, huu⟩ : ∃ uu, up[k]? = some uu := ⟨_, List.getElem?_eq_getElem (by omega)⟩
      have hF := (Q1 k p uu hp huu).1
      have hc2 := v3.2.2 row (mem_at hrow) c (mem_at hc)
      refine join_mk (fun _ w' => bel w44 w' ∧ ∃ t, Box w' x48 (boxc t) ∧ BX (3 + 9 * (k + 1)) w' t (dotN row L (k + 1)) ∧ ApT x48 t (dotN row L (k + 1))) (fun K hK => ?_) (fun _ w' hh _ => z_i64 (by dsimp only; omega) (hag' _ (by omega) hh))
      have same : dotT row L k = 0 → K () w53 := fun q => by
        have e : dotN row L (k + 1) = dotN row L k := by
          show dotN row L k + dotT row L k = _
          rw [q, Rat.add_zero]
        exact hK _ _ ⟨hw2, t, Y, by rw [e]; exact hB.le (by omega), by rw [e]; exact hA⟩
      refine at_fst (HL.up (hw.trans hw2)) rfl hp ?_
      refine br_ne (fun n1 => ?_) (fun n1 => same (dotT_p0 hc hp n1))
      refine rd_box (by kernel_rfl) (X.up (hw.trans hw2)) (i := 1) rfl rfl ?_
      refine (H.up (hw.trans hw2)).r.at tyTab (by kernel_rfl) rfl (by omega) fun y row' h1 HR => ?_
      rw [hrow] at h1; cases h1
      refine at_int tyI64 (by kernel_rfl) HR rfl (by have := Sl.int HR; omega) fun c' hc' => ?_
      rw [hc] at hc'; cases hc'
      refine br_ne (fun n2 => ?_) (fun n2 => same (dotT_c0 hc hp n2))
      refine drw_mk fun w65 h3' _ => ?_
      have hw3 := hw2.trans h3'
      replace Y := Y.up h3'; replace hB := hB.up h3'
      refine flEx_mk (fun i _ v w' => (i = 5 → ∃ t : TE, v = exV t ∧ BX 3 w' t (ratv p.1 p.2)) ∧ (i = 14 → ∃ t : TE, v = exV t ∧ BX 3 w' t (c : Rat)) ∧ (i = 15 → ∃ t : TE, v = exV t ∧ BX 7 w' t (ratv p.1 p.2 * (c : Rat))))
        (fun _ _ _ _ _ h hb => ⟨fun e => by obtain ⟨t, q1, q2⟩ := h.1 e; exact ⟨t, q1, q2.up hb⟩, fun e => by obtain ⟨t, q1, q2⟩ := h.2.1 e; exact ⟨t, q1, q2.up hb⟩, fun e => by obtain ⟨t, q1, q2⟩ := h.2.2 e; exact ⟨t, q1, q2.up hb⟩⟩) ?_
      refine rd_boxN Y (by kernel_rfl) rfl ?_
      refine at_frac (HL.up (hw.trans hw3)) rfl hp ?_
      refine flc_mk (fun w70 hb _ => call_mono (makeX w70 hF) fun y w' ⟨hy, _, _, hb'⟩ => ⟨hb', fun _ => ⟨y, rfl, hy⟩, fun e => by omega, fun e => by omega⟩) (fun (x74 : TE) => ?_)
      refine rd_box (by kernel_rfl) (X.up (hw.trans hw3)) (i := 1) rfl rfl ?_
      refine (H.up (hw.trans hw3)).r.at tyTab (by kernel_rfl) rfl (by omega) fun y row' h1 HR => ?_
      rw [hrow] at h1; cases h1
      refine at_int tyI64 (by kernel_rfl) HR rfl (by have := Sl.int HR; omega) fun c' hc' => ?_
      rw [hc] at hc'; cases hc'
      refine flc_mk (fun w80 hb _ => call_mono (wholeX c w80 ⟨by omega, by omega⟩) fun y w' ⟨hy, _, _, hb'⟩ => ⟨hb', fun e => by omega, fun _ => ⟨y, rfl, hy⟩, fun e => by omega⟩) (fun (x84 : TE) => ?_)
      refine flc_mk (fun w85 hb hf => ?_) (fun (x89 : TE) => ?_)
      · obtain ⟨⟨_, g2, _⟩, ⟨g1, _⟩, _⟩ := hf
        obtain ⟨t1, e1, B1⟩ := g1 rfl
        obtain ⟨t2, e2, B2⟩ := g2 rfl
        have e1' := exV_inj (t := x74) e1
        have e2' := exV_inj (t := x84) e2
        subst e1' e2'
        exact call_mono (timesX x74 x84 _ _ 3 3 w85 B1 B2 (by omega) (by omega)) fun y w' ⟨hy, _, _, hb'⟩ => ⟨hb', fun e => by omega, fun e => by omega, fun _ => ⟨y, rfl, hy⟩⟩
      · refine flend_mk fun w90 hb hf => ?_
        obtain ⟨⟨_, _, g⟩, _⟩ := hf
        obtain ⟨t1, e1, B1⟩ := g rfl
        have e1' := exV_inj (t := x89) e1
        subst e1'
        refine call_mono (plusX t x89 _ _ (3 + 9 * k) 7 w90 (hB.up hb) B1 (by omega) (by omega)) ?_
        rintro (y : TE) w93 ⟨hy, f1, f2, h4'⟩
        have A' : ApT x48 y (dotN row L (k + 1)) := ApT.fr (Y.up hb) f1 f2
        have e : dotN row L (k + 1) = dotN row L k + ratv p.1 p.2 * (c : Rat) := by
          show dotN row L k + dotT row L k = _
          rw [dotT_at hc hp]
        rw [← e] at hy
        refine wu_box ((Y.up hb).up h4') (by kernel_rfl) (Nat.le_refl 3) rfl fun w94 Y' hg _ => ?_
        exact hK _ _ ⟨((hw3.trans hb).trans h4').grownAt hg hn48, y, Y', (hy.grown A' hg).le (by omega), A'⟩
    · dsimp only at e2
      have hk' : k = up.length := by omega
      subst hk'
      refine drw_mk fun w95 h3' _ => ?_
      have hw3 := hw2.trans h3'
      replace Y := Y.up h3'; replace hB := hB.up h3'
      refine flEx_mk (fun _ _ v w' => ∃ t : TE, v = exV t ∧ BX 3 w' t ((0 - cc : Int) : Rat)) (fun _ _ _ _ _ ⟨t, q1, q2⟩ hb => ⟨t, q1, q2.up hb⟩) ?_
      refine rd_boxN Y (by kernel_rfl) rfl ?_
      refine rd_box (by kernel_rfl) (X.up (hw.trans hw3)) (i := 2) rfl rfl ?_
      refine at_int tyI64 (by kernel_rfl) (H.up (hw.trans hw3)).b rfl (by have := v4.1; omega) fun c' hc' => ?_
      rw [hcc] at hc'; cases hc'
      refine z_i64 (by omega) ?_
      refine flc_mk (fun w102 hb _ => call_mono (wholeX (0 - cc) w102 ⟨by omega, by omega⟩) fun y w' ⟨hy, _, _, hb'⟩ => ⟨hb', y, rfl, hy⟩) (fun (x106 : TE) => ?_)
      refine flend_mk fun w107 hb hf => ?_
      obtain ⟨⟨t1, e1, B1⟩, _⟩ := hf
      have e1' := exV_inj (t := x106) e1
      subst e1'
      refine call_mono (plusX t x106 _ _ (3 + 9 * up.length) 3 w107 (hB.up hb) B1 (by omega) (by omega)) ?_
      rintro (y : TE) w110 ⟨hy, _, _, h4'⟩
      refine call_mono (signX y _ _ w110 hy (by omega)) ?_
      rintro _ w112 ⟨rfl, h5'⟩
      have hw' := ((hw3.trans hb).trans h4').trans h5'
      have key : rsign (dotN row L up.length + ((0 - cc : Int) : Rat)) = 0 ↔ dotN row L up.length = (cc : Rat) := by
        rw [Int.zero_sub, Rat.intCast_neg]; exact same_iff
      refine br_ne (fun el => no (h.trans (hw.trans hw')) fun s => el (key.2 (s.rows i row cc hrow hcc))) (fun el => ?_)
      refine z_i64 (by dsimp only; omega) ?_
      refine hag _ (by omega) ⟨hw.trans hw', fun j hj q c q1 q2 => ?_⟩
      rcases Nat.lt_or_ge j i with hlt | hge
      · exact hq j hlt q c q1 q2
      · have : j = i := by omega
        subst this
        rw [hrow] at q1; cases q1
        rw [hcc] at q2; cases q2
        exact key.1 el
  · dsimp only at e
    exact ⟨true, rfl, ⟨fun _ => ⟨e0, by omega, Q1, fun i q c q1 q2 => hq i (by have := (List.getElem?_eq_some_iff.1 q1).1; omega) q c q1 q2⟩, fun _ => rfl⟩, h.trans hw⟩
end Go.Proofs.Ytajpdnphamomjaa

/- When numbers are a solution: the program. -/

namespace Go.Proofs.Ytajpdnphamomjaa
open Go.RowKit Go.Q Go.Q.Num Go.V

set_option maxHeartbeats 1600000 in
theorem solL (u r b x : Hdr) (up : List Int) (T : List (List Int)) (rt : List Int) (L : List (Int × Int)) (w : World) (H : Sys w u r b up T rt) (HL : Sl w x.1 x.2.1 x.2.2 2 (L.flatMap encF)) (hI : ∀ p ∈ L, I64 p.1 ∧ I64 p.2) :
    call Try.prog 32 [sysv u r b, .slice x.1 x.2.1 x.2.2] (.one (.one .bool)) w (fun v w' => (v = true ↔ SolP up T rt L) ∧ bel w w') := by
  refine call_of (S32_calls u.1 u.2.1 u.2.2 r.1 r.2.1 r.2.2 b.1 b.2.1 b.2.2 x.1 x.2.1 x.2.2 w _ ?_)
  unfold S32
  have hu := H.u.int
  have hT := H.r.len
  have hb := H.b.int
  have hl := fr_len HL
  have no : ∀ {w' : World}, bel w w' → (SolP up T rt L → False) → ∃ v : Bool, Value.bool false = (RS.one (.one .bool)).val v ∧ (v = true ↔ SolP up T rt L) ∧ bel w w' := fun hb q => ⟨false, rfl, ⟨fun e => (Bool.noConfusion e), fun s => (q s).elim⟩, hb⟩
  refine wr_box fun x1 w2 X h _ _ => ?_
  replace X : Box w2 x1 (sysc u r b) := X
  replace H := H.up h; replace HL := HL.up h
  refine rd_boxN X (by kernel_rfl) rfl ?_
  refine call_mono (validL u r b up T rt w2 H) ?_
  rintro x4 w5 ⟨rfl, h'⟩
  replace h := h.trans h'; replace X := X.up h'; replace H := H.up h'; replace HL := HL.up h'; clear h'
  have kl := HL.le
  refine br_ne (fun e => no h fun s => e s.ok) (fun e0 => ?_)
  obtain ⟨v1, v2, v3, v4⟩ := sysE_ok e0
  refine rd_box0 (by kernel_rfl) X rfl rfl ?_
  refine br_ne (fun e => no h fun s => ?_) (fun e1 => ?_)
  · have := s.len; dsimp only at e; omega
  dsimp only at e1
  refine loop_up x.2.1 (fun i w' => bel w5 w' ∧ ∀ j, j < i → ∀ p u, L[j]? = some p → up[j]? = some u → IsFrac p.1 p.2 ∧ ¬ p.1 < 0 ∧ ¬ ((u : Rat) < ratv p.1 p.2)) ⟨bel.refl _, fun j h => by omega⟩ fun i w9 hi ⟨hw, hq⟩ again hag _ => ?_
  refine br_dec (fun e => ?_) (fun e => ?_)
  · dsimp only at e
    obtain ⟨p, hp⟩ : ∃ p, L[i]? = some p := ⟨_, List.getElem?_eq_getElem (by omega)⟩
    obtain ⟨uu, huu⟩ : ∃ uu, up[i]? = some uu := ⟨_, List.getElem?_eq_getElem (by omega)⟩
    have hpi := hI p (mem_at hp)
    have hui := v3.1 uu (mem_at huu)
    refine at_frac (HL.up hw) rfl hp ?_
    refine boxF fun x12 w14 h' Z _ => ?_
    replace hw := hw.trans h'
    refine drw_mk fun w15 h' _ => ?_
    replace hw := hw.trans h'; replace Z := Z.up h'
    refine flEx_mk (fun i _ v w' => (i = 1 → v = .bool (decide (IsFrac p.1 p.2))) ∧ (i = 10 → ∃ t : TE, v = exV t ∧ EX 2 w' t (ratv p.1 p.2))) (fun _ _ _ _ _ h hb => ⟨h.1, fun e => by obtain ⟨t, q1, q2⟩ := h.2 e; exact ⟨t, q1, q2.up hb⟩⟩) ?_
    refine rd_boxN Z (by kernel_rfl) rfl ?_
    refine flc_mk (fun w14 hb _ => call_mono (callB (validF p.1 p.2 w14 hpi.1.1 hpi.1.2 hpi.2.1 hpi.2.2)) fun y w' ⟨hy, hb'⟩ => ⟨hb', fun _ => by rw [hy], fun e => by omega⟩) (fun x22 => ?_)
    refine br_not (fun ev => flend_mk fun w19 hb hf => no (h.trans (hw.trans hb)) fun s => ?_) (fun ev => ?_)
    · have f1 : x22 = decide (IsFrac p.1 p.2) := by have := hf.1.1 rfl; injection this
      rw [ev, decide_eq_true (s.each i p uu hp huu).1] at f1
      cases f1
    refine rd_box0 (by kernel_rfl) Z rfl rfl ?_
    refine br_dec (fun en => flend_mk fun w23 hb hf => no (h.trans (hw.trans hb)) fun s => (s.each i p uu hp huu).2.1 en) (fun en => ?_)
    refine rd_boxN Z (by kernel_rfl) rfl ?_
    refine flc_mk (fun w29 hb hf => ?_) (fun (x33 : TE) => ?_)
    · have f1 : x22 = decide (IsFrac p.1 p.2) := by have := hf.1.1 rfl; injection this
      have hF : IsFrac p.1 p.2 := by rw [ev] at f1; exact of_decide_eq_true f1.symm
      exact call_mono (fromX w29 hF) fun y w' ⟨hy, hb'⟩ => ⟨hb', fun e => by omega, fun _ => ⟨y, rfl, hy⟩⟩
    refine rd_box0 (by kernel_rfl) (X.up hw) rfl rfl ?_
    refine at_int tyI64 (by kernel_rfl) (H.up hw).u rfl (by omega) fun y hy => ?_
    rw [huu] at hy; cases hy
    refine flend_mk fun w37 hb hf => ?_
    have f1 : x22 = decide (IsFrac p.1 p.2) := by have := hf.2.1.1 rfl; injection this
    obtain ⟨t, ht, hB⟩ := hf.1.2 rfl
    have ht' := exV_inj (t := x33) ht
    subst ht'
    have hF : IsFrac p.1 p.2 := by rw [ev] at f1; exact of_decide_eq_true f1.symm
    refine call_mono (wholeF uu w37 (i64_of (by omega))) ?_
    rintro (y : TE) w40 ⟨hy, _, _, h2'⟩
    refine call_mono (cmpX x33 y _ _ 2 2 w40 (hB.up h2') hy (by omega) (by omega)) ?_
    rintro _ w42 ⟨rfl, h3'⟩
    have hw' := ((hw.trans hb).trans h2').trans h3'
    refine br_dec (fun el => no (h.trans hw') fun s => (s.each i p uu hp huu).2.2 (cmpq_gt0.1 el)) (fun el => ?_)
    refine z_i64 (by dsimp only; omega) ?_
    refine hag _ (by omega) ⟨hw', fun j hj p' u' q1 q2 => ?_⟩
    rcases Nat.lt_or_ge j i with q | q
    · exact hq j q p' u' q1 q2
    · have : j = i := by omega
      subst this
      rw [hp] at q1; cases q1
      rw [huu] at q2; cases q2
      exact ⟨hF, en, fun q => el (cmpq_gt0.2 q)⟩
  dsimp only at e
  have Q1 : ∀ (k : Nat) p u, L[k]? = some p → up[k]? = some u → IsFrac p.1 p.2 ∧ ¬ p.1 < 0 ∧ ¬ ((u : Rat) < ratv p.1 p.2) := fun k p u q1 q2 => hq k (by have := (List.getElem?_eq_some_iff.1 q1).1; omega) p u q1 q2
  clear hq hag again
  replace h := h.trans hw; replace X := X.up hw; replace H := H.up hw; replace HL := HL.up hw; clear hw hi e
  refine rd_box (by kernel_rfl) X (i := 1) rfl rfl ?_
  refine loop_up r.2.1 (fun i w' => bel w9 w' ∧ ∀ j, j < i → ∀ q c, T[j]? = some q → rt[j]? = some c → dotN q L up.length = (c : Rat)) ⟨bel.refl _, fun j h => by omega⟩ fun i w47 hi ⟨hw, hq⟩ again hag _ => ?_
  refine br_dec (fun e => ?_) (fun e => ?_)
  · dsimp only at e
    obtain ⟨row, hrow⟩ : ∃ row, T[i]? = some row := ⟨_, List.getElem?_eq_getElem (by omega)⟩
    obtain ⟨cc, hcc⟩ : ∃ cc, rt[i]? = some cc := ⟨_, List.getElem?_eq_getElem (by have := v4.1; omega)⟩
    have hrl := v4.2 row (mem_at hrow)
    have hci := v3.2.1 cc (mem_at hcc)
    refine (H.up hw).r.at tyTab (by kernel_rfl) rfl (by omega) fun y row' h1 HR => ?_
    rw [hrow] at h1; cases h1
    have hry : row.length = y.2.1 := Sl.int HR
    refine call_mono (wholeF 0 w47 ⟨by omega, by omega⟩) ?_
    rintro (t0 : TE) w51 ⟨hB0, _, _, h'⟩
    refine var_mk (z := .agg #[.bool false, .slice none 0 0, .slice none 0 0]) (by kernel_rfl) (by kernel_rfl) rfl rfl fun x52 w54 Y h2' hy => ?_
    replace Y : Box w54 x52 (boxc t0) := Y
    have A0 : ApT x52 t0 (0 : Rat) := ApT.oldE hB0 (by omega)
    have hn52 : w47.heap.size ≤ x52.block := by have := h'.size; omega
    refine loop_up y.2.1 (fun k w' => bel w47 w' ∧ ∃ t, Box w' x52 (boxc t) ∧ EX (2 + 5 * k) w' t (dotN row L k) ∧ ApT x52 t (dotN row L k)) ⟨h'.trans h2', t0, Y, hB0.up h2', A0⟩ fun k w57 hk ⟨hw2, t, Y, hB, hA⟩ again' hag' _ => ?_
    refine br_dec (fun e2 => ?_) (fun e2 => ?_)
    · dsimp only at e2
      obtain ⟨p, hp⟩ : ∃ p, L[k]? = some p := ⟨_, List.getElem?_eq_getElem (by omega)⟩
      obtain ⟨c, hc⟩ : ∃ c, row[k]? = some c := ⟨_, List.getElem?_eq_getElem (by omega)⟩
      obtain ⟨uu, huu⟩ : ∃ uu, up[k]? = some uu := ⟨_, List.getElem?_eq_getElem (by omega)⟩
      have hF := (Q1 k p uu hp huu).1
      have hc2 := v3.2.2 row (mem_at hrow) c (mem_at hc)
      refine join_mk (fun _ w' => bel w47 w' ∧ ∃ t, Box w' x52 (boxc t) ∧ EX (2 + 5 * (k + 1)) w' t (dotN row L (k + 1)) ∧ ApT x52 t (dotN row L (k + 1))) (fun K hK => ?_) (fun _ w' hh _ => z_i64 (by dsimp only; omega) (hag' _ (by omega) hh))
      have same : dotT row L k = 0 → K () w57 := fun q => by
        have e : dotN row L (k + 1) = dotN row L k := by
          show dotN row L k + dotT row L k = _
          rw [q, Rat.add_zero]
        exact hK _ _ ⟨hw2, t, Y, by rw [e]; exact hB.le (by omega), by rw [e]; exact hA⟩
      refine at_int tyI64 (by kernel_rfl) (HR.kept hw2) rfl (by omega) fun c' hc' => ?_
      rw [hc] at hc'; cases hc'
      refine br_ne (fun n2 => ?_) (fun n2 => same (dotT_c0 hc hp n2))
      refine at_fst (HL.up (hw.trans hw2)) rfl hp ?_
      refine br_ne (fun n1 => ?_) (fun n1 => same (dotT_p0 hc hp n1))
      refine drw_mk fun w66 h3' _ => ?_
      have hw3 := hw2.trans h3'
      replace Y := Y.up h3'; replace hB := hB.up h3'
      refine flEx_mk (fun i _ v w' => (i = 5 → ∃ t : TE, v = exV t ∧ EX 2 w' t (ratv p.1 p.2)) ∧ (i = 7 → ∃ t : TE, v = exV t ∧ EX 2 w' t (c : Rat)) ∧ (i = 8 → ∃ t : TE, v = exV t ∧ EX 4 w' t (ratv p.1 p.2 * (c : Rat))))
        (fun _ _ _ _ _ h hb => ⟨fun e => by obtain ⟨t, q1, q2⟩ := h.1 e; exact ⟨t, q1, q2.up hb⟩, fun e => by obtain ⟨t, q1, q2⟩ := h.2.1 e; exact ⟨t, q1, q2.up hb⟩, fun e => by obtain ⟨t, q1, q2⟩ := h.2.2 e; exact ⟨t, q1, q2.up hb⟩⟩) ?_
      refine rd_boxN Y (by kernel_rfl) rfl ?_
      refine at_frac (HL.up (hw.trans hw3)) rfl hp ?_
      refine flc_mk (fun w70 hb _ => call_mono (fromX w70 hF) fun y w' ⟨hy, hb'⟩ => ⟨hb', fun _ => ⟨y, rfl, hy⟩, fun e => by omega, fun e => by omega⟩) (fun (x75 : TE) => ?_)
      refine flc_mk (fun w80 hb _ => call_mono (wholeF c w80 ⟨by omega, by omega⟩) fun y w' ⟨hy, _, _, hb'⟩ => ⟨hb', fun e => by omega, fun _ => ⟨y, rfl, hy⟩, fun e => by omega⟩) (fun (x80 : TE) => ?_)
      refine flc_mk (fun w85 hb hf => ?_) (fun (x85 : TE) => ?_)
      · obtain ⟨⟨_, g2, _⟩, ⟨g1, _⟩, _⟩ := hf
        obtain ⟨t1, e1, B1⟩ := g1 rfl
        obtain ⟨t2, e2, B2⟩ := g2 rfl
        have e1' := exV_inj (t := x75) e1
        have e2' := exV_inj (t := x80) e2
        subst e1' e2'
        exact call_mono (mulE x75 x80 _ _ 2 2 w85 B1 B2 (by omega) (by omega)) fun y w' ⟨hy, _, _, hb'⟩ => ⟨hb', fun e => by omega, fun e => by omega, fun _ => ⟨y, rfl, hy⟩⟩
      · refine flend_mk fun w90 hb hf => ?_
        obtain ⟨⟨_, _, g⟩, _⟩ := hf
        obtain ⟨t1, e1, B1⟩ := g rfl
        have e1' := exV_inj (t := x85) e1
        subst e1'
        refine call_mono (addE t x85 _ _ (2 + 5 * k) 4 w90 (hB.up hb) B1 (by omega) (by omega)) ?_
        rintro (y : TE) w93 ⟨hy, f1, f2, h4'⟩
        have A' : ApT x52 y (dotN row L (k + 1)) := ApT.fr (Y.up hb) f1 f2
        have e : dotN row L (k + 1) = dotN row L k + ratv p.1 p.2 * (c : Rat) := by
          show dotN row L k + dotT row L k = _
          rw [dotT_at hc hp]
        rw [← e] at hy
        refine wu_box ((Y.up hb).up h4') (by kernel_rfl) (Nat.le_refl 3) rfl fun w94 Y' hg _ => ?_
        exact hK _ _ ⟨((hw3.trans hb).trans h4').grownAt hg hn52, y, Y', (hy.grownA A' hg).le (by omega), A'⟩
    · dsimp only at e2
      have hk' : k = up.length := by omega
      subst hk'
      refine drw_mk fun w91 h3' _ => ?_
      have hw3 := hw2.trans h3'
      replace Y := Y.up h3'; replace hB := hB.up h3'
      refine flEx_mk (fun _ _ v w' => ∃ t : TE, v = exV t ∧ EX 2 w' t (cc : Rat)) (fun _ _ _ _ _ ⟨t, q1, q2⟩ hb => ⟨t, q1, q2.up hb⟩) ?_
      refine rd_boxN Y (by kernel_rfl) rfl ?_
      refine rd_box (by kernel_rfl) (X.up (hw.trans hw3)) (i := 2) rfl rfl ?_
      refine at_int tyI64 (by kernel_rfl) (H.up (hw.trans hw3)).b rfl (by have := v4.1; omega) fun c' hc' => ?_
      rw [hcc] at hc'; cases hc'
      refine flc_mk (fun w102 hb _ => call_mono (wholeF cc w102 ⟨by omega, by omega⟩) fun y w' ⟨hy, _, _, hb'⟩ => ⟨hb', y, rfl, hy⟩) (fun (x101 : TE) => ?_)
      refine flend_mk fun w102 hb hf => ?_
      obtain ⟨⟨t1, e1, B1⟩, _⟩ := hf
      have e1' := exV_inj (t := x101) e1
      subst e1'
      refine call_mono (cmpX t x101 _ _ (2 + 5 * up.length) 2 w102 (hB.up hb) B1 (by omega) (by omega)) ?_
      rintro _ w105 ⟨rfl, h5'⟩
      have hw' := (hw3.trans hb).trans h5'
      refine br_ne (fun el => no (h.trans (hw.trans hw')) fun s => el (cmpq_eq0.2 (s.rows i row cc hrow hcc))) (fun el => ?_)
      refine z_i64 (by dsimp only; omega) ?_
      refine hag _ (by omega) ⟨hw.trans hw', fun j hj q c q1 q2 => ?_⟩
      rcases Nat.lt_or_ge j i with hlt | hge
      · exact hq j hlt q c q1 q2
      · have : j = i := by omega
        subst this
        rw [hrow] at q1; cases q1
        rw [hcc] at q2; cases q2
        exact cmpq_eq0.1 el
  · dsimp only at e
    exact ⟨true, rfl, ⟨fun _ => ⟨e0, by omega, Q1, fun i q c q1 q2 => hq i (by have := (List.getElem?_eq_some_iff.1 q1).1; omega) q c q1 q2⟩, fun _ => rfl⟩, h.trans hw⟩
end Go.Proofs.Ytajpdnphamomjaa

/- The laws LinearChecks and IntegralChecks: the walks. -/

namespace Go.Proofs.Ytajpdnphamomjaa
open Go.RowKit Go.Q Go.Q.Num Go.V

/-! ### whole numbers -/
def dotJ (r xs : List Int) (k : Nat) : Int :=
  match r[k]?, xs[k]? with
  | some c, some x => c * x
  | _, _ => 0
def dotI (r xs : List Int) : Nat → Int
  | 0 => 0
  | k + 1 => dotI r xs k + dotJ r xs k
abbrev one1s (xs : List Int) : List (Int × Int) := xs.map fun n => (n, 1)
theorem ratv_one (n : Int) : ratv n 1 = (n : Rat) := by unfold ratv; exact Rat.mkRat_one n
theorem dotN_int (r xs : List Int) : ∀ k, dotN r (one1s xs) k = ((dotI r xs k : Int) : Rat)
  | 0 => rfl
  | k + 1 => by
    show dotN r (one1s xs) k + dotT r (one1s xs) k = ((dotI r xs k + dotJ r xs k : Int) : Rat)
    rw [dotN_int r xs k]
    unfold dotT dotJ
    rw [List.getElem?_map]
    cases r[k]? with
    | none => simp [Rat.add_zero]
    | some c => cases xs[k]? with
      | none => simp [Rat.add_zero]
      | some x => simp only [Option.map_some]; rw [ratv_one, Rat.intCast_add, Rat.intCast_mul, Rat.mul_comm]
theorem dotI_step {r xs : List Int} {k : Nat} {c x : Int} (h1 : r[k]? = some c) (h2 : xs[k]? = some x) : dotI r xs (k + 1) = dotI r xs k + c * x := by
  show dotI r xs k + dotJ r xs k = _
  unfold dotJ
  rw [h1, h2]
theorem each_int {n u : Int} (hu : u ≤ 1000000000) : IsFrac n 1 ∧ ¬ n < 0 ∧ ¬ ((u : Rat) < ratv n 1) ↔ 0 ≤ n ∧ n ≤ u := by
  rw [ratv_one, Rat.intCast_lt_intCast]
  constructor
  · rintro ⟨_, h1, h2⟩; omega
  · rintro ⟨h1, h2⟩
    exact ⟨⟨by omega, by omega, by omega, by omega, Nat.gcd_one_right _⟩, by omega, by omega⟩

end Go.Proofs.Ytajpdnphamomjaa

/- The walk of IntegralChecks; arguments. -/

namespace Go.Proofs.Ytajpdnphamomjaa
open Go.RowKit Go.Q Go.Q.Num Go.V

theorem sl_inj {x : Option Addr × Nat × Nat} {h : Hdr} (e : Value.slice x.1 x.2.1 x.2.2 = hv h) : x = h := by
  obtain ⟨a, b, c⟩ := x
  obtain ⟨a', b', c'⟩ := h
  simp only [hv, Value.slice.injEq] at e
  obtain ⟨rfl, rfl, rfl⟩ := e
  rfl
/-! ### arguments -/
set_option maxRecDepth 100000 in
theorem readFrac {w : World} {ch : List Value} (h : Go.Q.Read Try.prog w 23 ch) : ∃ p : Int × Int, ch = encF p ∧ I64 p.1 ∧ I64 p.2 := by
  obtain ⟨hl, h⟩ := Go.Q.Read.struct Try.underlying23 h
  have hsz' : ch.length = 2 := by rw [hl]; kernel_rfl
  obtain ⟨x, y, rfl⟩ : ∃ x y, ch = [x, y] := by
    rcases ch with _ | ⟨x, _ | ⟨y, _ | ⟨z, l⟩⟩⟩ <;> simp at hsz'
    exact ⟨x, y, rfl⟩
  have e1 : Go.Q.Read Try.prog w 2 [x] := h _ (List.mem_cons_self ..)
  have e2 : Go.Q.Read Try.prog w 2 [y] := h _ (List.mem_cons_of_mem _ (List.mem_cons_self ..))
  obtain ⟨n, hn, hw⟩ := Go.Q.Read.int Try.underlying2 e1
  obtain ⟨d, hd, hw'⟩ := Go.Q.Read.int Try.underlying2 e2
  cases hn; cases hd
  exact ⟨(n, d), rfl, bounds_i64 hw, bounds_i64 hw'⟩
set_option maxRecDepth 100000 in
theorem argFracs {w : World} {v : Value} (h : Go.Q.Arg Try.prog w 33 v) : ∃ x, ∃ L : List (Int × Int), v = hv x ∧ Sl w x.1 x.2.1 x.2.2 2 (L.flatMap encF) ∧ ∀ p ∈ L, I64 p.1 ∧ I64 p.2 := by
  obtain ⟨a, n, c, rfl, h⟩ := Go.V.Arg.slice Try.underlying33 h
  obtain ⟨a1, n1, c1, L, q1, _, s1, b1⟩ := Go.V.Read.elems (enc := encF) (R := fun p => I64 p.1 ∧ I64 p.2) encF_len (by omega) (fun _ h => readFrac h) Try.underlying33 (by kernel_rfl) h
  cases q1
  exact ⟨(a, n, c), L, rfl, s1, b1⟩
end Go.Proofs.Ytajpdnphamomjaa
