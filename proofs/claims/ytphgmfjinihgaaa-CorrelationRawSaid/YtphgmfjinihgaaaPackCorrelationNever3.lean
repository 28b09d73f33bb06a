import Derived.KernelRfl
import Derived.Test.YtphgmfjinihgaaaPackCorrelationNever2

/- The conditions of functions, printed by our tool; each is checked against the code by the kernel. -/



namespace Go.Proofs
open Go Go.V Go.RowKit
/-- (*querylab/querylabmade.Tape).Next -/
def S21 (t_ : (Option Addr)) (n_ : Int) (w0 : World) (R : Value → World → Prop) : Prop :=
 br (decide (n_ < 1)) (R (.int .i64 0) w0)
 (join (T := (Int × Unit)) (fun (s2 : (Int × Unit)) w3 => ∀ _ : Nat → Value,
 nn t_ fun (a4 : Addr) =>
 rd Try.prog (Instr.loadAt 3 (.pointer (some (Addr.add a4 1)))) (.one (.int .i64)) w3 fun (x5 : Int) =>
 z (IntKind.wrap .i64 (x5 + 1)) fun (z6 : Int) =>
 nn t_ fun (a7 : Addr) =>
 wu Try.prog (Instr.storeAt 3 (.pointer (some (Addr.add a7 1))) (.int .i64 z6)) w3 fun (w8 : World) =>
 R (.int .i64 s2.1) w8)
  fun (K1 : (Int × Unit) → World → Prop) =>
 drw w0 fun w9 =>
 nn t_ fun (a10 : Addr) =>
 rd Try.prog (Instr.loadAt 3 (.pointer (some (Addr.add a10 1)))) (.one (.int .i64)) w9 fun (x11 : Int) =>
 nn t_ fun (a12 : Addr) =>
 rd Try.prog (Instr.loadAt 22 (.pointer (some a12))) (.one .slice) w9 fun (x13 : (Option Addr × Nat × Nat)) =>
 br (decide (x11 < ((x13.2.1 : Nat) : Int))) (drw w9 fun w14 =>
 nn t_ fun (a15 : Addr) =>
 rd Try.prog (Instr.loadAt 22 (.pointer (some a15))) (.one .slice) w14 fun (x16 : (Option Addr × Nat × Nat)) =>
 nn t_ fun (a17 : Addr) =>
 rd Try.prog (Instr.loadAt 3 (.pointer (some (Addr.add a17 1)))) (.one (.int .i64)) w14 fun (x18 : Int) =>
 rdp Try.prog (Instr.indexAt 22 (.slice x16.1 x16.2.1 x16.2.2) (.int .i64 x18)) (.one .addr) fun (x19 : Addr) =>
 rd Try.prog (Instr.loadAt 3 (.pointer (some x19))) (.one (.int .i64)) w14 fun (x20 : Int) =>
 rdp Try.prog (cmpS .rem 3 (.tmp 27) (.tmp 28) (.int .i64 x20) (.int .i64 n_)) (.one (.int .i64)) fun (x21 : Int) =>
 br (decide (x21 < 0)) (z (IntKind.wrap .i64 (x21 + n_)) fun (z22 : Int) =>
 K1 (z22, ()) w14)
 (K1 (x21, ()) w14))
 (K1 (0, ()) w9))
def H21 : Hints := ⟨[(0, 17, [(5, (.one (.int .i64)))])], [(4, 9), (5, 11)], [], []⟩
set_option maxRecDepth 100000 in
theorem S21_eq (t_ : (Option Addr)) (n_ : Int) (w0 : World) (R : Value → World → Prop) : vcFn Try.prog H21 Try.f21 [(.pointer t_), (.int .i64 n_)] w0 R = S21 t_ n_ w0 R := by kernel_rfl
set_option maxRecDepth 100000 in
theorem S21_calls (t_ : (Option Addr)) (n_ : Int) (w0 : World) (R : Value → World → Prop) (h : S21 t_ n_ w0 R) : Calls Try.prog 21 #[(.pointer t_), (.int .i64 n_)] w0 (ret R) := by
  rw [← S21_eq] at h; exact vcFn_sound follows_ Try.func21 h

/-- querylab/querylablaw21.made -/
def S18 (t_ : (Option Addr)) (w0 : World) (R : Value → World → Prop) : Prop :=
 wr Try.prog (Instr.alloc 25 true (.tuple #[])) (.one .addr) w0 fun (x1 : Addr) (w2 : World) =>
 call Try.prog 21 [(.pointer t_), (.int .i64 5)] (.one (.one (.int .i64))) w2 fun (x3 : Int) (w4 : World) =>
 z (IntKind.wrap .i64 (1 + x3)) fun (z5 : Int) =>
 call Try.prog 21 [(.pointer t_), (.int .i64 5)] (.one (.one (.int .i64))) w4 fun (x6 : Int) (w7 : World) =>
 z (IntKind.wrap .i64 (1 + x6)) fun (z8 : Int) =>
 wr Try.prog (Instr.alloc 25 true (.tuple #[])) (.one .addr) w7 fun (x9 : Addr) (w10 : World) =>
 loop (T := ((Option Addr × Nat × Nat) × Int × Unit)) ((none, 0, 0), 0, ()) w10 fun (again11 : ((Option Addr × Nat × Nat) × Int × Unit) → World → Prop) (s12 : ((Option Addr × Nat × Nat) × Int × Unit)) w13 => ∀ _ : Nat → Value,
 br (decide (s12.2.1 < z5)) (loop (T := ((Option Addr × Nat × Nat) × (Option Addr × Nat × Nat) × Int × Unit)) ((none, 0, 0), (none, 0, 0), 0, ()) w13 fun (again14 : ((Option Addr × Nat × Nat) × (Option Addr × Nat × Nat) × Int × Unit) → World → Prop) (s15 : ((Option Addr × Nat × Nat) × (Option Addr × Nat × Nat) × Int × Unit)) w16 => ∀ _ : Nat → Value,
 br (decide (s15.2.2.1 < z8)) (call Try.prog 21 [(.pointer t_), (.int .i64 5)] (.one (.one (.int .i64))) w16 fun (x17 : Int) (w18 : World) =>
 wr Try.prog (Instr.buildSlice 22 1 #[(0, (.int .i64 x17))]) (.one .slice) w18 fun (x19 : (Option Addr × Nat × Nat)) (w20 : World) =>
 wr Try.prog (Builtin.append_ #[22, 22] 22 #[(.slice s15.1.1 s15.1.2.1 s15.1.2.2), (.slice x19.1 x19.2.1 x19.2.2)]) (.one .slice) w20 fun (x21 : (Option Addr × Nat × Nat)) (w22 : World) =>
 call Try.prog 21 [(.pointer t_), (.int .i64 3)] (.one (.one (.int .i64))) w22 fun (x23 : Int) (w24 : World) =>
 z (IntKind.wrap .i64 (x17 + x23)) fun (z25 : Int) =>
 call Try.prog 21 [(.pointer t_), (.int .i64 2)] (.one (.one (.int .i64))) w24 fun (x26 : Int) (w27 : World) =>
 z (IntKind.wrap .i64 (z25 - x26)) fun (z28 : Int) =>
 z (if z28 > 0 then z28 else 0) fun (z29 : Int) =>
 wr Try.prog (Instr.buildSlice 22 1 #[(0, (.int .i64 z29))]) (.one .slice) w27 fun (x30 : (Option Addr × Nat × Nat)) (w31 : World) =>
 wr Try.prog (Builtin.append_ #[22, 22] 22 #[(.slice s15.2.1.1 s15.2.1.2.1 s15.2.1.2.2), (.slice x30.1 x30.2.1 x30.2.2)]) (.one .slice) w31 fun (x32 : (Option Addr × Nat × Nat)) (w33 : World) =>
 z (IntKind.wrap .i64 (s15.2.2.1 + 1)) fun (z34 : Int) =>
 again14 ((x21.1, x21.2.1, x21.2.2), (x32.1, x32.2.1, x32.2.2), z34, ()) w33)
 (drw w16 fun w35 => flExC w35 fun E38 G37 Y36 F39 =>
 flcC Y36 2 E38 w35 (fun _w41 => True) (fun (D42 : Nat → Bool) (w40 : World) =>
   wr Try.prog (Instr.buildSlice 23 1 #[(0, (.slice s15.1.1 s15.1.2.1 s15.1.2.2))]) (.one .slice) w40 fun (x43 : (Option Addr × Nat × Nat)) (w44 : World) =>
 (E38 w40 w44 ∧ G37 2 w40 w44 ∧ Y36 (setD D42 2) w44 ∧ F39 2 [] (.slice x43.1 x43.2.1 x43.2.2) w44))
  fun (x45 : (Option Addr × Nat × Nat)) =>
 flcC Y36 3 E38 w35 (fun w47 => F39 2 [] (.slice x45.1 x45.2.1 x45.2.2) w47 ∧ True) (fun (D48 : Nat → Bool) (w46 : World) =>
   wr Try.prog (Builtin.append_ #[23, 23] 23 #[(.slice s12.1.1 s12.1.2.1 s12.1.2.2), (.slice x45.1 x45.2.1 x45.2.2)]) (.one .slice) w46 fun (x49 : (Option Addr × Nat × Nat)) (w50 : World) =>
 (E38 w46 w50 ∧ G37 3 w46 w50 ∧ Y36 (setD D48 3) w50 ∧ F39 3 [(.slice s12.1.1 s12.1.2.1 s12.1.2.2), (.slice x45.1 x45.2.1 x45.2.2)] (.slice x49.1 x49.2.1 x49.2.2) w50))
  fun (x51 : (Option Addr × Nat × Nat)) =>
 rdE Try.prog (ER Y36 [8, 11] E38) (Instr.loadAt 23 (.pointer (some (Addr.add x9 2)))) (.one .slice) w35 fun (x52 : (Option Addr × Nat × Nat)) =>
 flcC Y36 7 E38 w35 (fun _w54 => True) (fun (D55 : Nat → Bool) (w53 : World) =>
   wr Try.prog (Instr.buildSlice 23 1 #[(0, (.slice s15.2.1.1 s15.2.1.2.1 s15.2.1.2.2))]) (.one .slice) w53 fun (x56 : (Option Addr × Nat × Nat)) (w57 : World) =>
 (E38 w53 w57 ∧ G37 7 w53 w57 ∧ Y36 (setD D55 7) w57 ∧ F39 7 [] (.slice x56.1 x56.2.1 x56.2.2) w57))
  fun (x58 : (Option Addr × Nat × Nat)) =>
 flendC Y36 [7, 3, 2] E38 w35 (fun w60 => F39 7 [] (.slice x58.1 x58.2.1 x58.2.2) w60 ∧ F39 3 [(.slice s12.1.1 s12.1.2.1 s12.1.2.2), (.slice x45.1 x45.2.1 x45.2.2)] (.slice x51.1 x51.2.1 x51.2.2) w60 ∧ F39 2 [] (.slice x45.1 x45.2.1 x45.2.2) w60 ∧ True) fun w59 =>
 wr Try.prog (Builtin.append_ #[23, 23] 23 #[(.slice x52.1 x52.2.1 x52.2.2), (.slice x58.1 x58.2.1 x58.2.2)]) (.one .slice) w59 fun (x61 : (Option Addr × Nat × Nat)) (w62 : World) =>
 wu Try.prog (Instr.storeAt 23 (.pointer (some (Addr.add x9 2))) (.slice x61.1 x61.2.1 x61.2.2)) w62 fun (w63 : World) =>
 z (IntKind.wrap .i64 (s12.2.1 + 1)) fun (z64 : Int) =>
 again11 ((x51.1, x51.2.1, x51.2.2), z64, ()) w63))
 (call Try.prog 10 [(.slice s12.1.1 s12.1.2.1 s12.1.2.2)] (.many [(.one .slice), (.one .slice), (.one .bool)]) w13 fun (x65 : ((Option Addr × Nat × Nat) × (Option Addr × Nat × Nat) × Bool × Unit)) (w66 : World) =>
 wu Try.prog (Instr.storeAt 22 (.pointer (some x9)) (.slice x65.1.1 x65.1.2.1 x65.1.2.2)) w66 fun (w67 : World) =>
 wu Try.prog (Instr.storeAt 22 (.pointer (some (Addr.add x9 1))) (.slice x65.2.1.1 x65.2.1.2.1 x65.2.1.2.2)) w67 fun (w68 : World) =>
 join (T := (Unit)) (fun (_s70 : (Unit)) w71 => ∀ _ : Nat → Value,
 rd Try.prog (Instr.loadAt 25 (.pointer (some x9))) (.agg [.slice, .slice, .slice]) w71 fun (x72 : ((Option Addr × Nat × Nat) × (Option Addr × Nat × Nat) × (Option Addr × Nat × Nat) × Unit)) =>
 wu Try.prog (Instr.storeAt 25 (.pointer (some x1)) (.agg #[(.slice x72.1.1 x72.1.2.1 x72.1.2.2), (.slice x72.2.1.1 x72.2.1.2.1 x72.2.1.2.2), (.slice x72.2.2.1.1 x72.2.2.1.2.1 x72.2.2.1.2.2)])) w71 fun (w73 : World) =>
 rd Try.prog (loadVar 25 x1) (.agg [.slice, .slice, .slice]) w73 fun (x74 : ((Option Addr × Nat × Nat) × (Option Addr × Nat × Nat) × (Option Addr × Nat × Nat) × Unit)) =>
 R (.tuple #[(.agg #[(.slice x74.1.1 x74.1.2.1 x74.1.2.2), (.slice x74.2.1.1 x74.2.1.2.1 x74.2.1.2.2), (.slice x74.2.2.1.1 x74.2.2.1.2.1 x74.2.2.1.2.2)]), (.slice s12.1.1 s12.1.2.1 s12.1.2.2)]) w73)
  fun (K69 : (Unit) → World → Prop) =>
 call Try.prog 21 [(.pointer t_), (.int .i64 6)] (.one (.one (.int .i64))) w68 fun (x75 : Int) (w76 : World) =>
 br (x75 == 0) (call Try.prog 21 [(.pointer t_), (.int .i64 z5)] (.one (.one (.int .i64))) w76 fun (x77 : Int) (w78 : World) =>
 call Try.prog 21 [(.pointer t_), (.int .i64 z5)] (.one (.one (.int .i64))) w78 fun (x79 : Int) (w80 : World) =>
 rd Try.prog (Instr.loadAt 22 (.pointer (some x9))) (.one .slice) w80 fun (x81 : (Option Addr × Nat × Nat)) =>
 rdp Try.prog (Instr.indexAt 22 (.slice x81.1 x81.2.1 x81.2.2) (.int .i64 x77)) (.one .addr) fun (x82 : Addr) =>
 rd Try.prog (Instr.loadAt 3 (.pointer (some x82))) (.one (.int .i64)) w80 fun (x83 : Int) =>
 br (decide (x83 > 0)) (rd Try.prog (Instr.loadAt 22 (.pointer (some x9))) (.one .slice) w80 fun (x84 : (Option Addr × Nat × Nat)) =>
 rdp Try.prog (Instr.indexAt 22 (.slice x84.1 x84.2.1 x84.2.2) (.int .i64 x77)) (.one .addr) fun (x85 : Addr) =>
 rd Try.prog (Instr.loadAt 3 (.pointer (some x85))) (.one (.int .i64)) w80 fun (x86 : Int) =>
 z (IntKind.wrap .i64 (x86 - 1)) fun (z87 : Int) =>
 rdp Try.prog (Instr.indexAt 22 (.slice x84.1 x84.2.1 x84.2.2) (.int .i64 x77)) (.one .addr) fun (x88 : Addr) =>
 wu Try.prog (Instr.storeAt 3 (.pointer (some x88)) (.int .i64 z87)) w80 fun (w89 : World) =>
 rd Try.prog (Instr.loadAt 22 (.pointer (some x9))) (.one .slice) w89 fun (x90 : (Option Addr × Nat × Nat)) =>
 rdp Try.prog (Instr.indexAt 22 (.slice x90.1 x90.2.1 x90.2.2) (.int .i64 x79)) (.one .addr) fun (x91 : Addr) =>
 rd Try.prog (Instr.loadAt 3 (.pointer (some x91))) (.one (.int .i64)) w89 fun (x92 : Int) =>
 z (IntKind.wrap .i64 (x92 + 1)) fun (z93 : Int) =>
 rdp Try.prog (Instr.indexAt 22 (.slice x90.1 x90.2.1 x90.2.2) (.int .i64 x79)) (.one .addr) fun (x94 : Addr) =>
 wu Try.prog (Instr.storeAt 3 (.pointer (some x94)) (.int .i64 z93)) w89 fun (w95 : World) =>
 K69 (()) w95)
 (K69 (()) w80))
 (K69 (()) w76))
def H18 : Hints := ⟨[(2, 0, [(7, (.one .slice)), (8, (.one (.int .i64)))]), (2, 2, [(9, (.one .slice)), (10, (.one .slice)), (11, (.one (.int .i64)))]), (0, 70, [])], [(14, 8)], [], [1000014]⟩
set_option maxRecDepth 100000 in
theorem S18_eq (t_ : (Option Addr)) (w0 : World) (R : Value → World → Prop) : vcFn Try.prog H18 Try.f18 [(.pointer t_)] w0 R = S18 t_ w0 R := by kernel_rfl
set_option maxRecDepth 100000 in
theorem S18_calls (t_ : (Option Addr)) (w0 : World) (R : Value → World → Prop) (h : S18 t_ w0 R) : Calls Try.prog 18 #[(.pointer t_)] w0 (ret R) := by
  rw [← S18_eq] at h; exact vcFn_sound follows_ Try.func18 h

/-- (*querylab/correlation.flow).search -/
def S30 (f_ : (Option Addr)) (w0 : World) (R : Value → World → Prop) : Prop :=
 wr Try.prog (Instr.alloc 60 true (.tuple #[])) (.one .addr) w0 fun (x1 : Addr) (w2 : World) =>
 drw w2 fun w3 => flEx fun F4 =>
 nn f_ fun (a5 : Addr) =>
 rd Try.prog (Instr.loadAt 22 (.pointer (some (Addr.add a5 3)))) (.one .slice) w3 fun (x6 : (Option Addr × Nat × Nat)) =>
 flc bel w3 (fun _w8 => True) (fun (w7 : World) =>
   wr Try.prog (Instr.makeSlice 26 (.int .i64 ((x6.2.1 : Nat) : Int)) (.int .i64 ((x6.2.1 : Nat) : Int))) (.one .slice) w7 fun (x9 : (Option Addr × Nat × Nat)) (w10 : World) =>
 (bel w7 w10 ∧ F4 5 [] (.slice x9.1 x9.2.1 x9.2.2) w10))
  fun (x11 : (Option Addr × Nat × Nat)) =>
 nn f_ fun (a12 : Addr) =>
 rd Try.prog (Instr.loadAt 22 (.pointer (some (Addr.add a12 4)))) (.one .slice) w3 fun (x13 : (Option Addr × Nat × Nat)) =>
 flc bel w3 (fun _w15 => True) (fun (w14 : World) =>
   wr Try.prog (Instr.makeSlice 26 (.int .i64 ((x13.2.1 : Nat) : Int)) (.int .i64 ((x13.2.1 : Nat) : Int))) (.one .slice) w14 fun (x16 : (Option Addr × Nat × Nat)) (w17 : World) =>
 (bel w14 w17 ∧ F4 11 [] (.slice x16.1 x16.2.1 x16.2.2) w17))
  fun (x18 : (Option Addr × Nat × Nat)) =>
 nn f_ fun (a19 : Addr) =>
 rd Try.prog (Instr.loadAt 22 (.pointer (some (Addr.add a19 3)))) (.one .slice) w3 fun (x20 : (Option Addr × Nat × Nat)) =>
 flc bel w3 (fun _w22 => True) (fun (w21 : World) =>
   wr Try.prog (Instr.makeSlice 22 (.int .i64 ((x20.2.1 : Nat) : Int)) (.int .i64 ((x20.2.1 : Nat) : Int))) (.one .slice) w21 fun (x23 : (Option Addr × Nat × Nat)) (w24 : World) =>
 (bel w21 w24 ∧ F4 17 [] (.slice x23.1 x23.2.1 x23.2.2) w24))
  fun (x25 : (Option Addr × Nat × Nat)) =>
 nn f_ fun (a26 : Addr) =>
 rd Try.prog (Instr.loadAt 22 (.pointer (some (Addr.add a26 4)))) (.one .slice) w3 fun (x27 : (Option Addr × Nat × Nat)) =>
 flc bel w3 (fun _w29 => True) (fun (w28 : World) =>
   wr Try.prog (Instr.makeSlice 22 (.int .i64 ((x27.2.1 : Nat) : Int)) (.int .i64 ((x27.2.1 : Nat) : Int))) (.one .slice) w28 fun (x30 : (Option Addr × Nat × Nat)) (w31 : World) =>
 (bel w28 w31 ∧ F4 23 [] (.slice x30.1 x30.2.1 x30.2.2) w31))
  fun (x32 : (Option Addr × Nat × Nat)) =>
 flc bel w3 (fun _w34 => True) (fun (w33 : World) =>
   wr Try.prog (Instr.alloc 60 true (.tuple #[])) (.one .addr) w33 fun (x35 : Addr) (w36 : World) =>
 (bel w33 w36 ∧ F4 25 [] (.pointer (some x35)) w36))
  fun (x37 : Addr) =>
 flend bel w3 (fun w39 => (F4 25 [] (.pointer (some x37)) w39 ∧ F4 23 [] (.slice x32.1 x32.2.1 x32.2.2) w39 ∧ F4 17 [] (.slice x25.1 x25.2.1 x25.2.2) w39 ∧ F4 11 [] (.slice x18.1 x18.2.1 x18.2.2) w39 ∧ F4 5 [] (.slice x11.1 x11.2.1 x11.2.2) w39 ∧ True) ∧ List.Pairwise (fun a b => vblk a ≠ vblk b) ([(.pointer (some x37)), (.slice x32.1 x32.2.1 x32.2.2), (.slice x25.1 x25.2.1 x25.2.2), (.slice x18.1 x18.2.1 x18.2.2), (.slice x11.1 x11.2.1 x11.2.2)] : List Value)) fun w38 =>
 wu Try.prog (Instr.storeAt 60 (.pointer (some x37)) (.agg #[(.slice x11.1 x11.2.1 x11.2.2), (.slice x18.1 x18.2.1 x18.2.2), (.slice x25.1 x25.2.1 x25.2.2), (.slice x32.1 x32.2.1 x32.2.2)])) w38 fun (w40 : World) =>
 nn f_ fun (a41 : Addr) =>
 rd Try.prog (Instr.loadAt 22 (.pointer (some (Addr.add a41 3)))) (.one .slice) w40 fun (x42 : (Option Addr × Nat × Nat)) =>
 loop (T := ((Option Addr × Nat × Nat) × Int × Unit)) ((none, 0, 0), 0, ()) w40 fun (again43 : ((Option Addr × Nat × Nat) × Int × Unit) → World → Prop) (s44 : ((Option Addr × Nat × Nat) × Int × Unit)) w45 => ∀ _ : Nat → Value,
 br (decide (s44.2.1 < ((x42.2.1 : Nat) : Int))) (join (T := ((Option Addr × Nat × Nat) × Unit)) (fun (s47 : ((Option Addr × Nat × Nat) × Unit)) w48 => ∀ _ : Nat → Value,
 z (IntKind.wrap .i64 (s44.2.1 + 1)) fun (z49 : Int) =>
 again43 ((s47.1.1, s47.1.2.1, s47.1.2.2), z49, ()) w48)
  fun (K46 : ((Option Addr × Nat × Nat) × Unit) → World → Prop) =>
 rdp Try.prog (Instr.indexAt 22 (.slice x42.1 x42.2.1 x42.2.2) (.int .i64 s44.2.1)) (.one .addr) fun (x50 : Addr) =>
 rd Try.prog (Instr.loadAt 3 (.pointer (some x50))) (.one (.int .i64)) w45 fun (x51 : Int) =>
 br (decide (x51 > 0)) (drw w45 fun w52 => flExC w52 fun E55 G54 Y53 F56 =>
 rdE Try.prog (ER Y53 [7, 9] E55) (Instr.loadAt 26 (.pointer (some x37))) (.one .slice) w52 fun (x57 : (Option Addr × Nat × Nat)) =>
 rdE Try.prog (ER Y53 [9] E55) (Instr.loadAt 22 (.pointer (some (Addr.add x37 2)))) (.one .slice) w52 fun (x58 : (Option Addr × Nat × Nat)) =>
 rdp Try.prog (Instr.indexAt 26 (.slice x57.1 x57.2.1 x57.2.2) (.int .i64 s44.2.1)) (.one .addr) fun (x59 : Addr) =>
 flcC Y53 7 E55 w52 (fun _w61 => True) (fun (D62 : Nat → Bool) (w60 : World) =>
   wu Try.prog (Instr.storeAt 4 (.pointer (some x59)) (.bool true)) w60 fun (w63 : World) =>
 (E55 w60 w63 ∧ G54 7 w60 w63 ∧ Y53 (setD D62 7) w63 ∧ F56 7 [] undef w63))
  fun (_x64 : (Unit)) =>
 flendC Y53 [7] E55 w52 (fun w66 => F56 7 [] (.tuple #[]) w66 ∧ True) fun w65 =>
 rdp Try.prog (Instr.indexAt 22 (.slice x58.1 x58.2.1 x58.2.2) (.int .i64 s44.2.1)) (.one .addr) fun (x67 : Addr) =>
 wu Try.prog (Instr.storeAt 3 (.pointer (some x67)) (.int .i64 (-1))) w65 fun (w68 : World) =>
 wr Try.prog (Instr.buildSlice 22 1 #[(0, (.int .i64 s44.2.1))]) (.one .slice) w68 fun (x69 : (Option Addr × Nat × Nat)) (w70 : World) =>
 wr Try.prog (Builtin.append_ #[22, 22] 22 #[(.slice s44.1.1 s44.1.2.1 s44.1.2.2), (.slice x69.1 x69.2.1 x69.2.2)]) (.one .slice) w70 fun (x71 : (Option Addr × Nat × Nat)) (w72 : World) =>
 K46 ((x71.1, x71.2.1, x71.2.2), ()) w72)
 (K46 ((s44.1.1, s44.1.2.1, s44.1.2.2), ()) w45))
 (loop (T := ((Option Addr × Nat × Nat) × Unit)) ((s44.1.1, s44.1.2.1, s44.1.2.2), ()) w45 fun (again73 : ((Option Addr × Nat × Nat) × Unit) → World → Prop) (s74 : ((Option Addr × Nat × Nat) × Unit)) w75 => ∀ _ : Nat → Value,
 br (decide (((s74.1.2.1 : Nat) : Int) > 0)) (rdp Try.prog (Instr.indexAt 22 (.slice s74.1.1 s74.1.2.1 s74.1.2.2) (.int .i64 0)) (.one .addr) fun (x76 : Addr) =>
 rd Try.prog (Instr.loadAt 3 (.pointer (some x76))) (.one (.int .i64)) w75 fun (x77 : Int) =>
 nn f_ fun (a78 : Addr) =>
 rd Try.prog (Instr.loadAt 22 (.pointer (some (Addr.add a78 4)))) (.one .slice) w75 fun (x79 : (Option Addr × Nat × Nat)) =>
 loop (T := ((Option Addr × Nat × Nat) × Int × Unit)) ((s74.1.1, s74.1.2.1, s74.1.2.2), 0, ()) w75 fun (again80 : ((Option Addr × Nat × Nat) × Int × Unit) → World → Prop) (s81 : ((Option Addr × Nat × Nat) × Int × Unit)) w82 => ∀ _ : Nat → Value,
 br (decide (s81.2.1 < ((x79.2.1 : Nat) : Int))) (join (T := ((Option Addr × Nat × Nat) × Unit)) (fun (s84 : ((Option Addr × Nat × Nat) × Unit)) w85 => ∀ _ : Nat → Value,
 z (IntKind.wrap .i64 (s81.2.1 + 1)) fun (z86 : Int) =>
 again80 ((s84.1.1, s84.1.2.1, s84.1.2.2), z86, ()) w85)
  fun (K83 : ((Option Addr × Nat × Nat) × Unit) → World → Prop) =>
 drw w82 fun w87 =>
 rd Try.prog (Instr.loadAt 26 (.pointer (some (Addr.add x37 1)))) (.one .slice) w87 fun (x88 : (Option Addr × Nat × Nat)) =>
 rdp Try.prog (Instr.indexAt 26 (.slice x88.1 x88.2.1 x88.2.2) (.int .i64 s81.2.1)) (.one .addr) fun (x89 : Addr) =>
 rd Try.prog (Instr.loadAt 4 (.pointer (some x89))) (.one .bool) w87 fun (x90 : Bool) =>
 br x90 (K83 ((s81.1.1, s81.1.2.1, s81.1.2.2), ()) w87)
 (nn f_ fun (a91 : Addr) =>
 rd Try.prog (Instr.loadAt 23 (.pointer (some (Addr.add a91 5)))) (.one .slice) w87 fun (x92 : (Option Addr × Nat × Nat)) =>
 rdp Try.prog (Instr.indexAt 23 (.slice x92.1 x92.2.1 x92.2.2) (.int .i64 x77)) (.one .addr) fun (x93 : Addr) =>
 rd Try.prog (Instr.loadAt 22 (.pointer (some x93))) (.one .slice) w87 fun (x94 : (Option Addr × Nat × Nat)) =>
 rdp Try.prog (Instr.indexAt 22 (.slice x94.1 x94.2.1 x94.2.2) (.int .i64 s81.2.1)) (.one .addr) fun (x95 : Addr) =>
 rd Try.prog (Instr.loadAt 3 (.pointer (some x95))) (.one (.int .i64)) w87 fun (x96 : Int) =>
 nn f_ fun (a97 : Addr) =>
 rd Try.prog (Instr.loadAt 23 (.pointer (some (Addr.add a97 2)))) (.one .slice) w87 fun (x98 : (Option Addr × Nat × Nat)) =>
 rdp Try.prog (Instr.indexAt 23 (.slice x98.1 x98.2.1 x98.2.2) (.int .i64 x77)) (.one .addr) fun (x99 : Addr) =>
 rd Try.prog (Instr.loadAt 22 (.pointer (some x99))) (.one .slice) w87 fun (x100 : (Option Addr × Nat × Nat)) =>
 rdp Try.prog (Instr.indexAt 22 (.slice x100.1 x100.2.1 x100.2.2) (.int .i64 s81.2.1)) (.one .addr) fun (x101 : Addr) =>
 rd Try.prog (Instr.loadAt 3 (.pointer (some x101))) (.one (.int .i64)) w87 fun (x102 : Int) =>
 br (decide (x96 ≥ x102)) (K83 ((s81.1.1, s81.1.2.1, s81.1.2.2), ()) w87)
 (drw w87 fun w103 => flExC w103 fun E106 G105 Y104 F107 =>
 rdE Try.prog (ER Y104 [8, 10] E106) (Instr.loadAt 26 (.pointer (some (Addr.add x37 1)))) (.one .slice) w103 fun (x108 : (Option Addr × Nat × Nat)) =>
 rdE Try.prog (ER Y104 [10] E106) (Instr.loadAt 22 (.pointer (some (Addr.add x37 3)))) (.one .slice) w103 fun (x109 : (Option Addr × Nat × Nat)) =>
 rdp Try.prog (Instr.indexAt 26 (.slice x108.1 x108.2.1 x108.2.2) (.int .i64 s81.2.1)) (.one .addr) fun (x110 : Addr) =>
 flcC Y104 8 E106 w103 (fun _w112 => True) (fun (D113 : Nat → Bool) (w111 : World) =>
   wu Try.prog (Instr.storeAt 4 (.pointer (some x110)) (.bool true)) w111 fun (w114 : World) =>
 (E106 w111 w114 ∧ G105 8 w111 w114 ∧ Y104 (setD D113 8) w114 ∧ F107 8 [] undef w114))
  fun (_x115 : (Unit)) =>
 flendC Y104 [8] E106 w103 (fun w117 => F107 8 [] (.tuple #[]) w117 ∧ True) fun w116 =>
 rdp Try.prog (Instr.indexAt 22 (.slice x109.1 x109.2.1 x109.2.2) (.int .i64 s81.2.1)) (.one .addr) fun (x118 : Addr) =>
 wu Try.prog (Instr.storeAt 3 (.pointer (some x118)) (.int .i64 x77)) w116 fun (w119 : World) =>
 nn f_ fun (a120 : Addr) =>
 rd Try.prog (Instr.loadAt 22 (.pointer (some (Addr.add a120 4)))) (.one .slice) w119 fun (x121 : (Option Addr × Nat × Nat)) =>
 rdp Try.prog (Instr.indexAt 22 (.slice x121.1 x121.2.1 x121.2.2) (.int .i64 s81.2.1)) (.one .addr) fun (x122 : Addr) =>
 rd Try.prog (Instr.loadAt 3 (.pointer (some x122))) (.one (.int .i64)) w119 fun (x123 : Int) =>
 br (decide (x123 > 0)) (rd Try.prog (Instr.loadAt 60 (.pointer (some x37))) (.agg [.slice, .slice, .slice, .slice]) w119 fun (x124 : ((Option Addr × Nat × Nat) × (Option Addr × Nat × Nat) × (Option Addr × Nat × Nat) × (Option Addr × Nat × Nat) × Unit)) =>
 wu Try.prog (Instr.storeAt 60 (.pointer (some x1)) (.agg #[(.slice x124.1.1 x124.1.2.1 x124.1.2.2), (.slice x124.2.1.1 x124.2.1.2.1 x124.2.1.2.2), (.slice x124.2.2.1.1 x124.2.2.1.2.1 x124.2.2.1.2.2), (.slice x124.2.2.2.1.1 x124.2.2.2.1.2.1 x124.2.2.2.1.2.2)])) w119 fun (w125 : World) =>
 rd Try.prog (loadVar 60 x1) (.agg [.slice, .slice, .slice, .slice]) w125 fun (x126 : ((Option Addr × Nat × Nat) × (Option Addr × Nat × Nat) × (Option Addr × Nat × Nat) × (Option Addr × Nat × Nat) × Unit)) =>
 R (.tuple #[(.agg #[(.slice x126.1.1 x126.1.2.1 x126.1.2.2), (.slice x126.2.1.1 x126.2.1.2.1 x126.2.1.2.2), (.slice x126.2.2.1.1 x126.2.2.1.2.1 x126.2.2.1.2.2), (.slice x126.2.2.2.1.1 x126.2.2.2.1.2.1 x126.2.2.2.1.2.2)]), (.int .i64 s81.2.1)]) w125)
 (nn f_ fun (a127 : Addr) =>
 rd Try.prog (Instr.loadAt 22 (.pointer (some (Addr.add a127 3)))) (.one .slice) w119 fun (x128 : (Option Addr × Nat × Nat)) =>
 loop (T := ((Option Addr × Nat × Nat) × Int × Unit)) ((s81.1.1, s81.1.2.1, s81.1.2.2), 0, ()) w119 fun (again129 : ((Option Addr × Nat × Nat) × Int × Unit) → World → Prop) (s130 : ((Option Addr × Nat × Nat) × Int × Unit)) w131 => ∀ _ : Nat → Value,
 br (decide (s130.2.1 < ((x128.2.1 : Nat) : Int))) (join (T := ((Option Addr × Nat × Nat) × Unit)) (fun (s133 : ((Option Addr × Nat × Nat) × Unit)) w134 => ∀ _ : Nat → Value,
 z (IntKind.wrap .i64 (s130.2.1 + 1)) fun (z135 : Int) =>
 again129 ((s133.1.1, s133.1.2.1, s133.1.2.2), z135, ()) w134)
  fun (K132 : ((Option Addr × Nat × Nat) × Unit) → World → Prop) =>
 rd Try.prog (Instr.loadAt 26 (.pointer (some x37))) (.one .slice) w131 fun (x136 : (Option Addr × Nat × Nat)) =>
 rdp Try.prog (Instr.indexAt 26 (.slice x136.1 x136.2.1 x136.2.2) (.int .i64 s130.2.1)) (.one .addr) fun (x137 : Addr) =>
 rd Try.prog (Instr.loadAt 4 (.pointer (some x137))) (.one .bool) w131 fun (x138 : Bool) =>
 br (!x138) (nn f_ fun (a139 : Addr) =>
 rd Try.prog (Instr.loadAt 23 (.pointer (some (Addr.add a139 5)))) (.one .slice) w131 fun (x140 : (Option Addr × Nat × Nat)) =>
 rdp Try.prog (Instr.indexAt 23 (.slice x140.1 x140.2.1 x140.2.2) (.int .i64 s130.2.1)) (.one .addr) fun (x141 : Addr) =>
 rd Try.prog (Instr.loadAt 22 (.pointer (some x141))) (.one .slice) w131 fun (x142 : (Option Addr × Nat × Nat)) =>
 rdp Try.prog (Instr.indexAt 22 (.slice x142.1 x142.2.1 x142.2.2) (.int .i64 s81.2.1)) (.one .addr) fun (x143 : Addr) =>
 rd Try.prog (Instr.loadAt 3 (.pointer (some x143))) (.one (.int .i64)) w131 fun (x144 : Int) =>
 br (decide (x144 > 0)) (drw w131 fun w145 => flExC w145 fun E148 G147 Y146 F149 =>
 rdE Try.prog (ER Y146 [8, 10] E148) (Instr.loadAt 26 (.pointer (some x37))) (.one .slice) w145 fun (x150 : (Option Addr × Nat × Nat)) =>
 rdE Try.prog (ER Y146 [10] E148) (Instr.loadAt 22 (.pointer (some (Addr.add x37 2)))) (.one .slice) w145 fun (x151 : (Option Addr × Nat × Nat)) =>
 rdp Try.prog (Instr.indexAt 26 (.slice x150.1 x150.2.1 x150.2.2) (.int .i64 s130.2.1)) (.one .addr) fun (x152 : Addr) =>
 flcC Y146 8 E148 w145 (fun _w154 => True) (fun (D155 : Nat → Bool) (w153 : World) =>
   wu Try.prog (Instr.storeAt 4 (.pointer (some x152)) (.bool true)) w153 fun (w156 : World) =>
 (E148 w153 w156 ∧ G147 8 w153 w156 ∧ Y146 (setD D155 8) w156 ∧ F149 8 [] undef w156))
  fun (_x157 : (Unit)) =>
 flendC Y146 [8] E148 w145 (fun w159 => F149 8 [] (.tuple #[]) w159 ∧ True) fun w158 =>
 rdp Try.prog (Instr.indexAt 22 (.slice x151.1 x151.2.1 x151.2.2) (.int .i64 s130.2.1)) (.one .addr) fun (x160 : Addr) =>
 wu Try.prog (Instr.storeAt 3 (.pointer (some x160)) (.int .i64 s81.2.1)) w158 fun (w161 : World) =>
 wr Try.prog (Instr.buildSlice 22 1 #[(0, (.int .i64 s130.2.1))]) (.one .slice) w161 fun (x162 : (Option Addr × Nat × Nat)) (w163 : World) =>
 wr Try.prog (Builtin.append_ #[22, 22] 22 #[(.slice s130.1.1 s130.1.2.1 s130.1.2.2), (.slice x162.1 x162.2.1 x162.2.2)]) (.one .slice) w163 fun (x164 : (Option Addr × Nat × Nat)) (w165 : World) =>
 K132 ((x164.1, x164.2.1, x164.2.2), ()) w165)
 (K132 ((s130.1.1, s130.1.2.1, s130.1.2.2), ()) w131))
 (K132 ((s130.1.1, s130.1.2.1, s130.1.2.2), ()) w131))
 (K83 ((s130.1.1, s130.1.2.1, s130.1.2.2), ()) w131)))))
 (rdp Try.prog (Instr.sliceAt 22 (.slice s81.1.1 s81.1.2.1 s81.1.2.2) (some (.int .i64 1)) none none) (.one .slice) fun (x166 : (Option Addr × Nat × Nat)) =>
 again73 ((x166.1, x166.2.1, x166.2.2), ()) w82))
 (rd Try.prog (Instr.loadAt 60 (.pointer (some x37))) (.agg [.slice, .slice, .slice, .slice]) w75 fun (x167 : ((Option Addr × Nat × Nat) × (Option Addr × Nat × Nat) × (Option Addr × Nat × Nat) × (Option Addr × Nat × Nat) × Unit)) =>
 wu Try.prog (Instr.storeAt 60 (.pointer (some x1)) (.agg #[(.slice x167.1.1 x167.1.2.1 x167.1.2.2), (.slice x167.2.1.1 x167.2.1.2.1 x167.2.1.2.2), (.slice x167.2.2.1.1 x167.2.2.1.2.1 x167.2.2.1.2.2), (.slice x167.2.2.2.1.1 x167.2.2.2.1.2.1 x167.2.2.2.1.2.2)])) w75 fun (w168 : World) =>
 rd Try.prog (loadVar 60 x1) (.agg [.slice, .slice, .slice, .slice]) w168 fun (x169 : ((Option Addr × Nat × Nat) × (Option Addr × Nat × Nat) × (Option Addr × Nat × Nat) × (Option Addr × Nat × Nat) × Unit)) =>
 R (.tuple #[(.agg #[(.slice x169.1.1 x169.1.2.1 x169.1.2.2), (.slice x169.2.1.1 x169.2.1.2.1 x169.2.1.2.2), (.slice x169.2.2.1.1 x169.2.2.1.2.1 x169.2.2.1.2.2), (.slice x169.2.2.2.1.1 x169.2.2.2.1.2.1 x169.2.2.2.1.2.2)]), (.int .i64 (-1))]) w168))
def H30 : Hints := ⟨[(2, 0, [(5, (.one .slice)), (41, (.one (.int .i64)))]), (1, 1, [(5, (.one .slice))]), (2, 2, [(5, (.one .slice))]), (2, 4, [(5, (.one .slice)), (74, (.one (.int .i64)))]), (2, 6, [(5, (.one .slice)), (130, (.one (.int .i64)))]), (1, 7, [(5, (.one .slice))]), (1, 5, [(5, (.one .slice))])], [(1, 26), (7, 8), (16, 27), (17, 9), (24, 9)], [], [1000024, 1000017, 1000007]⟩
set_option maxRecDepth 100000 in
theorem S30_eq (f_ : (Option Addr)) (w0 : World) (R : Value → World → Prop) : vcFn Try.prog H30 Try.f30 [(.pointer f_)] w0 R = S30 f_ w0 R := by kernel_rfl
set_option maxRecDepth 100000 in
theorem S30_calls (f_ : (Option Addr)) (w0 : World) (R : Value → World → Prop) (h : S30 f_ w0 R) : Calls Try.prog 30 #[(.pointer f_)] w0 (ret R) := by
  rw [← S30_eq] at h; exact vcFn_sound follows_ Try.func30 h

/-- (*querylab/correlation.flow).augment -/
def S31 (f_ : (Option Addr)) (w_0a : Option Addr) (w_0n : Nat) (w_0c : Nat) (w_1a : Option Addr) (w_1n : Nat) (w_1c : Nat) (w_2a : Option Addr) (w_2n : Nat) (w_2c : Nat) (w_3a : Option Addr) (w_3n : Nat) (w_3c : Nat) (last_ : Int) (w0 : World) (R : Value → World → Prop) : Prop :=
 wr Try.prog (Instr.box 60 (.agg #[(.slice w_0a w_0n w_0c), (.slice w_1a w_1n w_1c), (.slice w_2a w_2n w_2c), (.slice w_3a w_3n w_3c)])) (.one .addr) w0 fun (x1 : Addr) (w2 : World) =>
 nn f_ fun (a3 : Addr) =>
 rd Try.prog (Instr.loadAt 22 (.pointer (some (Addr.add a3 4)))) (.one .slice) w2 fun (x4 : (Option Addr × Nat × Nat)) =>
 rdp Try.prog (Instr.indexAt 22 (.slice x4.1 x4.2.1 x4.2.2) (.int .i64 last_)) (.one .addr) fun (x5 : Addr) =>
 rd Try.prog (Instr.loadAt 3 (.pointer (some x5))) (.one (.int .i64)) w2 fun (x6 : Int) =>
 loop (T := (Int × Int × Unit)) (x6, last_, ()) w2 fun (again7 : (Int × Int × Unit) → World → Prop) (s8 : (Int × Int × Unit)) w9 => ∀ _ : Nat → Value,
 rd Try.prog (Instr.loadAt 22 (.pointer (some (Addr.add x1 3)))) (.one .slice) w9 fun (x10 : (Option Addr × Nat × Nat)) =>
 rdp Try.prog (Instr.indexAt 22 (.slice x10.1 x10.2.1 x10.2.2) (.int .i64 s8.2.1)) (.one .addr) fun (x11 : Addr) =>
 rd Try.prog (Instr.loadAt 3 (.pointer (some x11))) (.one (.int .i64)) w9 fun (x12 : Int) =>
 drw w9 fun w13 =>
 nn f_ fun (a14 : Addr) =>
 rd Try.prog (Instr.loadAt 23 (.pointer (some (Addr.add a14 2)))) (.one .slice) w13 fun (x15 : (Option Addr × Nat × Nat)) =>
 rdp Try.prog (Instr.indexAt 23 (.slice x15.1 x15.2.1 x15.2.2) (.int .i64 x12)) (.one .addr) fun (x16 : Addr) =>
 rd Try.prog (Instr.loadAt 22 (.pointer (some x16))) (.one .slice) w13 fun (x17 : (Option Addr × Nat × Nat)) =>
 rdp Try.prog (Instr.indexAt 22 (.slice x17.1 x17.2.1 x17.2.2) (.int .i64 s8.2.1)) (.one .addr) fun (x18 : Addr) =>
 rd Try.prog (Instr.loadAt 3 (.pointer (some x18))) (.one (.int .i64)) w13 fun (x19 : Int) =>
 nn f_ fun (a20 : Addr) =>
 rd Try.prog (Instr.loadAt 23 (.pointer (some (Addr.add a20 5)))) (.one .slice) w13 fun (x21 : (Option Addr × Nat × Nat)) =>
 rdp Try.prog (Instr.indexAt 23 (.slice x21.1 x21.2.1 x21.2.2) (.int .i64 x12)) (.one .addr) fun (x22 : Addr) =>
 rd Try.prog (Instr.loadAt 22 (.pointer (some x22))) (.one .slice) w13 fun (x23 : (Option Addr × Nat × Nat)) =>
 rdp Try.prog (Instr.indexAt 22 (.slice x23.1 x23.2.1 x23.2.2) (.int .i64 s8.2.1)) (.one .addr) fun (x24 : Addr) =>
 rd Try.prog (Instr.loadAt 3 (.pointer (some x24))) (.one (.int .i64)) w13 fun (x25 : Int) =>
 z (IntKind.wrap .i64 (x19 - x25)) fun (z26 : Int) =>
 z (if z26 < s8.1 then z26 else s8.1) fun (z27 : Int) =>
 rd Try.prog (Instr.loadAt 22 (.pointer (some (Addr.add x1 2)))) (.one .slice) w13 fun (x28 : (Option Addr × Nat × Nat)) =>
 rdp Try.prog (Instr.indexAt 22 (.slice x28.1 x28.2.1 x28.2.2) (.int .i64 x12)) (.one .addr) fun (x29 : Addr) =>
 rd Try.prog (Instr.loadAt 3 (.pointer (some x29))) (.one (.int .i64)) w13 fun (x30 : Int) =>
 br (decide (x30 < 0)) (nn f_ fun (a31 : Addr) =>
 rd Try.prog (Instr.loadAt 22 (.pointer (some (Addr.add a31 3)))) (.one .slice) w13 fun (x32 : (Option Addr × Nat × Nat)) =>
 rdp Try.prog (Instr.indexAt 22 (.slice x32.1 x32.2.1 x32.2.2) (.int .i64 x12)) (.one .addr) fun (x33 : Addr) =>
 rd Try.prog (Instr.loadAt 3 (.pointer (some x33))) (.one (.int .i64)) w13 fun (x34 : Int) =>
 z (if x34 < z27 then x34 else z27) fun (z35 : Int) =>
 nn f_ fun (a36 : Addr) =>
 rd Try.prog (Instr.loadAt 22 (.pointer (some (Addr.add a36 4)))) (.one .slice) w13 fun (x37 : (Option Addr × Nat × Nat)) =>
 rdp Try.prog (Instr.indexAt 22 (.slice x37.1 x37.2.1 x37.2.2) (.int .i64 last_)) (.one .addr) fun (x38 : Addr) =>
 rd Try.prog (Instr.loadAt 3 (.pointer (some x38))) (.one (.int .i64)) w13 fun (x39 : Int) =>
 z (IntKind.wrap .i64 (x39 - z35)) fun (z40 : Int) =>
 rdp Try.prog (Instr.indexAt 22 (.slice x37.1 x37.2.1 x37.2.2) (.int .i64 last_)) (.one .addr) fun (x41 : Addr) =>
 wu Try.prog (Instr.storeAt 3 (.pointer (some x41)) (.int .i64 z40)) w13 fun (w42 : World) =>
 loop (T := (Int × Unit)) (last_, ()) w42 fun (again43 : (Int × Unit) → World → Prop) (s44 : (Int × Unit)) w45 => ∀ _ : Nat → Value,
 rd Try.prog (Instr.loadAt 22 (.pointer (some (Addr.add x1 3)))) (.one .slice) w45 fun (x46 : (Option Addr × Nat × Nat)) =>
 rdp Try.prog (Instr.indexAt 22 (.slice x46.1 x46.2.1 x46.2.2) (.int .i64 s44.1)) (.one .addr) fun (x47 : Addr) =>
 rd Try.prog (Instr.loadAt 3 (.pointer (some x47))) (.one (.int .i64)) w45 fun (x48 : Int) =>
 nn f_ fun (a49 : Addr) =>
 rd Try.prog (Instr.loadAt 23 (.pointer (some (Addr.add a49 5)))) (.one .slice) w45 fun (x50 : (Option Addr × Nat × Nat)) =>
 rdp Try.prog (Instr.indexAt 23 (.slice x50.1 x50.2.1 x50.2.2) (.int .i64 x48)) (.one .addr) fun (x51 : Addr) =>
 rd Try.prog (Instr.loadAt 22 (.pointer (some x51))) (.one .slice) w45 fun (x52 : (Option Addr × Nat × Nat)) =>
 rdp Try.prog (Instr.indexAt 22 (.slice x52.1 x52.2.1 x52.2.2) (.int .i64 s44.1)) (.one .addr) fun (x53 : Addr) =>
 rd Try.prog (Instr.loadAt 3 (.pointer (some x53))) (.one (.int .i64)) w45 fun (x54 : Int) =>
 z (IntKind.wrap .i64 (x54 + z35)) fun (z55 : Int) =>
 rdp Try.prog (Instr.indexAt 22 (.slice x52.1 x52.2.1 x52.2.2) (.int .i64 s44.1)) (.one .addr) fun (x56 : Addr) =>
 wu Try.prog (Instr.storeAt 3 (.pointer (some x56)) (.int .i64 z55)) w45 fun (w57 : World) =>
 rd Try.prog (Instr.loadAt 22 (.pointer (some (Addr.add x1 2)))) (.one .slice) w57 fun (x58 : (Option Addr × Nat × Nat)) =>
 rdp Try.prog (Instr.indexAt 22 (.slice x58.1 x58.2.1 x58.2.2) (.int .i64 x48)) (.one .addr) fun (x59 : Addr) =>
 rd Try.prog (Instr.loadAt 3 (.pointer (some x59))) (.one (.int .i64)) w57 fun (x60 : Int) =>
 br (decide (x60 < 0)) (nn f_ fun (a61 : Addr) =>
 rd Try.prog (Instr.loadAt 22 (.pointer (some (Addr.add a61 3)))) (.one .slice) w57 fun (x62 : (Option Addr × Nat × Nat)) =>
 rdp Try.prog (Instr.indexAt 22 (.slice x62.1 x62.2.1 x62.2.2) (.int .i64 x48)) (.one .addr) fun (x63 : Addr) =>
 rd Try.prog (Instr.loadAt 3 (.pointer (some x63))) (.one (.int .i64)) w57 fun (x64 : Int) =>
 z (IntKind.wrap .i64 (x64 - z35)) fun (z65 : Int) =>
 rdp Try.prog (Instr.indexAt 22 (.slice x62.1 x62.2.1 x62.2.2) (.int .i64 x48)) (.one .addr) fun (x66 : Addr) =>
 wu Try.prog (Instr.storeAt 3 (.pointer (some x66)) (.int .i64 z65)) w57 fun (w67 : World) =>
 R (.tuple #[]) w67)
 (nn f_ fun (a68 : Addr) =>
 rd Try.prog (Instr.loadAt 23 (.pointer (some (Addr.add a68 5)))) (.one .slice) w57 fun (x69 : (Option Addr × Nat × Nat)) =>
 rdp Try.prog (Instr.indexAt 23 (.slice x69.1 x69.2.1 x69.2.2) (.int .i64 x48)) (.one .addr) fun (x70 : Addr) =>
 rd Try.prog (Instr.loadAt 22 (.pointer (some x70))) (.one .slice) w57 fun (x71 : (Option Addr × Nat × Nat)) =>
 rdp Try.prog (Instr.indexAt 22 (.slice x71.1 x71.2.1 x71.2.2) (.int .i64 x60)) (.one .addr) fun (x72 : Addr) =>
 rd Try.prog (Instr.loadAt 3 (.pointer (some x72))) (.one (.int .i64)) w57 fun (x73 : Int) =>
 z (IntKind.wrap .i64 (x73 - z35)) fun (z74 : Int) =>
 rdp Try.prog (Instr.indexAt 22 (.slice x71.1 x71.2.1 x71.2.2) (.int .i64 x60)) (.one .addr) fun (x75 : Addr) =>
 wu Try.prog (Instr.storeAt 3 (.pointer (some x75)) (.int .i64 z74)) w57 fun (w76 : World) =>
 again43 (x60, ()) w76))
 (nn f_ fun (a77 : Addr) =>
 rd Try.prog (Instr.loadAt 23 (.pointer (some (Addr.add a77 5)))) (.one .slice) w13 fun (x78 : (Option Addr × Nat × Nat)) =>
 rdp Try.prog (Instr.indexAt 23 (.slice x78.1 x78.2.1 x78.2.2) (.int .i64 x12)) (.one .addr) fun (x79 : Addr) =>
 rd Try.prog (Instr.loadAt 22 (.pointer (some x79))) (.one .slice) w13 fun (x80 : (Option Addr × Nat × Nat)) =>
 rdp Try.prog (Instr.indexAt 22 (.slice x80.1 x80.2.1 x80.2.2) (.int .i64 x30)) (.one .addr) fun (x81 : Addr) =>
 rd Try.prog (Instr.loadAt 3 (.pointer (some x81))) (.one (.int .i64)) w13 fun (x82 : Int) =>
 z (if x82 < z27 then x82 else z27) fun (z83 : Int) =>
 again7 (z83, x30, ()) w13)
def H31 : Hints := ⟨[(2, 0, [(6, (.one (.int .i64))), (7, (.one (.int .i64)))]), (2, 2, [(9, (.one (.int .i64)))])], [(4, 22)], [], []⟩
set_option maxRecDepth 100000 in
theorem S31_eq (f_ : (Option Addr)) (w_0a : Option Addr) (w_0n : Nat) (w_0c : Nat) (w_1a : Option Addr) (w_1n : Nat) (w_1c : Nat) (w_2a : Option Addr) (w_2n : Nat) (w_2c : Nat) (w_3a : Option Addr) (w_3n : Nat) (w_3c : Nat) (last_ : Int) (w0 : World) (R : Value → World → Prop) : vcFn Try.prog H31 Try.f31 [(.pointer f_), (.agg #[(.slice w_0a w_0n w_0c), (.slice w_1a w_1n w_1c), (.slice w_2a w_2n w_2c), (.slice w_3a w_3n w_3c)]), (.int .i64 last_)] w0 R = S31 f_ w_0a w_0n w_0c w_1a w_1n w_1c w_2a w_2n w_2c w_3a w_3n w_3c last_ w0 R := by kernel_rfl
set_option maxRecDepth 100000 in
theorem S31_calls (f_ : (Option Addr)) (w_0a : Option Addr) (w_0n : Nat) (w_0c : Nat) (w_1a : Option Addr) (w_1n : Nat) (w_1c : Nat) (w_2a : Option Addr) (w_2n : Nat) (w_2c : Nat) (w_3a : Option Addr) (w_3n : Nat) (w_3c : Nat) (last_ : Int) (w0 : World) (R : Value → World → Prop) (h : S31 f_ w_0a w_0n w_0c w_1a w_1n w_1c w_2a w_2n w_2c w_3a w_3n w_3c last_ w0 R) : Calls Try.prog 31 #[(.pointer f_), (.agg #[(.slice w_0a w_0n w_0c), (.slice w_1a w_1n w_1c), (.slice w_2a w_2n w_2c), (.slice w_3a w_3n w_3c)]), (.int .i64 last_)] w0 (ret R) := by
  rw [← S31_eq] at h; exact vcFn_sound follows_ Try.func31 h

/-- querylab/correlation.Solve -/
def S19 (g_0a : Option Addr) (g_0n : Nat) (g_0c : Nat) (g_1a : Option Addr) (g_1n : Nat) (g_1c : Nat) (g_2a : Option Addr) (g_2n : Nat) (g_2c : Nat) (w0 : World) (R : Value → World → Prop) : Prop :=
 wr Try.prog (Instr.box 25 (.agg #[(.slice g_0a g_0n g_0c), (.slice g_1a g_1n g_1c), (.slice g_2a g_2n g_2c)])) (.one .addr) w0 fun (x1 : Addr) (w2 : World) =>
 wr Try.prog (Instr.alloc 28 true (.tuple #[])) (.one .addr) w2 fun (x3 : Addr) (w4 : World) =>
 rd Try.prog (Instr.loadAt 25 (.pointer (some x1))) (.agg [.slice, .slice, .slice]) w4 fun (x5 : ((Option Addr × Nat × Nat) × (Option Addr × Nat × Nat) × (Option Addr × Nat × Nat) × Unit)) =>
 call Try.prog 11 [(.agg #[(.slice x5.1.1 x5.1.2.1 x5.1.2.2), (.slice x5.2.1.1 x5.2.1.2.1 x5.2.1.2.2), (.slice x5.2.2.1.1 x5.2.2.1.2.1 x5.2.2.1.2.2)])] (.one (.one (.int .i64))) w4 fun (x6 : Int) (w7 : World) =>
 br (x6 != 0) (wu Try.prog (Instr.storeAt 28 (.pointer (some x3)) (.agg #[(.slice none 0 0), (.slice none 0 0)])) w7 fun (w8 : World) =>
 rd Try.prog (loadVar 28 x3) (.agg [.slice, .slice]) w8 fun (x9 : ((Option Addr × Nat × Nat) × (Option Addr × Nat × Nat) × Unit)) =>
 R (.tuple #[(.slice none 0 0), (.agg #[(.slice x9.1.1 x9.1.2.1 x9.1.2.2), (.slice x9.2.1.1 x9.2.1.2.1 x9.2.1.2.2)]), (.int .i64 x6)]) w8)
 (drw w7 fun w10 => flEx fun F11 =>
 rd Try.prog (Instr.loadAt 22 (.pointer (some x1))) (.one .slice) w10 fun (x12 : (Option Addr × Nat × Nat)) =>
 flc bel w10 (fun _w14 => True) (fun (w13 : World) =>
   call Try.prog 24 [(.slice x12.1 x12.2.1 x12.2.2)] (.one (.one (.int .i64))) w13 fun (x15 : Int) (w16 : World) =>
 (bel w13 w16 ∧ F11 2 [(.slice x12.1 x12.2.1 x12.2.2)] (.int .i64 x15) w16))
  fun (x17 : Int) =>
 rd Try.prog (Instr.loadAt 22 (.pointer (some (Addr.add x1 1)))) (.one .slice) w10 fun (x18 : (Option Addr × Nat × Nat)) =>
 flend bel w10 (fun w20 => F11 2 [(.slice x12.1 x12.2.1 x12.2.2)] (.int .i64 x17) w20 ∧ True) fun w19 =>
 call Try.prog 24 [(.slice x18.1 x18.2.1 x18.2.2)] (.one (.one (.int .i64))) w19 fun (x21 : Int) (w22 : World) =>
 br (x17 != x21) (wu Try.prog (Instr.storeAt 28 (.pointer (some x3)) (.agg #[(.slice none 0 0), (.slice none 0 0)])) w22 fun (w23 : World) =>
 rd Try.prog (loadVar 28 x3) (.agg [.slice, .slice]) w23 fun (x24 : ((Option Addr × Nat × Nat) × (Option Addr × Nat × Nat) × Unit)) =>
 R (.tuple #[(.slice none 0 0), (.agg #[(.slice x24.1.1 x24.1.2.1 x24.1.2.2), (.slice x24.2.1.1 x24.2.1.2.1 x24.2.1.2.2)]), (.int .i64 9)]) w23)
 (drw w22 fun w25 => flExC w25 fun E28 G27 Y26 F29 =>
 rdE Try.prog (ER Y26 [8] E28) (Instr.loadAt 25 (.pointer (some x1))) (.agg [.slice, .slice, .slice]) w25 fun (x30 : ((Option Addr × Nat × Nat) × (Option Addr × Nat × Nat) × (Option Addr × Nat × Nat) × Unit)) =>
 rdE Try.prog (ER Y26 [3, 6, 8] E28) (Instr.loadAt 22 (.pointer (some x1))) (.one .slice) w25 fun (x31 : (Option Addr × Nat × Nat)) =>
 flcC Y26 3 E28 w25 (fun _w33 => True) (fun (D34 : Nat → Bool) (w32 : World) =>
   call Try.prog 29 [(.slice x31.1 x31.2.1 x31.2.2)] (.one (.one .slice)) w32 fun (x35 : (Option Addr × Nat × Nat)) (w36 : World) =>
 (E28 w32 w36 ∧ G27 3 w32 w36 ∧ Y26 (setD D34 3) w36 ∧ F29 3 [(.slice x31.1 x31.2.1 x31.2.2)] (.slice x35.1 x35.2.1 x35.2.2) w36))
  fun (x37 : (Option Addr × Nat × Nat)) =>
 rdE Try.prog (ER Y26 [6, 8] E28) (Instr.loadAt 22 (.pointer (some (Addr.add x1 1)))) (.one .slice) w25 fun (x38 : (Option Addr × Nat × Nat)) =>
 flcC Y26 6 E28 w25 (fun w40 => F29 3 [(.slice x31.1 x31.2.1 x31.2.2)] (.slice x37.1 x37.2.1 x37.2.2) w40 ∧ True) (fun (D41 : Nat → Bool) (w39 : World) =>
   call Try.prog 29 [(.slice x38.1 x38.2.1 x38.2.2)] (.one (.one .slice)) w39 fun (x42 : (Option Addr × Nat × Nat)) (w43 : World) =>
 (E28 w39 w43 ∧ G27 6 w39 w43 ∧ Y26 (setD D41 6) w43 ∧ F29 6 [(.slice x38.1 x38.2.1 x38.2.2)] (.slice x42.1 x42.2.1 x42.2.2) w43))
  fun (x44 : (Option Addr × Nat × Nat)) =>
 flendC Y26 [6, 3] E28 w25 (fun w46 => F29 6 [(.slice x38.1 x38.2.1 x38.2.2)] (.slice x44.1 x44.2.1 x44.2.2) w46 ∧ F29 3 [(.slice x31.1 x31.2.1 x31.2.2)] (.slice x37.1 x37.2.1 x37.2.2) w46 ∧ True) fun w45 =>
 wr Try.prog (Instr.box 58 (.agg #[(.slice x30.1.1 x30.1.2.1 x30.1.2.2), (.slice x30.2.1.1 x30.2.1.2.1 x30.2.1.2.2), (.slice x30.2.2.1.1 x30.2.2.1.2.1 x30.2.2.1.2.2), (.slice x37.1 x37.2.1 x37.2.2), (.slice x44.1 x44.2.1 x44.2.2), (.slice none 0 0)])) (.one .addr) w45 fun (x47 : Addr) (w48 : World) =>
 rd Try.prog (Instr.loadAt 22 (.pointer (some x1))) (.one .slice) w48 fun (x49 : (Option Addr × Nat × Nat)) =>
 loop (T := (Int × Unit)) (0, ()) w48 fun (again50 : (Int × Unit) → World → Prop) (s51 : (Int × Unit)) w52 => ∀ _ : Nat → Value,
 br (decide (s51.1 < ((x49.2.1 : Nat) : Int))) (drw w52 fun w53 => flEx fun F54 =>
 nn (some x47) fun (a55 : Addr) =>
 rd Try.prog (Instr.loadAt 23 (.pointer (some (Addr.add a55 5)))) (.one .slice) w53 fun (x56 : (Option Addr × Nat × Nat)) =>
 rd Try.prog (Instr.loadAt 22 (.pointer (some (Addr.add x1 1)))) (.one .slice) w53 fun (x57 : (Option Addr × Nat × Nat)) =>
 flc bel w53 (fun _w59 => True) (fun (w58 : World) =>
   wr Try.prog (Instr.makeSlice 22 (.int .i64 ((x57.2.1 : Nat) : Int)) (.int .i64 ((x57.2.1 : Nat) : Int))) (.one .slice) w58 fun (x60 : (Option Addr × Nat × Nat)) (w61 : World) =>
 (bel w58 w61 ∧ F54 8 [] (.slice x60.1 x60.2.1 x60.2.2) w61))
  fun (x62 : (Option Addr × Nat × Nat)) =>
 flc bel w53 (fun w64 => F54 8 [] (.slice x62.1 x62.2.1 x62.2.2) w64 ∧ True) (fun (w63 : World) =>
   wr Try.prog (Instr.buildSlice 23 1 #[(0, (.slice x62.1 x62.2.1 x62.2.2))]) (.one .slice) w63 fun (x65 : (Option Addr × Nat × Nat)) (w66 : World) =>
 (bel w63 w66 ∧ F54 9 [] (.slice x65.1 x65.2.1 x65.2.2) w66))
  fun (x67 : (Option Addr × Nat × Nat)) =>
 flend bel w53 (fun w69 => F54 9 [] (.slice x67.1 x67.2.1 x67.2.2) w69 ∧ F54 8 [] (.slice x62.1 x62.2.1 x62.2.2) w69 ∧ True) fun w68 =>
 wr Try.prog (Builtin.append_ #[23, 23] 23 #[(.slice x56.1 x56.2.1 x56.2.2), (.slice x67.1 x67.2.1 x67.2.2)]) (.one .slice) w68 fun (x70 : (Option Addr × Nat × Nat)) (w71 : World) =>
 nn (some x47) fun (a72 : Addr) =>
 wu Try.prog (Instr.storeAt 23 (.pointer (some (Addr.add a72 5))) (.slice x70.1 x70.2.1 x70.2.2)) w71 fun (w73 : World) =>
 z (IntKind.wrap .i64 (s51.1 + 1)) fun (z74 : Int) =>
 again50 (z74, ()) w73)
 (loop (T := (Unit)) (()) w52 fun (again75 : (Unit) → World → Prop) (_s76 : (Unit)) w77 => ∀ _ : Nat → Value,
 nn (some x47) fun (a78 : Addr) =>
 rd Try.prog (Instr.loadAt 22 (.pointer (some (Addr.add a78 3)))) (.one .slice) w77 fun (x79 : (Option Addr × Nat × Nat)) =>
 call Try.prog 24 [(.slice x79.1 x79.2.1 x79.2.2)] (.one (.one (.int .i64))) w77 fun (x80 : Int) (w81 : World) =>
 br (decide (x80 > 0)) (call Try.prog 30 [(.pointer (some x47))] (.many [(.agg [.slice, .slice, .slice, .slice]), (.one (.int .i64))]) w81 fun (x82 : (((Option Addr × Nat × Nat) × (Option Addr × Nat × Nat) × (Option Addr × Nat × Nat) × (Option Addr × Nat × Nat) × Unit) × Int × Unit)) (w83 : World) =>
 wr Try.prog (Instr.alloc 60 true (.tuple #[])) (.one .addr) w83 fun (x84 : Addr) (w85 : World) =>
 wu Try.prog (Instr.storeAt 60 (.pointer (some x84)) (.agg #[(.slice x82.1.1.1 x82.1.1.2.1 x82.1.1.2.2), (.slice x82.1.2.1.1 x82.1.2.1.2.1 x82.1.2.1.2.2), (.slice x82.1.2.2.1.1 x82.1.2.2.1.2.1 x82.1.2.2.1.2.2), (.slice x82.1.2.2.2.1.1 x82.1.2.2.2.1.2.1 x82.1.2.2.2.1.2.2)])) w85 fun (w86 : World) =>
 br (decide (x82.2.1 < 0)) (drw w86 fun w87 =>
 rd Try.prog (Instr.loadAt 26 (.pointer (some x84))) (.one .slice) w87 fun (x88 : (Option Addr × Nat × Nat)) =>
 rd Try.prog (Instr.loadAt 26 (.pointer (some (Addr.add x84 1)))) (.one .slice) w87 fun (x89 : (Option Addr × Nat × Nat)) =>
 wu Try.prog (Instr.storeAt 28 (.pointer (some x3)) (.agg #[(.slice x88.1 x88.2.1 x88.2.2), (.slice x89.1 x89.2.1 x89.2.2)])) w87 fun (w90 : World) =>
 rd Try.prog (loadVar 28 x3) (.agg [.slice, .slice]) w90 fun (x91 : ((Option Addr × Nat × Nat) × (Option Addr × Nat × Nat) × Unit)) =>
 R (.tuple #[(.slice none 0 0), (.agg #[(.slice x91.1.1 x91.1.2.1 x91.1.2.2), (.slice x91.2.1.1 x91.2.1.2.1 x91.2.1.2.2)]), (.int .i64 12)]) w90)
 (rd Try.prog (Instr.loadAt 60 (.pointer (some x84))) (.agg [.slice, .slice, .slice, .slice]) w86 fun (x92 : ((Option Addr × Nat × Nat) × (Option Addr × Nat × Nat) × (Option Addr × Nat × Nat) × (Option Addr × Nat × Nat) × Unit)) =>
 call Try.prog 31 [(.pointer (some x47)), (.agg #[(.slice x92.1.1 x92.1.2.1 x92.1.2.2), (.slice x92.2.1.1 x92.2.1.2.1 x92.2.1.2.2), (.slice x92.2.2.1.1 x92.2.2.1.2.1 x92.2.2.1.2.2), (.slice x92.2.2.2.1.1 x92.2.2.2.1.2.1 x92.2.2.2.1.2.2)]), (.int .i64 x82.2.1)] (.many []) w86 fun (_x93 : (Unit)) (w94 : World) =>
 again75 (()) w94))
 (nn (some x47) fun (a95 : Addr) =>
 rd Try.prog (Instr.loadAt 23 (.pointer (some (Addr.add a95 5)))) (.one .slice) w81 fun (x96 : (Option Addr × Nat × Nat)) =>
 wu Try.prog (Instr.storeAt 28 (.pointer (some x3)) (.agg #[(.slice none 0 0), (.slice none 0 0)])) w81 fun (w97 : World) =>
 rd Try.prog (loadVar 28 x3) (.agg [.slice, .slice]) w97 fun (x98 : ((Option Addr × Nat × Nat) × (Option Addr × Nat × Nat) × Unit)) =>
 R (.tuple #[(.slice x96.1 x96.2.1 x96.2.2), (.agg #[(.slice x98.1.1 x98.1.2.1 x98.1.2.2), (.slice x98.2.1.1 x98.2.1.2.1 x98.2.1.2.2)]), (.int .i64 0)]) w97))))
def H19 : Hints := ⟨[(2, 0, [(35, (.one (.int .i64)))]), (2, 2, [])], [(4, 5), (6, 7), (9, 10), (14, 6)], [], [1000006]⟩
set_option maxRecDepth 100000 in
theorem S19_eq (g_0a : Option Addr) (g_0n : Nat) (g_0c : Nat) (g_1a : Option Addr) (g_1n : Nat) (g_1c : Nat) (g_2a : Option Addr) (g_2n : Nat) (g_2c : Nat) (w0 : World) (R : Value → World → Prop) : vcFn Try.prog H19 Try.f19 [(.agg #[(.slice g_0a g_0n g_0c), (.slice g_1a g_1n g_1c), (.slice g_2a g_2n g_2c)])] w0 R = S19 g_0a g_0n g_0c g_1a g_1n g_1c g_2a g_2n g_2c w0 R := by kernel_rfl
set_option maxRecDepth 100000 in
theorem S19_calls (g_0a : Option Addr) (g_0n : Nat) (g_0c : Nat) (g_1a : Option Addr) (g_1n : Nat) (g_1c : Nat) (g_2a : Option Addr) (g_2n : Nat) (g_2c : Nat) (w0 : World) (R : Value → World → Prop) (h : S19 g_0a g_0n g_0c g_1a g_1n g_1c g_2a g_2n g_2c w0 R) : Calls Try.prog 19 #[(.agg #[(.slice g_0a g_0n g_0c), (.slice g_1a g_1n g_1c), (.slice g_2a g_2n g_2c)])] w0 (ret R) := by
  rw [← S19_eq] at h; exact vcFn_sound follows_ Try.func19 h

/-- querylab/querylablaw21.CorrelationSolves -/
def S4 (l_a : Option Addr) (l_n : Nat) (l_c : Nat) (w0 : World) (R : Value → World → Prop) : Prop :=
 wr Try.prog (Instr.box 43 (.agg #[(.slice l_a l_n l_c), (.int .i64 0)])) (.one .addr) w0 fun (x1 : Addr) (w2 : World) =>
 call Try.prog 18 [(.pointer (some x1))] (.many [(.agg [.slice, .slice, .slice]), (.one .slice)]) w2 fun (x3 : (((Option Addr × Nat × Nat) × (Option Addr × Nat × Nat) × (Option Addr × Nat × Nat) × Unit) × (Option Addr × Nat × Nat) × Unit)) (w4 : World) =>
 wr Try.prog (Instr.alloc 25 true (.tuple #[])) (.one .addr) w4 fun (x5 : Addr) (w6 : World) =>
 wu Try.prog (Instr.storeAt 25 (.pointer (some x5)) (.agg #[(.slice x3.1.1.1 x3.1.1.2.1 x3.1.1.2.2), (.slice x3.1.2.1.1 x3.1.2.1.2.1 x3.1.2.1.2.2), (.slice x3.1.2.2.1.1 x3.1.2.2.1.2.1 x3.1.2.2.1.2.2)])) w6 fun (w7 : World) =>
 rd Try.prog (Instr.loadAt 25 (.pointer (some x5))) (.agg [.slice, .slice, .slice]) w7 fun (x8 : ((Option Addr × Nat × Nat) × (Option Addr × Nat × Nat) × (Option Addr × Nat × Nat) × Unit)) =>
 call Try.prog 19 [(.agg #[(.slice x8.1.1 x8.1.2.1 x8.1.2.2), (.slice x8.2.1.1 x8.2.1.2.1 x8.2.1.2.2), (.slice x8.2.2.1.1 x8.2.2.1.2.1 x8.2.2.1.2.2)])] (.many [(.one .slice), (.agg [.slice, .slice]), (.one (.int .i64))]) w7 fun (x9 : ((Option Addr × Nat × Nat) × ((Option Addr × Nat × Nat) × (Option Addr × Nat × Nat) × Unit) × Int × Unit)) (w10 : World) =>
 wr Try.prog (Instr.alloc 28 true (.tuple #[])) (.one .addr) w10 fun (x11 : Addr) (w12 : World) =>
 wu Try.prog (Instr.storeAt 28 (.pointer (some x11)) (.agg #[(.slice x9.2.1.1.1 x9.2.1.1.2.1 x9.2.1.1.2.2), (.slice x9.2.1.2.1.1 x9.2.1.2.1.2.1 x9.2.1.2.1.2.2)])) w12 fun (w13 : World) =>
 br (x9.2.2.1 == 12) (rd Try.prog (Instr.loadAt 25 (.pointer (some x5))) (.agg [.slice, .slice, .slice]) w13 fun (x14 : ((Option Addr × Nat × Nat) × (Option Addr × Nat × Nat) × (Option Addr × Nat × Nat) × Unit)) =>
 rd Try.prog (Instr.loadAt 28 (.pointer (some x11))) (.agg [.slice, .slice]) w13 fun (x15 : ((Option Addr × Nat × Nat) × (Option Addr × Nat × Nat) × Unit)) =>
 call Try.prog 16 [(.agg #[(.slice x14.1.1 x14.1.2.1 x14.1.2.2), (.slice x14.2.1.1 x14.2.1.2.1 x14.2.1.2.2), (.slice x14.2.2.1.1 x14.2.2.1.2.1 x14.2.2.1.2.2)]), (.agg #[(.slice x15.1.1 x15.1.2.1 x15.1.2.2), (.slice x15.2.1.1 x15.2.1.2.1 x15.2.1.2.2)])] (.one (.one .bool)) w13 fun (x16 : Bool) (w17 : World) =>
 br x16 (R (.bool (((x9.1.2.1 : Nat) : Int) == 0)) w17)
 (R (.bool false) w17))
 (br (x9.2.2.1 == 0) (rd Try.prog (Instr.loadAt 25 (.pointer (some x5))) (.agg [.slice, .slice, .slice]) w13 fun (x18 : ((Option Addr × Nat × Nat) × (Option Addr × Nat × Nat) × (Option Addr × Nat × Nat) × Unit)) =>
 call Try.prog 14 [(.agg #[(.slice x18.1.1 x18.1.2.1 x18.1.2.2), (.slice x18.2.1.1 x18.2.1.2.1 x18.2.1.2.2), (.slice x18.2.2.1.1 x18.2.2.1.2.1 x18.2.2.1.2.2)]), (.slice x9.1.1 x9.1.2.1 x9.1.2.2)] (.one (.one .bool)) w13 fun (x19 : Bool) (w20 : World) =>
 br x19 (rd Try.prog (Instr.loadAt 26 (.pointer (some x11))) (.one .slice) w20 fun (x21 : (Option Addr × Nat × Nat)) =>
 br (((x21.2.1 : Nat) : Int) == 0) (rd Try.prog (Instr.loadAt 26 (.pointer (some (Addr.add x11 1)))) (.one .slice) w20 fun (x22 : (Option Addr × Nat × Nat)) =>
 R (.bool (((x22.2.1 : Nat) : Int) == 0)) w20)
 (R (.bool false) w20))
 (R (.bool false) w20))
 (R (.bool false) w13))
def H4 : Hints := ⟨[], [], [], []⟩
set_option maxRecDepth 100000 in
theorem S4_eq (l_a : Option Addr) (l_n : Nat) (l_c : Nat) (w0 : World) (R : Value → World → Prop) : vcFn Try.prog H4 Try.f4 [(.slice l_a l_n l_c)] w0 R = S4 l_a l_n l_c w0 R := by kernel_rfl
set_option maxRecDepth 100000 in
theorem S4_calls (l_a : Option Addr) (l_n : Nat) (l_c : Nat) (w0 : World) (R : Value → World → Prop) (h : S4 l_a l_n l_c w0 R) : Calls Try.prog 4 #[(.slice l_a l_n l_c)] w0 (ret R) := by
  rw [← S4_eq] at h; exact vcFn_sound follows_ Try.func4 h

/-- querylab/querylablaw21.CorrelationRaw -/
def S5 (g_0a : Option Addr) (g_0n : Nat) (g_0c : Nat) (g_1a : Option Addr) (g_1n : Nat) (g_1c : Nat) (g_2a : Option Addr) (g_2n : Nat) (g_2c : Nat) (w0 : World) (R : Value → World → Prop) : Prop :=
 wr Try.prog (Instr.box 25 (.agg #[(.slice g_0a g_0n g_0c), (.slice g_1a g_1n g_1c), (.slice g_2a g_2n g_2c)])) (.one .addr) w0 fun (x1 : Addr) (w2 : World) =>
 rd Try.prog (Instr.loadAt 25 (.pointer (some x1))) (.agg [.slice, .slice, .slice]) w2 fun (x3 : ((Option Addr × Nat × Nat) × (Option Addr × Nat × Nat) × (Option Addr × Nat × Nat) × Unit)) =>
 call Try.prog 7 [(.agg #[(.slice x3.1.1 x3.1.2.1 x3.1.2.2), (.slice x3.2.1.1 x3.2.1.2.1 x3.2.1.2.2), (.slice x3.2.2.1.1 x3.2.2.1.2.1 x3.2.2.1.2.2)])] (.one (.one .bool)) w2 fun (x4 : Bool) (w5 : World) =>
 br (!x4) (R (.bool true) w5)
 (rd Try.prog (Instr.loadAt 25 (.pointer (some x1))) (.agg [.slice, .slice, .slice]) w5 fun (x6 : ((Option Addr × Nat × Nat) × (Option Addr × Nat × Nat) × (Option Addr × Nat × Nat) × Unit)) =>
 call Try.prog 19 [(.agg #[(.slice x6.1.1 x6.1.2.1 x6.1.2.2), (.slice x6.2.1.1 x6.2.1.2.1 x6.2.1.2.2), (.slice x6.2.2.1.1 x6.2.2.1.2.1 x6.2.2.1.2.2)])] (.many [(.one .slice), (.agg [.slice, .slice]), (.one (.int .i64))]) w5 fun (x7 : ((Option Addr × Nat × Nat) × ((Option Addr × Nat × Nat) × (Option Addr × Nat × Nat) × Unit) × Int × Unit)) (w8 : World) =>
 wr Try.prog (Instr.alloc 28 true (.tuple #[])) (.one .addr) w8 fun (x9 : Addr) (w10 : World) =>
 wu Try.prog (Instr.storeAt 28 (.pointer (some x9)) (.agg #[(.slice x7.2.1.1.1 x7.2.1.1.2.1 x7.2.1.1.2.2), (.slice x7.2.1.2.1.1 x7.2.1.2.1.2.1 x7.2.1.2.1.2.2)])) w10 fun (w11 : World) =>
 rd Try.prog (Instr.loadAt 25 (.pointer (some x1))) (.agg [.slice, .slice, .slice]) w11 fun (x12 : ((Option Addr × Nat × Nat) × (Option Addr × Nat × Nat) × (Option Addr × Nat × Nat) × Unit)) =>
 call Try.prog 12 [(.agg #[(.slice x12.1.1 x12.1.2.1 x12.1.2.2), (.slice x12.2.1.1 x12.2.1.2.1 x12.2.1.2.2), (.slice x12.2.2.1.1 x12.2.2.1.2.1 x12.2.2.1.2.2)])] (.one (.one (.int .i64))) w11 fun (x13 : Int) (w14 : World) =>
 br (x13 != 0) (br (x7.2.2.1 == x13) (R (.bool (((x7.1.2.1 : Nat) : Int) == 0)) w14)
 (R (.bool false) w14))
 (rd Try.prog (Instr.loadAt 25 (.pointer (some x1))) (.agg [.slice, .slice, .slice]) w14 fun (x15 : ((Option Addr × Nat × Nat) × (Option Addr × Nat × Nat) × (Option Addr × Nat × Nat) × Unit)) =>
 call Try.prog 20 [(.agg #[(.slice x15.1.1 x15.1.2.1 x15.1.2.2), (.slice x15.2.1.1 x15.2.1.2.1 x15.2.1.2.2), (.slice x15.2.2.1.1 x15.2.2.1.2.1 x15.2.2.1.2.2)])] (.many [(.one (.int .i64)), (.one (.int .i64))]) w14 fun (x16 : (Int × Int × Unit)) (w17 : World) =>
 br (x16.1 != x16.2.1) (R (.bool (x7.2.2.1 == 9)) w17)
 (br (x7.2.2.1 == 12) (rd Try.prog (Instr.loadAt 25 (.pointer (some x1))) (.agg [.slice, .slice, .slice]) w17 fun (x18 : ((Option Addr × Nat × Nat) × (Option Addr × Nat × Nat) × (Option Addr × Nat × Nat) × Unit)) =>
 rd Try.prog (Instr.loadAt 28 (.pointer (some x9))) (.agg [.slice, .slice]) w17 fun (x19 : ((Option Addr × Nat × Nat) × (Option Addr × Nat × Nat) × Unit)) =>
 call Try.prog 16 [(.agg #[(.slice x18.1.1 x18.1.2.1 x18.1.2.2), (.slice x18.2.1.1 x18.2.1.2.1 x18.2.1.2.2), (.slice x18.2.2.1.1 x18.2.2.1.2.1 x18.2.2.1.2.2)]), (.agg #[(.slice x19.1.1 x19.1.2.1 x19.1.2.2), (.slice x19.2.1.1 x19.2.1.2.1 x19.2.1.2.2)])] (.one (.one .bool)) w17 fun (x20 : Bool) (w21 : World) =>
 R (.bool x20) w21)
 (br (x7.2.2.1 == 0) (rd Try.prog (Instr.loadAt 25 (.pointer (some x1))) (.agg [.slice, .slice, .slice]) w17 fun (x22 : ((Option Addr × Nat × Nat) × (Option Addr × Nat × Nat) × (Option Addr × Nat × Nat) × Unit)) =>
 call Try.prog 14 [(.agg #[(.slice x22.1.1 x22.1.2.1 x22.1.2.2), (.slice x22.2.1.1 x22.2.1.2.1 x22.2.1.2.2), (.slice x22.2.2.1.1 x22.2.2.1.2.1 x22.2.2.1.2.2)]), (.slice x7.1.1 x7.1.2.1 x7.1.2.2)] (.one (.one .bool)) w17 fun (x23 : Bool) (w24 : World) =>
 R (.bool x23) w24)
 (R (.bool false) w17)))))
def H5 : Hints := ⟨[], [], [], []⟩
set_option maxRecDepth 100000 in
theorem S5_eq (g_0a : Option Addr) (g_0n : Nat) (g_0c : Nat) (g_1a : Option Addr) (g_1n : Nat) (g_1c : Nat) (g_2a : Option Addr) (g_2n : Nat) (g_2c : Nat) (w0 : World) (R : Value → World → Prop) : vcFn Try.prog H5 Try.f5 [(.agg #[(.slice g_0a g_0n g_0c), (.slice g_1a g_1n g_1c), (.slice g_2a g_2n g_2c)])] w0 R = S5 g_0a g_0n g_0c g_1a g_1n g_1c g_2a g_2n g_2c w0 R := by kernel_rfl
set_option maxRecDepth 100000 in
theorem S5_calls (g_0a : Option Addr) (g_0n : Nat) (g_0c : Nat) (g_1a : Option Addr) (g_1n : Nat) (g_1c : Nat) (g_2a : Option Addr) (g_2n : Nat) (g_2c : Nat) (w0 : World) (R : Value → World → Prop) (h : S5 g_0a g_0n g_0c g_1a g_1n g_1c g_2a g_2n g_2c w0 R) : Calls Try.prog 5 #[(.agg #[(.slice g_0a g_0n g_0c), (.slice g_1a g_1n g_1c), (.slice g_2a g_2n g_2c)])] w0 (ret R) := by
  rw [← S5_eq] at h; exact vcFn_sound follows_ Try.func5 h

/-- querylab/querylablaw21.CorrelationNever -/
def S6 (l_a : Option Addr) (l_n : Nat) (l_c : Nat) (c_0a : Option Addr) (c_0n : Nat) (c_0c : Nat) (c_1a : Option Addr) (c_1n : Nat) (c_1c : Nat) (w0 : World) (R : Value → World → Prop) : Prop :=
 wr Try.prog (Instr.box 28 (.agg #[(.slice c_0a c_0n c_0c), (.slice c_1a c_1n c_1c)])) (.one .addr) w0 fun (x1 : Addr) (w2 : World) =>
 rd Try.prog (Instr.loadAt 26 (.pointer (some x1))) (.one .slice) w2 fun (x3 : (Option Addr × Nat × Nat)) =>
 br (decide (((x3.2.1 : Nat) : Int) > 20)) (R (.bool true) w2)
 (rd Try.prog (Instr.loadAt 26 (.pointer (some (Addr.add x1 1)))) (.one .slice) w2 fun (x4 : (Option Addr × Nat × Nat)) =>
 br (decide (((x4.2.1 : Nat) : Int) > 20)) (R (.bool true) w2)
 (wr Try.prog (Instr.box 43 (.agg #[(.slice l_a l_n l_c), (.int .i64 0)])) (.one .addr) w2 fun (x5 : Addr) (w6 : World) =>
 call Try.prog 18 [(.pointer (some x5))] (.many [(.agg [.slice, .slice, .slice]), (.one .slice)]) w6 fun (x7 : (((Option Addr × Nat × Nat) × (Option Addr × Nat × Nat) × (Option Addr × Nat × Nat) × Unit) × (Option Addr × Nat × Nat) × Unit)) (w8 : World) =>
 wr Try.prog (Instr.alloc 25 true (.tuple #[])) (.one .addr) w8 fun (x9 : Addr) (w10 : World) =>
 wu Try.prog (Instr.storeAt 25 (.pointer (some x9)) (.agg #[(.slice x7.1.1.1 x7.1.1.2.1 x7.1.1.2.2), (.slice x7.1.2.1.1 x7.1.2.1.2.1 x7.1.2.1.2.2), (.slice x7.1.2.2.1.1 x7.1.2.2.1.2.1 x7.1.2.2.1.2.2)])) w10 fun (w11 : World) =>
 call Try.prog 10 [(.slice x7.2.1.1 x7.2.1.2.1 x7.2.1.2.2)] (.many [(.one .slice), (.one .slice), (.one .bool)]) w11 fun (x12 : ((Option Addr × Nat × Nat) × (Option Addr × Nat × Nat) × Bool × Unit)) (w13 : World) =>
 wu Try.prog (Instr.storeAt 22 (.pointer (some x9)) (.slice x12.1.1 x12.1.2.1 x12.1.2.2)) w13 fun (w14 : World) =>
 wu Try.prog (Instr.storeAt 22 (.pointer (some (Addr.add x9 1))) (.slice x12.2.1.1 x12.2.1.2.1 x12.2.1.2.2)) w14 fun (w15 : World) =>
 wr Try.prog (Instr.alloc 28 true (.tuple #[])) (.one .addr) w15 fun (x16 : Addr) (w17 : World) =>
 wu Try.prog (Instr.storeAt 28 (.pointer (some x16)) (.agg #[(.slice none 0 0), (.slice none 0 0)])) w17 fun (w18 : World) =>
 loop (T := (Int × Unit)) (0, ()) w18 fun (again19 : (Int × Unit) → World → Prop) (s20 : (Int × Unit)) w21 => ∀ _ : Nat → Value,
 br (decide (s20.1 < ((x7.2.1.2.1 : Nat) : Int))) (loop (T := (Int × Unit)) (0, ()) w21 fun (again22 : (Int × Unit) → World → Prop) (s23 : (Int × Unit)) w24 => ∀ _ : Nat → Value,
 rdp Try.prog (Instr.indexAt 23 (.slice x7.2.1.1 x7.2.1.2.1 x7.2.1.2.2) (.int .i64 s20.1)) (.one .addr) fun (x25 : Addr) =>
 rd Try.prog (Instr.loadAt 22 (.pointer (some x25))) (.one .slice) w24 fun (x26 : (Option Addr × Nat × Nat)) =>
 br (decide (s23.1 < ((x26.2.1 : Nat) : Int))) (drw w24 fun w27 =>
 rd Try.prog (Instr.loadAt 23 (.pointer (some (Addr.add x9 2)))) (.one .slice) w27 fun (x28 : (Option Addr × Nat × Nat)) =>
 rdp Try.prog (Instr.indexAt 23 (.slice x28.1 x28.2.1 x28.2.2) (.int .i64 s20.1)) (.one .addr) fun (x29 : Addr) =>
 rd Try.prog (Instr.loadAt 22 (.pointer (some x29))) (.one .slice) w27 fun (x30 : (Option Addr × Nat × Nat)) =>
 rd Try.prog (Instr.loadAt 23 (.pointer (some (Addr.add x9 2)))) (.one .slice) w27 fun (x31 : (Option Addr × Nat × Nat)) =>
 rdp Try.prog (Instr.indexAt 23 (.slice x31.1 x31.2.1 x31.2.2) (.int .i64 s20.1)) (.one .addr) fun (x32 : Addr) =>
 rd Try.prog (Instr.loadAt 22 (.pointer (some x32))) (.one .slice) w27 fun (x33 : (Option Addr × Nat × Nat)) =>
 rdp Try.prog (Instr.indexAt 22 (.slice x33.1 x33.2.1 x33.2.2) (.int .i64 s23.1)) (.one .addr) fun (x34 : Addr) =>
 rd Try.prog (Instr.loadAt 3 (.pointer (some x34))) (.one (.int .i64)) w27 fun (x35 : Int) =>
 rdp Try.prog (Instr.indexAt 23 (.slice x7.2.1.1 x7.2.1.2.1 x7.2.1.2.2) (.int .i64 s20.1)) (.one .addr) fun (x36 : Addr) =>
 rd Try.prog (Instr.loadAt 22 (.pointer (some x36))) (.one .slice) w27 fun (x37 : (Option Addr × Nat × Nat)) =>
 rdp Try.prog (Instr.indexAt 22 (.slice x37.1 x37.2.1 x37.2.2) (.int .i64 s23.1)) (.one .addr) fun (x38 : Addr) =>
 rd Try.prog (Instr.loadAt 3 (.pointer (some x38))) (.one (.int .i64)) w27 fun (x39 : Int) =>
 z (if x39 > x35 then x39 else x35) fun (z40 : Int) =>
 rdp Try.prog (Instr.indexAt 22 (.slice x30.1 x30.2.1 x30.2.2) (.int .i64 s23.1)) (.one .addr) fun (x41 : Addr) =>
 wu Try.prog (Instr.storeAt 3 (.pointer (some x41)) (.int .i64 z40)) w27 fun (w42 : World) =>
 z (IntKind.wrap .i64 (s23.1 + 1)) fun (z43 : Int) =>
 again22 (z43, ()) w42)
 (drw w24 fun w44 => flExC w44 fun E47 G46 Y45 F48 =>
 rdE Try.prog (ER Y45 [6, 8] E47) (Instr.loadAt 26 (.pointer (some x16))) (.one .slice) w44 fun (x49 : (Option Addr × Nat × Nat)) =>
 flcC Y45 3 E47 w44 (fun _w51 => True) (fun (D52 : Nat → Bool) (w50 : World) =>
   call Try.prog 21 [(.pointer (some x5)), (.int .i64 2)] (.one (.one (.int .i64))) w50 fun (x53 : Int) (w54 : World) =>
 (E47 w50 w54 ∧ G46 3 w50 w54 ∧ Y45 (setD D52 3) w54 ∧ F48 3 [(.pointer (some x5)), (.int .i64 2)] (.int .i64 x53) w54))
  fun (x55 : Int) =>
 flcC Y45 5 E47 w44 (fun w57 => F48 3 [(.pointer (some x5)), (.int .i64 2)] (.int .i64 x55) w57 ∧ True) (fun (D58 : Nat → Bool) (w56 : World) =>
   wr Try.prog (Instr.buildSlice 26 1 #[(0, (.bool (x55 == 0)))]) (.one .slice) w56 fun (x59 : (Option Addr × Nat × Nat)) (w60 : World) =>
 (E47 w56 w60 ∧ G46 5 w56 w60 ∧ Y45 (setD D58 5) w60 ∧ F48 5 [] (.slice x59.1 x59.2.1 x59.2.2) w60))
  fun (x61 : (Option Addr × Nat × Nat)) =>
 flendC Y45 [5, 3] E47 w44 (fun w63 => F48 5 [] (.slice x61.1 x61.2.1 x61.2.2) w63 ∧ F48 3 [(.pointer (some x5)), (.int .i64 2)] (.int .i64 x55) w63 ∧ True) fun w62 =>
 wr Try.prog (Builtin.append_ #[26, 26] 26 #[(.slice x49.1 x49.2.1 x49.2.2), (.slice x61.1 x61.2.1 x61.2.2)]) (.one .slice) w62 fun (x64 : (Option Addr × Nat × Nat)) (w65 : World) =>
 wu Try.prog (Instr.storeAt 26 (.pointer (some x16)) (.slice x64.1 x64.2.1 x64.2.2)) w65 fun (w66 : World) =>
 z (IntKind.wrap .i64 (s20.1 + 1)) fun (z67 : Int) =>
 again19 (z67, ()) w66))
 (loop (T := (Int × Unit)) (0, ()) w21 fun (again68 : (Int × Unit) → World → Prop) (s69 : (Int × Unit)) w70 => ∀ _ : Nat → Value,
 rd Try.prog (Instr.loadAt 22 (.pointer (some (Addr.add x9 1)))) (.one .slice) w70 fun (x71 : (Option Addr × Nat × Nat)) =>
 br (decide (s69.1 < ((x71.2.1 : Nat) : Int))) (drw w70 fun w72 => flExC w72 fun E75 G74 Y73 F76 =>
 rdE Try.prog (ER Y73 [6, 8] E75) (Instr.loadAt 26 (.pointer (some (Addr.add x16 1)))) (.one .slice) w72 fun (x77 : (Option Addr × Nat × Nat)) =>
 flcC Y73 3 E75 w72 (fun _w79 => True) (fun (D80 : Nat → Bool) (w78 : World) =>
   call Try.prog 21 [(.pointer (some x5)), (.int .i64 2)] (.one (.one (.int .i64))) w78 fun (x81 : Int) (w82 : World) =>
 (E75 w78 w82 ∧ G74 3 w78 w82 ∧ Y73 (setD D80 3) w82 ∧ F76 3 [(.pointer (some x5)), (.int .i64 2)] (.int .i64 x81) w82))
  fun (x83 : Int) =>
 flcC Y73 5 E75 w72 (fun w85 => F76 3 [(.pointer (some x5)), (.int .i64 2)] (.int .i64 x83) w85 ∧ True) (fun (D86 : Nat → Bool) (w84 : World) =>
   wr Try.prog (Instr.buildSlice 26 1 #[(0, (.bool (x83 == 0)))]) (.one .slice) w84 fun (x87 : (Option Addr × Nat × Nat)) (w88 : World) =>
 (E75 w84 w88 ∧ G74 5 w84 w88 ∧ Y73 (setD D86 5) w88 ∧ F76 5 [] (.slice x87.1 x87.2.1 x87.2.2) w88))
  fun (x89 : (Option Addr × Nat × Nat)) =>
 flendC Y73 [5, 3] E75 w72 (fun w91 => F76 5 [] (.slice x89.1 x89.2.1 x89.2.2) w91 ∧ F76 3 [(.pointer (some x5)), (.int .i64 2)] (.int .i64 x83) w91 ∧ True) fun w90 =>
 wr Try.prog (Builtin.append_ #[26, 26] 26 #[(.slice x77.1 x77.2.1 x77.2.2), (.slice x89.1 x89.2.1 x89.2.2)]) (.one .slice) w90 fun (x92 : (Option Addr × Nat × Nat)) (w93 : World) =>
 wu Try.prog (Instr.storeAt 26 (.pointer (some (Addr.add x16 1))) (.slice x92.1 x92.2.1 x92.2.2)) w93 fun (w94 : World) =>
 z (IntKind.wrap .i64 (s69.1 + 1)) fun (z95 : Int) =>
 again68 (z95, ()) w94)
 (rd Try.prog (Instr.loadAt 25 (.pointer (some x9))) (.agg [.slice, .slice, .slice]) w70 fun (x96 : ((Option Addr × Nat × Nat) × (Option Addr × Nat × Nat) × (Option Addr × Nat × Nat) × Unit)) =>
 call Try.prog 19 [(.agg #[(.slice x96.1.1 x96.1.2.1 x96.1.2.2), (.slice x96.2.1.1 x96.2.1.2.1 x96.2.1.2.2), (.slice x96.2.2.1.1 x96.2.2.1.2.1 x96.2.2.1.2.2)])] (.many [(.one .slice), (.agg [.slice, .slice]), (.one (.int .i64))]) w70 fun (x97 : ((Option Addr × Nat × Nat) × ((Option Addr × Nat × Nat) × (Option Addr × Nat × Nat) × Unit) × Int × Unit)) (w98 : World) =>
 wr Try.prog (Instr.alloc 28 true (.tuple #[])) (.one .addr) w98 fun (x99 : Addr) (w100 : World) =>
 wu Try.prog (Instr.storeAt 28 (.pointer (some x99)) (.agg #[(.slice x97.2.1.1.1 x97.2.1.1.2.1 x97.2.1.1.2.2), (.slice x97.2.1.2.1.1 x97.2.1.2.1.2.1 x97.2.1.2.1.2.2)])) w100 fun (w101 : World) =>
 rd Try.prog (Instr.loadAt 25 (.pointer (some x9))) (.agg [.slice, .slice, .slice]) w101 fun (x102 : ((Option Addr × Nat × Nat) × (Option Addr × Nat × Nat) × (Option Addr × Nat × Nat) × Unit)) =>
 call Try.prog 13 [(.agg #[(.slice x102.1.1 x102.1.2.1 x102.1.2.2), (.slice x102.2.1.1 x102.2.1.2.1 x102.2.1.2.2), (.slice x102.2.2.1.1 x102.2.2.1.2.1 x102.2.2.1.2.2)]), (.slice x7.2.1.1 x7.2.1.2.1 x7.2.1.2.2)] (.one (.one .bool)) w101 fun (x103 : Bool) (w104 : World) =>
 br x103 (rd Try.prog (Instr.loadAt 25 (.pointer (some x9))) (.agg [.slice, .slice, .slice]) w104 fun (x105 : ((Option Addr × Nat × Nat) × (Option Addr × Nat × Nat) × (Option Addr × Nat × Nat) × Unit)) =>
 rd Try.prog (Instr.loadAt 28 (.pointer (some x16))) (.agg [.slice, .slice]) w104 fun (x106 : ((Option Addr × Nat × Nat) × (Option Addr × Nat × Nat) × Unit)) =>
 call Try.prog 15 [(.agg #[(.slice x105.1.1 x105.1.2.1 x105.1.2.2), (.slice x105.2.1.1 x105.2.1.2.1 x105.2.1.2.2), (.slice x105.2.2.1.1 x105.2.2.1.2.1 x105.2.2.1.2.2)]), (.agg #[(.slice x106.1.1 x106.1.2.1 x106.1.2.2), (.slice x106.2.1.1 x106.2.1.2.1 x106.2.1.2.2)])] (.one (.one .bool)) w104 fun (x107 : Bool) (w108 : World) =>
 br (!x107) (rd Try.prog (Instr.loadAt 25 (.pointer (some x9))) (.agg [.slice, .slice, .slice]) w108 fun (x109 : ((Option Addr × Nat × Nat) × (Option Addr × Nat × Nat) × (Option Addr × Nat × Nat) × Unit)) =>
 rd Try.prog (Instr.loadAt 28 (.pointer (some x1))) (.agg [.slice, .slice]) w108 fun (x110 : ((Option Addr × Nat × Nat) × (Option Addr × Nat × Nat) × Unit)) =>
 call Try.prog 15 [(.agg #[(.slice x109.1.1 x109.1.2.1 x109.1.2.2), (.slice x109.2.1.1 x109.2.1.2.1 x109.2.1.2.2), (.slice x109.2.2.1.1 x109.2.2.1.2.1 x109.2.2.1.2.2)]), (.agg #[(.slice x110.1.1 x110.1.2.1 x110.1.2.2), (.slice x110.2.1.1 x110.2.1.2.1 x110.2.1.2.2)])] (.one (.one .bool)) w108 fun (x111 : Bool) (w112 : World) =>
 br (!x111) (br (x97.2.2.1 == 0) (rd Try.prog (Instr.loadAt 25 (.pointer (some x9))) (.agg [.slice, .slice, .slice]) w112 fun (x113 : ((Option Addr × Nat × Nat) × (Option Addr × Nat × Nat) × (Option Addr × Nat × Nat) × Unit)) =>
 call Try.prog 14 [(.agg #[(.slice x113.1.1 x113.1.2.1 x113.1.2.2), (.slice x113.2.1.1 x113.2.1.2.1 x113.2.1.2.2), (.slice x113.2.2.1.1 x113.2.2.1.2.1 x113.2.2.1.2.2)]), (.slice x97.1.1 x97.1.2.1 x97.1.2.2)] (.one (.one .bool)) w112 fun (x114 : Bool) (w115 : World) =>
 R (.bool x114) w115)
 (R (.bool false) w112))
 (R (.bool false) w112))
 (R (.bool false) w108))
 (R (.bool false) w104)))))
def H6 : Hints := ⟨[(2, 0, [(9, (.one (.int .i64)))]), (2, 2, [(10, (.one (.int .i64)))]), (2, 4, [(11, (.one (.int .i64)))])], [(13, 22), (14, 6), (18, 6)], [], [1000018, 1000014]⟩
set_option maxRecDepth 100000 in
theorem S6_eq (l_a : Option Addr) (l_n : Nat) (l_c : Nat) (c_0a : Option Addr) (c_0n : Nat) (c_0c : Nat) (c_1a : Option Addr) (c_1n : Nat) (c_1c : Nat) (w0 : World) (R : Value → World → Prop) : vcFn Try.prog H6 Try.f6 [(.slice l_a l_n l_c), (.agg #[(.slice c_0a c_0n c_0c), (.slice c_1a c_1n c_1c)])] w0 R = S6 l_a l_n l_c c_0a c_0n c_0c c_1a c_1n c_1c w0 R := by kernel_rfl
set_option maxRecDepth 100000 in
theorem S6_calls (l_a : Option Addr) (l_n : Nat) (l_c : Nat) (c_0a : Option Addr) (c_0n : Nat) (c_0c : Nat) (c_1a : Option Addr) (c_1n : Nat) (c_1c : Nat) (w0 : World) (R : Value → World → Prop) (h : S6 l_a l_n l_c c_0a c_0n c_0c c_1a c_1n c_1c w0 R) : Calls Try.prog 6 #[(.slice l_a l_n l_c), (.agg #[(.slice c_0a c_0n c_0c), (.slice c_1a c_1n c_1c)])] w0 (ret R) := by
  rw [← S6_eq] at h; exact vcFn_sound follows_ Try.func6 h

end Go.Proofs

/- What a search has in memory. -/




namespace Go.Proofs.Ytphgmfjinihgaaa
open Go.RowKit Go.Q Go.V

abbrev slv (h : Hdr) : Value := .slice h.1 h.2.1 h.2.2
theorem made_bool (n : Nat) : (madeCells #[Value.bool false] n).toList = Go.Q.bools (List.replicate n false) := by
  apply List.ext_getElem
  · simp [madeCells, Go.Q.bools]
  · intro i h1 h2
    simp [madeCells, Go.Q.bools, Nat.mod_one]
/-- a flow, read -/
structure FlR (w : World) (fa : Addr) (hr hc hb ho hk ht : Hdr) (rr cl : List Int) (T B : List (List Int)) : Prop where
  box : Box w fa [slv hr, slv hc, slv hb, slv ho, slv hk, slv ht]
  o : SlI w ho rr
  k : SlI w hk cl
  t : TabI .i64 w ht T
  b : TabI .i64 w hb B
theorem FlR.up {w w' : World} {fa : Addr} {hr hc hb ho hk ht : Hdr} {rr cl : List Int} {T B : List (List Int)} (F : FlR w fa hr hc hb ho hk ht rr cl T B) (h : bel w w') : FlR w' fa hr hc hb ho hk ht rr cl T B :=
  ⟨F.box.up h, F.o.up h, F.k.up h, F.t.up h, F.b.up h⟩
structure FD (n m : Nat) (rr cl : List Int) (T B : List (List Int)) : Prop where
  n64 : n ≤ 64
  m64 : m ≤ 64
  lr : rr.length = n
  lc : cl.length = m
  lT : T.length = n
  rT : ∀ r ∈ T, r.length = m
  lB : B.length = n
  rB : ∀ r ∈ B, r.length = m
/-- where a search keeps what it finds: all apart -/
structure SD (x1 x37 a1 a2 a3 a4 : Addr) : Prop where
  x1 : x1.block ≠ x37.block ∧ x1.block ≠ a1.block ∧ x1.block ≠ a2.block ∧ x1.block ≠ a3.block ∧ x1.block ≠ a4.block
  x37 : x37.block ≠ a1.block ∧ x37.block ≠ a2.block ∧ x37.block ≠ a3.block ∧ x37.block ≠ a4.block
  a1 : a1.block ≠ a2.block ∧ a1.block ≠ a3.block ∧ a1.block ≠ a4.block
  a2 : a2.block ≠ a3.block ∧ a2.block ≠ a4.block
  a3 : a3.block ≠ a4.block
structure SB (b0 B : Nat) (x1 x37 a1 a2 a3 a4 : Addr) : Prop where
  x1 : b0 ≤ x1.block ∧ x1.block < B
  x37 : b0 ≤ x37.block ∧ x37.block < B
  a1 : b0 ≤ a1.block ∧ a1.block < B
  a2 : b0 ≤ a2.block ∧ a2.block < B
  a3 : b0 ≤ a3.block ∧ a3.block < B
  a4 : b0 ≤ a4.block ∧ a4.block < B
abbrev wkc (h1 h2 h3 h4 : Hdr) : List Value := [slv h1, slv h2, slv h3, slv h4]
structure SM (w : World) (b0 : Nat) (x1 x37 a1 a2 a3 a4 : Addr) (n m : Nat) (vr vc : List Bool) (pr pc : List Int) : Prop where
  res : ∃ cs, cs.length = 4 ∧ Box w x1 cs
  box : Box w x37 (wkc (some a1, n, n) (some a2, m, m) (some a3, n, n) (some a4, m, m))
  vr : Own w b0 4 1 (some a1) n n (Go.Q.bools vr)
  vc : Own w b0 4 1 (some a2) m m (Go.Q.bools vc)
  pr : Own w b0 3 1 (some a3) n n (ints .i64 pr)
  pc : Own w b0 3 1 (some a4) m m (ints .i64 pc)
section
variable {w w' : World} {b0 B : Nat} {x1 x37 a1 a2 a3 a4 : Addr} {n m : Nat} {vr vc : List Bool} {pr pc : List Int}
theorem SM.up (M : SM w b0 x1 x37 a1 a2 a3 a4 n m vr vc pr pc) (h : bel w w') : SM w' b0 x1 x37 a1 a2 a3 a4 n m vr vc pr pc :=
  ⟨by obtain ⟨cs, h1, h2⟩ := M.res; exact ⟨cs, h1, h2.up h⟩, M.box.up h, Own.kept M.vr h, Own.kept M.vc h, Own.kept M.pr h, Own.kept M.pc h⟩
theorem own_below {e : TypeId} {a : Addr} {n c : Nat} {xs : List Value} (O : Own w b0 e 1 (some a) n c xs) (h : Below B w w') (hb : a.block < B) : Own w' b0 e 1 (some a) n c xs := by
  refine ⟨O.1, ?_⟩
  rcases O.2 with h2 | ⟨g, cap, cur, h1, h2, h3, h4⟩
  · exact .inl h2
  · refine .inr ⟨g, cap, cur, h1, h2, ?_, h4⟩
    injection h1 with h1
    injection h1 with h1
    subst h1
    rw [h.block g hb]; exact h3
theorem box_below {a : Addr} {cs : List Value} (X : Box w a cs) (h : Below B w w') (hb : a.block < B) : Box w' a cs :=
  ⟨X.off, X.spot, by obtain ⟨T, hT⟩ := X.blk; exact ⟨T, by rw [h.block _ hb]; exact hT⟩⟩
theorem SM.below (M : SM w b0 x1 x37 a1 a2 a3 a4 n m vr vc pr pc) (h : Below B w w') (S : SB b0 B x1 x37 a1 a2 a3 a4) : SM w' b0 x1 x37 a1 a2 a3 a4 n m vr vc pr pc :=
  ⟨by obtain ⟨cs, h1, h2⟩ := M.res; exact ⟨cs, h1, box_below h2 h S.x1.2⟩, box_below M.box h S.x37.2, own_below M.vr h S.a1.2, own_below M.vc h S.a2.2, own_below M.pr h S.a3.2, own_below M.pc h S.a4.2⟩
theorem xg_own {e : TypeId} {a : Addr} {n c b : Nat} {xs : List Value} (O : Own w b0 e 1 (some a) n c xs) (h : Xg b w w') (hb : a.block ≠ b) : Own w' b0 e 1 (some a) n c xs :=
  Own.putNew O h (fun j hj => by have := blk_eq hj; omega)
/-- a row is visited -/
theorem visit_row (M : SM w b0 x1 x37 a1 a2 a3 a4 n m vr vc pr pc) (D : SD x1 x37 a1 a2 a3 a4) {j j2 i : Nat} (hi : i < n) {ii p : Int} (hii : ii = (i : Int)) {K : World → Prop}
    (hK : ∀ wm w', SM w' b0 x1 x37 a1 a2 a3 a4 n m (vr.set i true) vc (pr.set i p) pc → Xg a1.block w wm → Xg a3.block wm w' → K w') :
    flExC w fun E G Y F => rdE Try.prog (ER Y [j, j2] E) (Instr.loadAt 26 (.pointer (some x37))) (.one .slice) w fun (x57 : Hdr) => rdE Try.prog (ER Y [j2] E) (Instr.loadAt 22 (.pointer (some (x37.add 2)))) (.one .slice) w fun (x58 : Hdr) =>
      rdp Try.prog (Instr.indexAt 26 (.slice x57.1 x57.2.1 x57.2.2) (.int .i64 ii)) (.one .addr) fun x59 =>
      flcC Y j E w (fun _ => True) (fun D w60 => wu Try.prog (Instr.storeAt 4 (.pointer (some x59)) (.bool true)) w60 fun w63 => (E w60 w63 ∧ G j w60 w63 ∧ Y (setD D j) w63 ∧ F j [] undef w63)) fun (_ : Unit) =>
      flendC Y [j] E w (fun w66 => F j [] (.tuple #[]) w66 ∧ True) fun w65 =>
      rdp Try.prog (Instr.indexAt 22 (.slice x58.1 x58.2.1 x58.2.2) (.int .i64 ii)) (.one .addr) fun x67 => wu Try.prog (Instr.storeAt 3 (.pointer (some x67)) (.int .i64 p)) w65 K := by
  refine fl2 (h2 := (some a3, n, n)) tyB M.vr (by kernel_rfl) (by kernel_rfl) (by kernel_rfl) (fun w' hx => (M.box.xg hx D.x37.1).cell0 rfl) (fun w' hx => (M.box.xg hx D.x37.1).cell (i := 2) rfl) hii hi rfl fun w65 O1 hx => ?_
  refine set_mk tyI (xg_own M.pr hx D.a1.2.1.symm) hii hi rfl fun w' O3 hx3 _ => ?_
  rw [bools_set] at O1
  rw [ints_set] at O3
  obtain ⟨cs, r1, r2⟩ := M.res
  refine hK w65 w' ⟨⟨cs, r1, (r2.xg hx D.x1.2.1).xg hx3 D.x1.2.2.2.1⟩, (M.box.xg hx D.x37.1).xg hx3 D.x37.2.2.1, xg_own O1 hx3 D.a1.2.1, xg_own (xg_own M.vc hx D.a1.1.symm) hx3 D.a2.1, O3, xg_own (xg_own M.pc hx D.a1.2.2.symm) hx3 D.a3.symm⟩ hx hx3
theorem visit_col (M : SM w b0 x1 x37 a1 a2 a3 a4 n m vr vc pr pc) (D : SD x1 x37 a1 a2 a3 a4) {j j2 i : Nat} (hi : i < m) {ii p : Int} (hii : ii = (i : Int)) {K : World → Prop}
    (hK : ∀ wm w', SM w' b0 x1 x37 a1 a2 a3 a4 n m vr (vc.set i true) pr (pc.set i p) → Xg a2.block w wm → Xg a4.block wm w' → K w') :
    flExC w fun E G Y F => rdE Try.prog (ER Y [j, j2] E) (Instr.loadAt 26 (.pointer (some (x37.add 1)))) (.one .slice) w fun (x57 : Hdr) => rdE Try.prog (ER Y [j2] E) (Instr.loadAt 22 (.pointer (some (x37.add 3)))) (.one .slice) w fun (x58 : Hdr) =>
      rdp Try.prog (Instr.indexAt 26 (.slice x57.1 x57.2.1 x57.2.2) (.int .i64 ii)) (.one .addr) fun x59 =>
      flcC Y j E w (fun _ => True) (fun D w60 => wu Try.prog (Instr.storeAt 4 (.pointer (some x59)) (.bool true)) w60 fun w63 => (E w60 w63 ∧ G j w60 w63 ∧ Y (setD D j) w63 ∧ F j [] undef w63)) fun (_ : Unit) =>
      flendC Y [j] E w (fun w66 => F j [] (.tuple #[]) w66 ∧ True) fun w65 =>
      rdp Try.prog (Instr.indexAt 22 (.slice x58.1 x58.2.1 x58.2.2) (.int .i64 ii)) (.one .addr) fun x67 => wu Try.prog (Instr.storeAt 3 (.pointer (some x67)) (.int .i64 p)) w65 K := by
  refine fl2 (h2 := (some a4, m, m)) tyB M.vc (by kernel_rfl) (by kernel_rfl) (by kernel_rfl) (fun w' hx => (M.box.xg hx D.x37.2.1).cell (i := 1) rfl) (fun w' hx => (M.box.xg hx D.x37.2.1).cell (i := 3) rfl) hii hi rfl fun w65 O1 hx => ?_
  refine set_mk tyI (xg_own M.pc hx D.a2.2.symm) hii hi rfl fun w' O3 hx3 _ => ?_
  rw [bools_set] at O1
  rw [ints_set] at O3
  obtain ⟨cs, r1, r2⟩ := M.res
  refine hK w65 w' ⟨⟨cs, r1, (r2.xg hx D.x1.2.2.1).xg hx3 D.x1.2.2.2.2⟩, (M.box.xg hx D.x37.2.1).xg hx3 D.x37.2.2.2, xg_own (xg_own M.vr hx D.a1.1) hx3 D.a1.2.2, xg_own O1 hx3 D.a2.2, xg_own (xg_own M.pr hx D.a2.1.symm) hx3 D.a3, O3⟩ hx hx3
end
end Go.Proofs.Ytphgmfjinihgaaa

/- search. -/

namespace Go.Proofs.Ytphgmfjinihgaaa
open Go.RowKit Go.Q Go.V

theorem nf_rep (n : Nat) : nf (List.replicate n false) = n := by
  induction n with
  | zero => rfl
  | succ n ih => simp [List.replicate_succ, nf, ih]; omega
theorem nf_set' {n m : Nat} {vr vc : List Bool} {pr pc : List Int} (D : Dims n m vr vc pr pc) {i : Nat} (hi : i < n) (h : gb vr i = false) : nf (vr.set i true) + 1 = nf vr := nf_set vr i (by rw [D.vr]; exact hi) h
section
variable (n m : Nat) (rr cl : List Int) (T B : List (List Int)) (x1 x37 a1 a2 a3 a4 : Addr) (BB : Nat) (w : World)
/-- the state of a search -/
structure QS (w' : World) (q : Hdr) (vr vc : List Bool) (pr pc : List Int) (xs : List Int) : Prop where
  M : SM w' w.heap.size x1 x37 a1 a2 a3 a4 n m vr vc pr pc
  Q : QAt w' BB 3 q (ints .i64 xs)
  up : bel w w'
  sz : BB ≤ w'.heap.size
  D : Dims n m vr vc pr pc
  R : ∃ t kr kc, Reach n m rr T B vr vc pr pc t kr kc
  ok : QOk n vr xs
  cl : ClR n m T B vr vc xs
  le : nf vr + xs.length ≤ n
end
section
variable {n m : Nat} {rr cl : List Int} {T B : List (List Int)} {x1 x37 a1 a2 a3 a4 : Addr} {BB : Nat} {w w1 : World} {q : Hdr} {vr vc : List Bool} {pr pc : List Int} {xs : List Int}
theorem QS.upw {w2 : World} (H : QS n m rr T B x1 x37 a1 a2 a3 a4 BB w w1 q vr vc pr pc xs) (h : bel w1 w2) : QS n m rr T B x1 x37 a1 a2 a3 a4 BB w w2 q vr vc pr pc xs :=
  ⟨H.M.up h, H.Q.up h, H.up.trans h, Nat.le_trans H.sz h.size, H.D, H.R, H.ok, H.cl, H.le⟩
theorem bel_two {w wm w' : World} {w0 : World} (h : bel w0 w) {b c : Nat} (h1 : Xg b w wm) (h2 : Xg c wm w') (hb : w0.heap.size ≤ b) (hc : w0.heap.size ≤ c) : bel w0 w' :=
  (h.grownAt h1 hb).grownAt h2 hc
/-- a row is visited, and waits -/
theorem push_row (H : QS n m rr T B x1 x37 a1 a2 a3 a4 BB w w1 q vr vc pr pc xs) (SDD : SD x1 x37 a1 a2 a3 a4) (SBB : SB w.heap.size BB x1 x37 a1 a2 a3 a4) (hwB : w.heap.size ≤ BB) (hn : n ≤ 64) {j j2 i : Nat} (hi : i < n) (hv : gb vr i = false) {ii p : Int} (hii : ii = (i : Int))
    (hp : (p = -1 ∧ 0 < g1 rr i) ∨ ∃ k, k < m ∧ p = (k : Int) ∧ gb vc k = true ∧ 0 < g2 T i k) {K : Hdr → World → Prop}
    (hK : ∀ q' w', QS n m rr T B x1 x37 a1 a2 a3 a4 BB w w' q' (vr.set i true) vc (pr.set i p) pc (xs ++ [(i : Int)]) → K q' w') :
    flExC w1 fun E G Y F => rdE Try.prog (ER Y [j, j2] E) (Instr.loadAt 26 (.pointer (some x37))) (.one .slice) w1 fun (x57 : Hdr) => rdE Try.prog (ER Y [j2] E) (Instr.loadAt 22 (.pointer (some (x37.add 2)))) (.one .slice) w1 fun (x58 : Hdr) =>
      rdp Try.prog (Instr.indexAt 26 (.slice x57.1 x57.2.1 x57.2.2) (.int .i64 ii)) (.one .addr) fun x59 =>
      flcC Y j E w1 (fun _ => True) (fun D w60 => wu Try.prog (Instr.storeAt 4 (.pointer (some x59)) (.bool true)) w60 fun w63 => (E w60 w63 ∧ G j w60 w63 ∧ Y (setD D j) w63 ∧ F j [] undef w63)) fun (_ : Unit) =>
      flendC Y [j] E w1 (fun w66 => F j [] (.tuple #[]) w66 ∧ True) fun w65 =>
      rdp Try.prog (Instr.indexAt 22 (.slice x58.1 x58.2.1 x58.2.2) (.int .i64 ii)) (.one .addr) fun x67 => wu Try.prog (Instr.storeAt 3 (.pointer (some x67)) (.int .i64 p)) w65 fun w68 =>
      wr Try.prog (Instr.buildSlice 22 1 #[(0, .int .i64 ii)]) (.one .slice) w68 fun (x69 : Hdr) w70 =>
      wr Try.prog (Builtin.append_ #[22, 22] 22 #[.slice q.1 q.2.1 q.2.2, .slice x69.1 x69.2.1 x69.2.2]) (.one .slice) w70 K := by
  have hle := H.le
  have hql := H.Q.len
  simp only [ints, List.length_map] at hql
  obtain ⟨t, kr, kc, R⟩ := H.R
  have hnf := nf_set' H.D hi hv
  refine visit_row H.M SDD hi hii fun wm w68 M2 g1' g2' => ?_
  have Q2 := (H.Q.xg g1' SBB.a1.2).xg g2' SBB.a3.2
  have s1 := g1'.size
  have s2 := g2'.size
  have hsz := H.sz
  refine wr_appQ tyI Q2 (by omega) rfl rfl rfl (by omega) (by unfold maxLen; omega) fun q' w' Q' hb => ?_
  have u2 := bel_two H.up g1' g2' SBB.a1.1 SBB.a3.1
  refine hK q' w' ⟨M2.below hb SBB, ?_, ⟨hb.os.trans u2.os, hb.tape.trans u2.tape, hb.output.trans u2.output, Nat.le_trans u2.size hb.size, fun k hk => (hb.block k (by omega)).trans (u2.block k hk)⟩, Nat.le_trans (by omega) hb.size, H.D.row _ _ _, ⟨_, _, _, R.addRow H.D hi hv hp⟩, H.ok.addRow H.D hi, H.cl.addRow H.D hi, by simp; omega⟩
  rw [hii] at Q'
  simpa [ints, Value.cells] using Q'
theorem push_col (H : QS n m rr T B x1 x37 a1 a2 a3 a4 BB w w1 q vr vc pr pc xs) (SDD : SD x1 x37 a1 a2 a3 a4) (SBB : SB w.heap.size BB x1 x37 a1 a2 a3 a4) {j j2 k i : Nat} (hk : k < m) (hv : gb vc k = false) (hi : i < n) (hr : gb vr i = true) (ht : g2 T i k < g2 B i k) {kk p : Int} (hkk : kk = (k : Int)) (hp : p = (i : Int)) {K : World → Prop}
    (hK : ∀ w', QS n m rr T B x1 x37 a1 a2 a3 a4 BB w w' q vr (vc.set k true) pr (pc.set k (i : Int)) xs → K w') :
    flExC w1 fun E G Y F => rdE Try.prog (ER Y [j, j2] E) (Instr.loadAt 26 (.pointer (some (x37.add 1)))) (.one .slice) w1 fun (x57 : Hdr) => rdE Try.prog (ER Y [j2] E) (Instr.loadAt 22 (.pointer (some (x37.add 3)))) (.one .slice) w1 fun (x58 : Hdr) =>
      rdp Try.prog (Instr.indexAt 26 (.slice x57.1 x57.2.1 x57.2.2) (.int .i64 kk)) (.one .addr) fun x59 =>
      flcC Y j E w1 (fun _ => True) (fun D w60 => wu Try.prog (Instr.storeAt 4 (.pointer (some x59)) (.bool true)) w60 fun w63 => (E w60 w63 ∧ G j w60 w63 ∧ Y (setD D j) w63 ∧ F j [] undef w63)) fun (_ : Unit) =>
      flendC Y [j] E w1 (fun w66 => F j [] (.tuple #[]) w66 ∧ True) fun w65 =>
      rdp Try.prog (Instr.indexAt 22 (.slice x58.1 x58.2.1 x58.2.2) (.int .i64 kk)) (.one .addr) fun x67 => wu Try.prog (Instr.storeAt 3 (.pointer (some x67)) (.int .i64 p)) w65 K := by
  obtain ⟨t, kr, kc, R⟩ := H.R
  subst hp
  refine visit_col H.M SDD hk hkk fun wm w68 M2 g1' g2' => ?_
  have s1 := g1'.size
  have s2 := g2'.size
  have hsz := H.sz
  exact hK w68 ⟨M2, (H.Q.xg g1' SBB.a2.2).xg g2' SBB.a4.2, bel_two H.up g1' g2' SBB.a2.1 SBB.a4.1, by omega, H.D.col _ _ _, ⟨_, _, _, R.addCol H.D hk hv hi hr ht⟩, H.ok, H.cl.addCol H.D hk, H.le⟩
end
abbrev WT := (Hdr × Hdr × Hdr × Hdr × Unit) × Int × Unit
abbrev rWT : RS := .many [.agg [.slice, .slice, .slice, .slice], .one (.int .i64)]
/-- what search returns -/
def SearchR (n m : Nat) (rr cl : List Int) (T B : List (List Int)) (w : World) (x : WT) (w' : World) : Prop :=
  ∃ vr vc pr pc a1 a2 a3 a4, x.1 = ((some a1, n, n), (some a2, m, m), (some a3, n, n), (some a4, m, m), ()) ∧ Own w' w.heap.size 4 1 (some a1) n n (Go.Q.bools vr) ∧ Own w' w.heap.size 4 1 (some a2) m m (Go.Q.bools vc) ∧ Own w' w.heap.size 3 1 (some a3) n n (ints .i64 pr) ∧ Own w' w.heap.size 3 1 (some a4) m m (ints .i64 pc) ∧ SearchP n m rr cl T B vr vc pr pc x.2.1 ∧ bel w w'
theorem putAt_full {vs cs : List Value} (h : cs.length = vs.length) : putAt cs 0 vs = vs := by
  have := putAt_at vs [] cs (by omega)
  simp only [List.nil_append, List.length_nil] at this
  rw [this, List.drop_of_length_le (by omega), List.append_nil]
/-- the end of a search -/
theorem fin_mk {n m : Nat} {rr cl : List Int} {T B : List (List Int)} {x1 x37 a1 a2 a3 a4 : Addr} {BB : Nat} {w w1 : World} {q : Hdr} {vr vc : List Bool} {pr pc : List Int} {xs : List Int} (H : QS n m rr T B x1 x37 a1 a2 a3 a4 BB w w1 q vr vc pr pc xs) (SDD : SD x1 x37 a1 a2 a3 a4) (SBB : SB w.heap.size BB x1 x37 a1 a2 a3 a4) {last : Int} (hS : SearchP n m rr cl T B vr vc pr pc last) :
    rd Try.prog (Instr.loadAt 60 (.pointer (some x37))) (.agg [.slice, .slice, .slice, .slice]) w1 fun (x : Hdr × Hdr × Hdr × Hdr × Unit) =>
    wu Try.prog (Instr.storeAt 60 (.pointer (some x1)) (.agg #[.slice x.1.1 x.1.2.1 x.1.2.2, .slice x.2.1.1 x.2.1.2.1 x.2.1.2.2, .slice x.2.2.1.1 x.2.2.1.2.1 x.2.2.1.2.2, .slice x.2.2.2.1.1 x.2.2.2.1.2.1 x.2.2.2.1.2.2])) w1 fun w2 =>
    rd Try.prog (loadVar 60 x1) (.agg [.slice, .slice, .slice, .slice]) w2 fun (y : Hdr × Hdr × Hdr × Hdr × Unit) =>
    ∃ x : WT, Value.tuple #[.agg #[.slice y.1.1 y.1.2.1 y.1.2.2, .slice y.2.1.1 y.2.1.2.1 y.2.1.2.2, .slice y.2.2.1.1 y.2.2.1.2.1 y.2.2.1.2.2, .slice y.2.2.2.1.1 y.2.2.2.1.2.1 y.2.2.2.1.2.2], .int .i64 last] = rWT.val x ∧ SearchR n m rr cl T B w x w2 := by
  obtain ⟨cs, hc, X⟩ := H.M.res
  refine rd_boxN H.M.box (by kernel_rfl) rfl ?_
  refine wu_box X (by kernel_rfl) (by rw [hc]; exact Nat.le_refl 4) rfl fun w2 X2 hg _ => ?_
  rw [putAt_full (by rw [hc]; rfl)] at X2
  refine rd_boxV X2 (by kernel_rfl) rfl ?_
  refine ⟨(((some a1, n, n), (some a2, m, m), (some a3, n, n), (some a4, m, m), ()), last, ()), rfl, vr, vc, pr, pc, a1, a2, a3, a4, rfl, ?_, ?_, ?_, ?_, hS, H.up.grownAt hg SBB.x1.1⟩
  · exact xg_own H.M.vr hg SDD.x1.2.1.symm
  · exact xg_own H.M.vc hg SDD.x1.2.2.1.symm
  · exact xg_own H.M.pr hg SDD.x1.2.2.2.1.symm
  · exact xg_own H.M.pc hg SDD.x1.2.2.2.2.symm
set_option maxHeartbeats 3200000 in
theorem searchF {n m : Nat} {rr cl : List Int} {T B : List (List Int)} {fa : Addr} {hr hc hb ho hk ht : Hdr} {w : World} (F : FlR w fa hr hc hb ho hk ht rr cl T B) (FDD : FD n m rr cl T B) :
    call Try.prog 30 [.pointer (some fa)] rWT w (SearchR n m rr cl T B w) := by
  refine call_of (S30_calls (some fa) w _ ?_)
  unfold S30
  have n64 := FDD.n64
  have m64 := FDD.m64
  have ln : ho.2.1 = n := by have := F.o.int; have := FDD.lr; omega
  have lm : hk.2.1 = m := by have := F.k.int; have := FDD.lc; omega
  refine wr_alloc (z := .agg #[.slice none 0 0, .slice none 0 0, .slice none 0 0, .slice none 0 0]) (by kernel_rfl) fun x1 w2 X1 h2 e1 s1 => ?_
  refine drw_mk fun w3 h3 s3 => ?_
  have F3 := (F.up h2).up h3
  have h23 := h2.trans h3
  refine flEx_mk (fun i _ v w' => (i = 5 → ∃ ad : Addr, v = .slice (some ad) n n ∧ w.heap.size + 1 ≤ ad.block ∧ Own w' w.heap.size 4 1 (some ad) n n (Go.Q.bools (List.replicate n false))) ∧ (i = 11 → ∃ ad : Addr, v = .slice (some ad) m m ∧ w.heap.size + 1 ≤ ad.block ∧ Own w' w.heap.size 4 1 (some ad) m m (Go.Q.bools (List.replicate m false))) ∧
      (i = 17 → ∃ ad : Addr, v = .slice (some ad) n n ∧ w.heap.size + 1 ≤ ad.block ∧ Own w' w.heap.size 3 1 (some ad) n n (ints .i64 (List.replicate n 0))) ∧ (i = 23 → ∃ ad : Addr, v = .slice (some ad) m m ∧ w.heap.size + 1 ≤ ad.block ∧ Own w' w.heap.size 3 1 (some ad) m m (ints .i64 (List.replicate m 0))) ∧
      (i = 25 → ∃ ad : Addr, v = .pointer (some ad) ∧ w.heap.size + 1 ≤ ad.block ∧ ∃ cs, cs.length = 4 ∧ Box w' ad cs))
    (fun _ _ _ _ _ h hb => ⟨fun e => by obtain ⟨a, q1, q3, q2⟩ := h.1 e; exact ⟨a, q1, q3, Own.kept q2 hb⟩, fun e => by obtain ⟨a, q1, q3, q2⟩ := h.2.1 e; exact ⟨a, q1, q3, Own.kept q2 hb⟩, fun e => by obtain ⟨a, q1, q3, q2⟩ := h.2.2.1 e; exact ⟨a, q1, q3, Own.kept q2 hb⟩, fun e => by obtain ⟨a, q1, q3, q2⟩ := h.2.2.2.1 e; exact ⟨a, q1, q3, Own.kept q2 hb⟩, fun e => by obtain ⟨a, q1, q3, cs, q2, q4⟩ := h.2.2.2.2 e; exact ⟨a, q1, q3, cs, q2, q4.up hb⟩⟩) ?_
  refine nn_mk rfl ?_
  refine rd_box (by kernel_rfl) F3.box (i := 3) rfl rfl ?_
  refine flc_mk (fun w7 hb _ => ?_) (fun (x11 : Hdr) => ?_)
  · have hs := hb.size
    rw [ln]
    refine wr_make tyB n rfl rfl (by omega) (by unfold maxLen; omega) fun ad w' O hb' hbk _ => ⟨hb', fun _ => ⟨ad, rfl, by omega, ?_⟩, fun e => by omega, fun e => by omega, fun e => by omega, fun e => by omega⟩
    have := O w.heap.size (by omega)
    rw [Nat.mul_one] at this
    rw [← made_bool]; exact this
  refine nn_mk rfl ?_
  refine rd_box (by kernel_rfl) F3.box (i := 4) rfl rfl ?_
  refine flc_mk (fun w7 hb _ => ?_) (fun (x18 : Hdr) => ?_)
  · have hs := hb.size
    rw [lm]
    refine wr_make tyB m rfl rfl (by omega) (by unfold maxLen; omega) fun ad w' O hb' hbk _ => ⟨hb', fun e => by omega, fun _ => ⟨ad, rfl, by omega, ?_⟩, fun e => by omega, fun e => by omega, fun e => by omega⟩
    have := O w.heap.size (by omega)
    rw [Nat.mul_one] at this
    rw [← made_bool]; exact this
  refine nn_mk rfl ?_
  refine rd_box (by kernel_rfl) F3.box (i := 3) rfl rfl ?_
  refine flc_mk (fun w7 hb _ => ?_) (fun (x25 : Hdr) => ?_)
  · have hs := hb.size
    rw [ln]
    refine wr_make tyI n rfl rfl (by omega) (by unfold maxLen; omega) fun ad w' O hb' hbk _ => ⟨hb', fun e => by omega, fun e => by omega, fun _ => ⟨ad, rfl, by omega, ?_⟩, fun e => by omega, fun e => by omega⟩
    have := O w.heap.size (by omega)
    rw [Nat.mul_one] at this
    rw [← made_int]; exact this
  refine nn_mk rfl ?_
  refine rd_box (by kernel_rfl) F3.box (i := 4) rfl rfl ?_
  refine flc_mk (fun w7 hb _ => ?_) (fun (x32 : Hdr) => ?_)
  · have hs := hb.size
    rw [lm]
    refine wr_make tyI m rfl rfl (by omega) (by unfold maxLen; omega) fun ad w' O hb' hbk _ => ⟨hb', fun e => by omega, fun e => by omega, fun e => by omega, fun _ => ⟨ad, rfl, by omega, ?_⟩, fun e => by omega⟩
    have := O w.heap.size (by omega)
    rw [Nat.mul_one] at this
    rw [← made_int]; exact this
  refine flc_mk (fun w7 hb _ => ?_) (fun (x37 : Addr) => ?_)
  · have hs := hb.size
    exact wr_alloc (z := .agg #[.slice none 0 0, .slice none 0 0, .slice none 0 0, .slice none 0 0]) (by kernel_rfl) fun ad w' X hb' hbk _ => ⟨hb', fun e => by omega, fun e => by omega, fun e => by omega, fun e => by omega, fun _ => ⟨ad, rfl, by omega, _, rfl, X⟩⟩
  refine flend_mk fun w38 h38 hf => ?_
  obtain ⟨⟨f25, f23, f17, f11, f5, _⟩, hpw⟩ := hf
  obtain ⟨ad, q37, z37, cs, lcs, X37⟩ := f25.2.2.2.2 rfl
  obtain ⟨a4, q4, z4, O4⟩ := f23.2.2.2.1 rfl
  obtain ⟨a3, q3, z3, O3⟩ := f17.2.2.1 rfl
  obtain ⟨a2, q2, z2, O2⟩ := f11.2.1 rfl
  obtain ⟨a1, q1, z1, O1⟩ := f5.1 rfl
  have q37 : x37 = ad := by injection q37 with q; injection q
  have q4 : x32 = (some a4, m, m) := sl_inj q4
  have q3 : x25 = (some a3, n, n) := sl_inj q3
  have q2 : x18 = (some a2, m, m) := sl_inj q2
  have q1 : x11 = (some a1, n, n) := sl_inj q1
  subst q37 q4 q3 q2 q1
  have apart : ∀ {a b : Addr}, some a.block ≠ some b.block → a.block ≠ b.block := fun h e => h (by rw [e])
  obtain ⟨p1, hpw⟩ := List.pairwise_cons.1 hpw
  obtain ⟨p2, hpw⟩ := List.pairwise_cons.1 hpw
  obtain ⟨p3, hpw⟩ := List.pairwise_cons.1 hpw
  obtain ⟨p4, _⟩ := List.pairwise_cons.1 hpw
  have SDD : SD x1 x37 a1 a2 a3 a4 := by
    refine ⟨⟨by omega, by omega, by omega, by omega, by omega⟩, ⟨apart (p1 (.slice (some a1) n n) (by simp)), apart (p1 (.slice (some a2) m m) (by simp)), apart (p1 (.slice (some a3) n n) (by simp)), apart (p1 (.slice (some a4) m m) (by simp))⟩, ⟨fun e => apart (p4 (.slice (some a1) n n) (by simp)) e.symm, fun e => apart (p3 (.slice (some a1) n n) (by simp)) e.symm, fun e => apart (p2 (.slice (some a1) n n) (by simp)) e.symm⟩, ⟨fun e => apart (p3 (.slice (some a2) m m) (by simp)) e.symm, fun e => apart (p2 (.slice (some a2) m m) (by simp)) e.symm⟩, fun e => apart (p2 (.slice (some a3) n n) (by simp)) e.symm⟩
  have l4 := O4.lt a4.block rfl
  have l3 := O3.lt a3.block rfl
  have l2 := O2.lt a2.block rfl
  have l1 := O1.lt a1.block rfl
  have l37 := X37.lt
  have lx1 := ((X1.up h3).up h38).lt
  have SBB : SB w.heap.size w38.heap.size x1 x37 a1 a2 a3 a4 := ⟨⟨by omega, lx1⟩, ⟨by omega, l37⟩, l1, l2, l3, l4⟩
  have hwB : w.heap.size ≤ w38.heap.size := by omega
  generalize hBB : w38.heap.size = BB at SBB hwB
  refine wu_box X37 (by kernel_rfl) (by rw [lcs]; exact Nat.le_refl 4) rfl fun w40 X40 hg40 s40 => ?_
  rw [putAt_full (by rw [lcs]; rfl)] at X40
  have b40 : bel w w40 := (h23.trans h38).grownAt hg40 SBB.x37.1
  have F40 := F.up b40
  have M40 : SM w40 w.heap.size x1 x37 a1 a2 a3 a4 n m (List.replicate n false) (List.replicate m false) (List.replicate n 0) (List.replicate m 0) :=
    ⟨⟨_, rfl, ((X1.up h3).up h38).xg hg40 SDD.x1.1⟩, X40, xg_own O1 hg40 SDD.x37.1.symm, xg_own O2 hg40 SDD.x37.2.1.symm, xg_own O3 hg40 SDD.x37.2.2.1.symm, xg_own O4 hg40 SDD.x37.2.2.2.symm⟩
  have q0 : QS n m rr T B x1 x37 a1 a2 a3 a4 BB w w40 (none, 0, 0) (List.replicate n false) (List.replicate m false) (List.replicate n 0) (List.replicate m 0) [] :=
    ⟨M40, QAt.nil _ _ _, b40, by omega, ⟨by simp, by simp, by simp, by simp⟩, ⟨0, fun _ => 0, fun _ => 0, fun i _ h => (by rw [gb_rep] at h; cases h), fun i _ h => (by rw [gb_rep] at h; cases h), fun i _ h => (by rw [gb_rep] at h; cases h), fun i _ h => (by rw [gb_rep] at h; cases h)⟩, (fun x hx => by cases hx), fun i _ h => (by rw [gb_rep] at h; cases h), by rw [nf_rep]; exact Nat.le_refl _⟩
  refine nn_mk rfl ?_
  refine rd_box (by kernel_rfl) F40.box (i := 3) rfl rfl ?_
  refine loop_upA n (fun i q w' => ∃ vr pr xs, QS n m rr T B x1 x37 a1 a2 a3 a4 BB w w' q vr (List.replicate m false) pr (List.replicate m 0) xs ∧ (∀ j, j < i → 0 < g1 rr j → gb vr j = true) ∧ ∀ j, i ≤ j → gb vr j = false)
    ⟨_, _, _, q0, fun j hj => by omega, fun j _ => gb_rep n j⟩ fun i q w45 hi ⟨vr, pr, xs, H, hs, hu⟩ again hag _ => ?_
  refine br_dec (fun e => ?_) (fun e => ?_)
  · dsimp only at e
    have hin : i < n := by omega
    refine join_mk (fun s w' => ∃ vr pr xs, QS n m rr T B x1 x37 a1 a2 a3 a4 BB w w' s.1 vr (List.replicate m false) pr (List.replicate m 0) xs ∧ (∀ j, j < i + 1 → 0 < g1 rr j → gb vr j = true) ∧ ∀ j, i + 1 ≤ j → gb vr j = false) (fun K hK => ?_) (fun s w48 hJ _ => ?_)
    · refine int_mk (F.up H.up).o rfl (by have := FDD.lr; omega) ?_
      refine br_dec (fun e2 => ?_) (fun e2 => ?_)
      · refine drw_mk fun w52 h52 _ => ?_
        refine push_row (H.upw h52) SDD SBB hwB n64 hin (hu i (Nat.le_refl _)) rfl (.inl ⟨rfl, by omega⟩) fun q' w' H' => ?_
        refine hK _ _ ⟨_, _, _, H', fun j hj hp => ?_, fun j hj => ?_⟩
        · rw [gb_set (by rw [H.D.vr]; exact hin)]
          split
          · rfl
          · exact hs j (by omega) hp
        · rw [gb_set (by rw [H.D.vr]; exact hin), if_neg (by omega)]
          exact hu j (by omega)
      · refine hK _ _ ⟨_, _, _, H, fun j hj hp => ?_, fun j hj => hu j (by omega)⟩
        rcases Nat.lt_or_ge j i with z | z
        · exact hs j z hp
        · have : j = i := by omega
          subst this; omega
    · obtain ⟨sq, _⟩ := s
      refine z_i64 (by dsimp only; omega) ?_
      exact hag _ _ hin hJ
  dsimp only at e
  have hin : i = n := by omega
  subst hin
  clear hag again
  have hsta : Sta i rr vr := fun j hj hp => hs j hj hp
  refine loop_gh (G := List Bool × List Bool × List Int × List Int × List Int) (fun g s w' => QS i m rr T B x1 x37 a1 a2 a3 a4 BB w w' s.1 g.1 g.2.1 g.2.2.1 g.2.2.2.1 g.2.2.2.2 ∧ Sta i rr g.1 ∧ ClC i m cl T g.1 g.2.1) (fun g => nf g.1 + g.2.2.2.2.length) (vr, _, pr, _, xs) ⟨H, hsta, fun k _ hk => (by rw [gb_rep] at hk; cases hk)⟩ ?_
  clear hsta hu hs H
  rintro ⟨vr, vc, pr, pc, xs⟩ ⟨q, _⟩ w75 ⟨H, hst, hcc⟩ again hag _
  dsimp only at H hst hcc hag
  have hql := H.Q.len
  simp only [ints, List.length_map] at hql
  refine br_dec (fun e => ?_) (fun e => ?_)
  · dsimp only at e
    cases xs with
    | nil => simp at hql; omega
    | cons x0 xs =>
    obtain ⟨i0, hi0, rfl, hv0⟩ := H.ok x0 (by simp)
    refine int_mk H.Q.sl (k := 0) rfl (by simp) ?_
    rw [show g1 ((i0 : Int) :: xs) 0 = (i0 : Int) from rfl]
    refine nn_mk rfl ?_
    refine rd_box (by kernel_rfl) (F.up H.up).box (i := 4) rfl rfl ?_
    refine loop_upA m (fun k q w' => ∃ vr' vc pr pc xs', QS i m rr T B x1 x37 a1 a2 a3 a4 BB w w' q vr' vc pr pc ((i0 : Int) :: xs') ∧ Sta i rr vr' ∧ ClC i m cl T vr' vc ∧ gb vr' i0 = true ∧ (∀ k', k' < k → gb vc k' = false → g2 B i0 k' ≤ g2 T i0 k') ∧ nf vr' + xs'.length = nf vr + xs.length)
      ⟨_, _, _, _, _, H, hst, hcc, hv0, fun k' hk' => by omega, rfl⟩ fun k q w82 hk ⟨vr', vc, pr, pc, xs', H, hst, hcc, hv0, hcl, hnf⟩ again2 hag2 _ => ?_
    refine br_dec (fun e => ?_) (fun e => ?_)
    · dsimp only at e
      have hkm : k < m := by omega
      refine join_mk (fun s w' => ∃ vr' vc pr pc xs', QS i m rr T B x1 x37 a1 a2 a3 a4 BB w w' s.1 vr' vc pr pc ((i0 : Int) :: xs') ∧ Sta i rr vr' ∧ ClC i m cl T vr' vc ∧ gb vr' i0 = true ∧ (∀ k', k' < k + 1 → gb vc k' = false → g2 B i0 k' ≤ g2 T i0 k') ∧ nf vr' + xs'.length = nf vr + xs.length) (fun K hK => ?_) (fun s w85 hJ _ => ?_)
      · refine drw_mk fun w87 h87 _ => ?_
        replace H := H.upw h87
        have F87 := F.up H.up
        refine rd_box (by kernel_rfl) H.M.box (i := 1) rfl rfl ?_
        refine bool_mk (h := (some a2, m, m)) H.M.vc.sl rfl (by rw [H.D.vc]; exact hkm) ?_
        refine br_mk (fun ev => ?_) (fun ev => ?_)
        · refine hK _ _ ⟨_, _, _, _, _, H, hst, hcc, hv0, fun k' hk' hg => ?_, hnf⟩
          rcases Nat.lt_or_ge k' k with z | z
          · exact hcl k' z hg
          · have : k' = k := by omega
            subst this; rw [ev] at hg; cases hg
        refine nn_mk rfl ?_
        refine rd_box (by kernel_rfl) F87.box (i := 5) rfl rfl ?_
        refine cell_mk F87.t rfl rfl (by have := FDD.lT; omega) (fun r hr => by have := FDD.rT r (mem_at hr); omega) ?_
        refine nn_mk rfl ?_
        refine rd_box (by kernel_rfl) F87.box (i := 2) rfl rfl ?_
        refine cell_mk F87.b rfl rfl (by have := FDD.lB; omega) (fun r hr => by have := FDD.rB r (mem_at hr); omega) ?_
        refine br_dec (fun ec => ?_) (fun ec => ?_)
        · refine hK _ _ ⟨_, _, _, _, _, H, hst, hcc, hv0, fun k' hk' hg => ?_, hnf⟩
          rcases Nat.lt_or_ge k' k with z | z
          · exact hcl k' z hg
          · have : k' = k := by omega
            subst this; omega
        refine drw_mk fun w103 h103 _ => ?_
        replace H := H.upw h103
        refine push_col H SDD SBB hkm ev hi0 hv0 (by omega) rfl rfl fun w119 H2 => ?_
        have F119 := F.up H2.up
        have gk : ∀ j, gb (vc.set k true) j = if j = k then true else gb vc j := gb_set (by rw [H.D.vc]; exact hkm)
        refine nn_mk rfl ?_
        refine rd_box (by kernel_rfl) F119.box (i := 4) rfl rfl ?_
        refine int_mk F119.k rfl (by have := FDD.lc; omega) ?_
        refine br_dec (fun ep => ?_) (fun ep => ?_)
        · exact fin_mk H2 SDD SBB ⟨H2.D, .inr ⟨k, hkm, rfl, by rw [gk, if_pos rfl], by omega, H2.R⟩⟩
        refine nn_mk rfl ?_
        refine rd_box (by kernel_rfl) F119.box (i := 3) rfl rfl ?_
        refine loop_upA i (fun j q w' => ∃ vr' pr xs', QS i m rr T B x1 x37 a1 a2 a3 a4 BB w w' q vr' (vc.set k true) pr (pc.set k (i0 : Int)) ((i0 : Int) :: xs') ∧ Sta i rr vr' ∧ ClC i m cl T vr' vc ∧ gb vr' i0 = true ∧ (∀ j', j' < j → gb vr' j' = false → g2 T j' k ≤ 0) ∧ nf vr' + xs'.length = nf vr + xs.length)
          ⟨_, _, _, H2, hst, hcc, hv0, fun j hj => by omega, hnf⟩ fun j q w131 hj ⟨vr', pr, xs', H, hst, hcc, hv0, hjl, hnf⟩ again3 hag3 _ => ?_
        refine br_dec (fun e => ?_) (fun e => ?_)
        · dsimp only at e
          have hji : j < i := by omega
          have F131 := F.up H.up
          refine join_mk (fun s w' => ∃ vr' pr xs', QS i m rr T B x1 x37 a1 a2 a3 a4 BB w w' s.1 vr' (vc.set k true) pr (pc.set k (i0 : Int)) ((i0 : Int) :: xs') ∧ Sta i rr vr' ∧ ClC i m cl T vr' vc ∧ gb vr' i0 = true ∧ (∀ j', j' < j + 1 → gb vr' j' = false → g2 T j' k ≤ 0) ∧ nf vr' + xs'.length = nf vr + xs.length) (fun K2 hK2 => ?_) (fun s w134 hJ _ => ?_)
          · refine rd_box0 (by kernel_rfl) H.M.box rfl rfl ?_
            refine bool_mk (h := (some a1, i, i)) H.M.vr.sl rfl (by rw [H.D.vr]; exact hji) ?_
            refine br_not (fun ev => ?_) (fun ev => ?_)
            · refine nn_mk rfl ?_
              refine rd_box (by kernel_rfl) F131.box (i := 5) rfl rfl ?_
              refine cell_mk F131.t rfl rfl (by have := FDD.lT; omega) (fun r hr => by have := FDD.rT r (mem_at hr); omega) ?_
              refine br_dec (fun ec => ?_) (fun ec => ?_)
              · refine drw_mk fun w145 h145 _ => ?_
                refine push_row (H.upw h145) SDD SBB hwB n64 hji ev rfl (.inr ⟨k, hkm, rfl, by rw [gk, if_pos rfl], by omega⟩) fun q' w' H' => ?_
                refine hK2 _ _ ⟨_, _, _, H', hst.addRow H.D hji, hcc.addRow H.D hji, gb_mono' H.D hji hv0, fun j' hj' hg => ?_, ?_⟩
                · rw [gb_set (by rw [H.D.vr]; exact hji)] at hg
                  split at hg
                  · cases hg
                  · exact hjl j' (by omega) hg
                · have := nf_set' H.D hji ev
                  simp; omega
              · refine hK2 _ _ ⟨_, _, _, H, hst, hcc, hv0, fun j' hj' hg => ?_, hnf⟩
                rcases Nat.lt_or_ge j' j with z | z
                · exact hjl j' z hg
                · have : j' = j := by omega
                  subst this; omega
            · refine hK2 _ _ ⟨_, _, _, H, hst, hcc, hv0, fun j' hj' hg => ?_, hnf⟩
              rcases Nat.lt_or_ge j' j with z | z
              · exact hjl j' z hg
              · have : j' = j := by omega
                subst this; rw [ev] at hg; cases hg
          · obtain ⟨sq, _⟩ := s
            refine z_i64 (by dsimp only; omega) ?_
            exact hag3 _ _ hji hJ
        · dsimp only at e
          have hji : j = i := by omega
          subst hji
          refine hK _ _ ⟨_, _, _, _, _, H, hst, fun k' hk' hg => ?_, hv0, fun k' hk' hg => ?_, hnf⟩
          · rw [gk] at hg
            by_cases z : k' = k
            · subst z; exact ⟨by omega, hjl⟩
            · rw [if_neg z] at hg; exact hcc k' hk' hg
          · rw [gk] at hg
            split at hg
            · cases hg
            · rename_i z
              exact hcl k' (by omega) hg
      · obtain ⟨sq, _⟩ := s
        refine z_i64 (by dsimp only; omega) ?_
        exact hag2 _ _ hkm hJ
    · dsimp only at e
      have hkm : k = m := by omega
      subst hkm
      have Q2 := H.Q
      rw [show ints .i64 ((i0 : Int) :: xs') = .int .i64 (i0 : Int) :: ints .i64 xs' from rfl] at Q2
      refine q_tail tyI Q2 fun q' Q' => ?_
      have hle := H.le
      simp only [List.length_cons] at hle
      refine hag (vr', vc, pr, pc, xs') _ _ ⟨⟨H.M, Q', H.up, H.sz, H.D, H.R, fun x hx => H.ok x (by simp [hx]), fun i' hi' hg hx k' hk' hc => ?_, by dsimp only; omega⟩, hst, hcc⟩ (by simp; omega)
      by_cases z : i' = i0
      · subst z; exact hcl k' hk' hc
      · refine H.cl i' hi' hg (fun q => ?_) k' hk' hc
        rcases List.mem_cons.1 q with q | q
        · exact z (by omega)
        · exact hx q
  · dsimp only at e
    have hx0 : xs = [] := List.eq_nil_of_length_eq_zero (by omega)
    subst hx0
    exact fin_mk H SDD SBB ⟨H.D, .inl ⟨rfl, hst, H.cl, hcc⟩⟩
end Go.Proofs.Ytphgmfjinihgaaa

/- A flow and a way: no program in sight. -/


namespace Go.Proofs.Ytphgmfjinihgaaa

def up2 (t : Nat → Nat → Int) (i k : Nat) (v : Int) : Nat → Nat → Int := fun i' k' => if i' = i ∧ k' = k then v else t i' k'
def up1 (f : Nat → Int) (i : Nat) (v : Int) : Nat → Int := fun i' => if i' = i then v else f i'
theorem up2_row {t : Nat → Nat → Int} {i k : Nat} {v : Int} {m : Nat} (hk : k < m) (i' : Nat) : S m (up2 t i k v i') = S m (t i') + if i' = i then v - t i k else 0 := by
  by_cases e : i' = i
  · subst e
    rw [if_pos rfl, S_upd (f := t i') (g := up2 t i' k v i') hk fun j _ hj => by unfold up2; rw [if_neg (fun q => hj q.2)]]
    unfold up2; rw [if_pos ⟨rfl, rfl⟩]
  · rw [if_neg e, Int.add_zero]
    exact S_congr fun j _ => by unfold up2; rw [if_neg (fun q => e q.1)]
theorem up2_col {t : Nat → Nat → Int} {i k : Nat} {v : Int} {n : Nat} (hi : i < n) (k' : Nat) : (S n fun i' => up2 t i k v i' k') = (S n fun i' => t i' k') + if k' = k then v - t i k else 0 := by
  by_cases e : k' = k
  · subst e
    rw [if_pos rfl, S_upd (f := fun i' => t i' k') (g := fun i' => up2 t i k' v i' k') hi fun j _ hj => by unfold up2; rw [if_neg (fun q => hj q.1)]]
    unfold up2; rw [if_pos ⟨rfl, rfl⟩]
  · rw [if_neg e, Int.add_zero]
    exact S_congr fun j _ => by unfold up2; rw [if_neg (fun q => e q.2)]
/-- a flow; of the columns some may still want something -/
structure FlowP (n m : Nat) (R C : Nat → Int) (B : Nat → Nat → Int) (r c : Nat → Int) (t : Nat → Nat → Int) (D : Nat → Int) : Prop where
  row : ∀ i, i < n → S m (t i) + r i = R i
  col : ∀ k, k < m → (S n fun i => t i k) + c k + D k = C k
  tb : ∀ i k, i < n → k < m → 0 ≤ t i k ∧ t i k ≤ B i k
  r0 : ∀ i, i < n → 0 ≤ r i
  c0 : ∀ k, k < m → 0 ≤ c k
def one (k : Nat) (N : Int) : Nat → Int := fun k' => if k' = k then N else 0
def noD : Nat → Int := fun _ => 0
section
variable {n m : Nat} {R C : Nat → Int} {B : Nat → Nat → Int} {r c : Nat → Int} {t : Nat → Nat → Int}
theorem FlowP.start (F : FlowP n m R C B r c t noD) {k : Nat} {N : Int} (hN : N ≤ c k) : FlowP n m R C B r (up1 c k (c k - N)) t (one k N) := by
  refine ⟨F.row, fun k' hk' => ?_, F.tb, F.r0, fun k' hk' => ?_⟩
  · have := F.col k' hk'
    unfold noD at this
    unfold up1 one
    by_cases e : k' = k
    · subst e; rw [if_pos rfl, if_pos rfl]; omega
    · rw [if_neg e, if_neg e]; omega
  · unfold up1
    have := F.c0 k' hk'
    split <;> omega
theorem FlowP.mid {k k' i : Nat} {N : Int} (F : FlowP n m R C B r c t (one k N)) (hi : i < n) (hk : k < m) (hk' : k' < m) (hne : k' ≠ k) (h0 : 0 ≤ N) (h1 : N ≤ B i k - t i k) (h2 : N ≤ t i k') :
    FlowP n m R C B r c (up2 (up2 t i k (t i k + N)) i k' (t i k' - N)) (one k' N) := by
  have e1 : up2 t i k (t i k + N) i k' = t i k' := by unfold up2; rw [if_neg (fun q => hne q.2)]
  refine ⟨fun i' hi' => ?_, fun j hj => ?_, fun i' j hi' hj => ?_, F.r0, F.c0⟩
  · rw [up2_row hk', up2_row hk, e1]
    have := F.row i' hi'
    split <;> omega
  · rw [up2_col hi, up2_col hi, e1]
    have := F.col j hj
    unfold one at this ⊢
    by_cases a : j = k
    · have a' : j ≠ k' := fun q => hne (q.symm.trans a)
      simp only [if_pos a, if_neg a'] at this ⊢; omega
    · by_cases a' : j = k'
      · simp only [if_neg a, if_pos a'] at this ⊢; omega
      · simp only [if_neg a, if_neg a'] at this ⊢; omega
  · have b := F.tb i' j hi' hj
    unfold up2
    by_cases a : i' = i ∧ j = k'
    · obtain ⟨rfl, rfl⟩ := a
      rw [if_pos ⟨rfl, rfl⟩]; omega
    · rw [if_neg a]
      by_cases a : i' = i ∧ j = k
      · obtain ⟨rfl, rfl⟩ := a
        rw [if_pos ⟨rfl, rfl⟩]; omega
      · rw [if_neg a]; exact b
theorem FlowP.fin {k i : Nat} {N : Int} (F : FlowP n m R C B r c t (one k N)) (hi : i < n) (hk : k < m) (h0 : 0 ≤ N) (h1 : N ≤ B i k - t i k) (h2 : N ≤ r i) :
    FlowP n m R C B (up1 r i (r i - N)) c (up2 t i k (t i k + N)) noD := by
  refine ⟨fun i' hi' => ?_, fun j hj => ?_, fun i' j hi' hj => ?_, fun i' hi' => ?_, F.c0⟩
  · rw [up2_row hk]
    have := F.row i' hi'
    unfold up1
    by_cases a : i' = i
    · subst a; rw [if_pos rfl, if_pos rfl]; omega
    · rw [if_neg a, if_neg a]; omega
  · rw [up2_col hi]
    have := F.col j hj
    unfold one at this
    unfold noD
    by_cases a : j = k
    · subst a; rw [if_pos rfl] at this ⊢; omega
    · rw [if_neg a] at this ⊢; omega
  · have b := F.tb i' j hi' hj
    unfold up2
    by_cases a : i' = i ∧ j = k
    · obtain ⟨rfl, rfl⟩ := a
      rw [if_pos ⟨rfl, rfl⟩]; omega
    · rw [if_neg a]; exact b
  · unfold up1
    have := F.r0 i' hi'
    split <;> omega
end
theorem S_up1 {n : Nat} {f : Nat → Int} {i : Nat} {v : Int} (hi : i < n) : S n (up1 f i v) = S n f + (v - f i) := by
  rw [S_upd (f := f) (g := up1 f i v) hi fun j _ hj => by unfold up1; rw [if_neg hj]]
  unfold up1; rw [if_pos rfl]
/-- a way to a column, on which N can flow -/
inductive Cap (n m : Nat) (B : Nat → Nat → Int) (r : Nat → Int) (t : Nat → Nat → Int) (pr pc : List Int) (kr kc : Nat → Nat) (N : Int) : Nat → Prop
  | last {k i : Nat} : k < m → i < n → g1 pc k = (i : Int) → N ≤ B i k - t i k → g1 pr i = -1 → N ≤ r i → kr i < kc k → Cap n m B r t pr pc kr kc N k
  | step {k i k' : Nat} : k < m → i < n → k' < m → g1 pc k = (i : Int) → N ≤ B i k - t i k → g1 pr i = (k' : Int) → N ≤ t i k' → kr i < kc k → kc k' < kr i → Cap n m B r t pr pc kr kc N k' → Cap n m B r t pr pc kr kc N k
def mk2 (n m : Nat) (t : Nat → Nat → Int) : List (List Int) := (List.range n).map fun i => mk m (t i)
theorem mk2_len (n m : Nat) (t : Nat → Nat → Int) : (mk2 n m t).length = n := by simp [mk2]
theorem mk2_at {n m : Nat} {t : Nat → Nat → Int} {i : Nat} (h : i < n) : (mk2 n m t)[i]? = some (mk m (t i)) := by simp [mk2, h]
theorem mk2_g2 {n m : Nat} {t : Nat → Nat → Int} {i k : Nat} (h : i < n) (h' : k < m) : g2 (mk2 n m t) i k = t i k := by rw [g2_row (mk2_at h), mk_g1 h']
theorem mk2_row {n m : Nat} {t : Nat → Nat → Int} : ∀ r ∈ mk2 n m t, r.length = m := by
  intro r hr
  obtain ⟨i, hi, rfl⟩ := List.mem_map.1 hr
  exact mk_len _ _
/-- every list is made of its places -/
theorem mk_self (l : List Int) : mk l.length (g1 l) = l := by
  refine List.ext_getElem? fun j => ?_
  by_cases h : j < l.length
  · rw [mk_at h, List.getElem?_eq_getElem h, g1_at (List.getElem?_eq_getElem h)]
  · rw [List.getElem?_eq_none (by rw [mk_len]; omega), List.getElem?_eq_none (by omega)]
end Go.Proofs.Ytphgmfjinihgaaa

/- augment. -/


namespace Go.Proofs.Ytphgmfjinihgaaa
open Go.RowKit Go.Q Go.V

def hdrs (n m : Nat) (ra : Nat → Addr) : List Hdr := (List.range n).map fun i => (some (ra i), m, m)
theorem hdrs_at {n m i : Nat} {ra : Nat → Addr} (h : i < n) : (hdrs n m ra)[i]? = some (some (ra i), m, m) := by simp [hdrs, h]
theorem hdrs_len (n m : Nat) (ra : Nat → Addr) : (hdrs n m ra).length = n := by simp [hdrs]
/-- a flow, owned -/
structure FO (w0 w : World) (fa ao ak : Addr) (co ck : Nat) (hr hc hb ht : Hdr) (ra : Nat → Addr) (nn n m : Nat) (r c : Nat → Int) (t : Nat → Nat → Int) : Prop where
  up : bel w0 w
  box : Box w fa [slv hr, slv hc, slv hb, slv (some ao, n, co), slv (some ak, m, ck), slv ht]
  o : Own w w0.heap.size 3 1 (some ao) n co (ints .i64 (mk n r))
  k : Own w w0.heap.size 3 1 (some ak) m ck (ints .i64 (mk m c))
  th : Own w w0.heap.size 22 1 ht.1 ht.2.1 ht.2.2 ((hdrs nn m ra).map hv)
  rows : ∀ i, i < nn → Own w w0.heap.size 3 1 (some (ra i)) m m (ints .i64 (mk m (t i)))
/-- all apart -/
structure FS (fa ao ak : Addr) (ht : Hdr) (ra : Nat → Addr) (n : Nat) : Prop where
  f : fa.block ≠ ao.block ∧ fa.block ≠ ak.block
  o : ao.block ≠ ak.block
  h : ∀ k, blk ht.1 = some k → k ≠ ao.block ∧ k ≠ ak.block ∧ k ≠ fa.block
  r : ∀ i, i < n → (ra i).block ≠ fa.block ∧ (ra i).block ≠ ao.block ∧ (ra i).block ≠ ak.block ∧ blk ht.1 ≠ some (ra i).block
  d : ∀ i j, i < n → j < n → i ≠ j → (ra i).block ≠ (ra j).block
section
variable {w0 w : World} {fa ao ak : Addr} {co ck : Nat} {hr hc hb ht : Hdr} {ra : Nat → Addr} {n m : Nat} {r c : Nat → Int} {t : Nat → Nat → Int}
theorem FO.upw {w' : World} (H : FO w0 w fa ao ak co ck hr hc hb ht ra n n m r c t) (h : bel w w') : FO w0 w' fa ao ak co ck hr hc hb ht ra n n m r c t :=
  ⟨H.up.trans h, H.box.up h, Own.kept H.o h, Own.kept H.k h, Own.kept H.th h, fun i hi => Own.kept (H.rows i hi) h⟩
theorem FO.tab (H : FO w0 w fa ao ak co ck hr hc hb ht ra n n m r c t) : TabI .i64 w ht (mk2 n m t) :=
  ⟨⟨hdrs n m ra, H.th.sl, by rw [hdrs_len, mk2_len], fun i x row hx hrow => by
    have hi : i < n := by have := (List.getElem?_eq_some_iff.1 hx).1; rwa [hdrs_len] at this
    rw [hdrs_at hi] at hx
    rw [mk2_at hi] at hrow
    cases hx; cases hrow
    exact (H.rows i hi).sl⟩⟩
theorem FO.hdr (H : FO w0 w fa ao ak co ck hr hc hb ht ra n n m r c t) {i : Nat} {ii : Int} (hi : ii = (i : Int)) (hn : i < n) {K : Hdr → Prop} (hK : K (some (ra i), m, m)) :
    rdp Try.prog (Instr.indexAt 23 (.slice ht.1 ht.2.1 ht.2.2) (.int .i64 ii)) (.one .addr) fun a => rd Try.prog (Instr.loadAt 22 (.pointer (some a))) (.one .slice) w K := by
  have hl : n = ht.2.1 := by have := H.th.sl.len; simpa [hdrs_len] using this
  refine at_hdr tyT (by kernel_rfl) H.th.sl hi (by omega) fun x hx => ?_
  rw [hdrs_at hn] at hx
  cases hx; exact hK
theorem FO.cell (H : FO w0 w fa ao ak co ck hr hc hb ht ra n n m r c t) {i k : Nat} {ii kk : Int} (hi : ii = (i : Int)) (hk : kk = (k : Int)) (hn : i < n) (hm : k < m) {K : Int → Prop} (hK : K (t i k)) :
    rdp Try.prog (Instr.indexAt 23 (.slice ht.1 ht.2.1 ht.2.2) (.int .i64 ii)) (.one .addr) fun a => rd Try.prog (Instr.loadAt 22 (.pointer (some a))) (.one .slice) w fun (x : Hdr) =>
      rdp Try.prog (Instr.indexAt 22 (.slice x.1 x.2.1 x.2.2) (.int .i64 kk)) (.one .addr) fun b => rd Try.prog (Instr.loadAt 3 (.pointer (some b))) (.one (.int .i64)) w K := by
  refine H.hdr hi hn ?_
  refine int_mk (h := (some (ra i), m, m)) (H.rows i hn).sl hk (by rw [mk_len]; exact hm) ?_
  rw [mk_g1 hm]; exact hK
theorem FO.rowI (H : FO w0 w fa ao ak co ck hr hc hb ht ra n n m r c t) {i k : Nat} {kk : Int} (hk : kk = (k : Int)) (hn : i < n) (hm : k < m) {K : Int → Prop} (hK : K (t i k)) :
    rdp Try.prog (Instr.indexAt 22 (.slice (some (ra i)) m m) (.int .i64 kk)) (.one .addr) fun b => rd Try.prog (Instr.loadAt 3 (.pointer (some b))) (.one (.int .i64)) w K := by
  refine int_mk (h := (some (ra i), m, m)) (H.rows i hn).sl hk (by rw [mk_len]; exact hm) ?_
  rw [mk_g1 hm]; exact hK
theorem FO.setT (H : FO w0 w fa ao ak co ck hr hc hb ht ra n n m r c t) (A : FS fa ao ak ht ra n) {i k : Nat} {kk v : Int} (hk : kk = (k : Int)) (hn : i < n) (hm : k < m) {K : World → Prop}
    (hK : ∀ w', FO w0 w' fa ao ak co ck hr hc hb ht ra n n m r c (up2 t i k v) → Xg (ra i).block w w' → K w') :
    rdp Try.prog (Instr.indexAt 22 (.slice (some (ra i)) m m) (.int .i64 kk)) (.one .addr) fun ad => wu Try.prog (Instr.storeAt 3 (.pointer (some ad)) (.int .i64 v)) w K := by
  refine set_mk tyI (H.rows i hn) hk hm rfl fun w' O hg _ => ?_
  rw [ints_set, mk_set] at O
  obtain ⟨n1, n2, n3, n4⟩ := A.r i hn
  have lr := (H.rows i hn).lt _ rfl
  refine hK w' ⟨H.up.grownAt hg lr.1, H.box.xg hg (fun e => n1 e.symm), xg_own H.o hg (fun e => n2 e.symm), xg_own H.k hg (fun e => n3 e.symm), Own.putNew H.th hg (fun j hj e => n4 (by rw [hj, e])), fun j hj => ?_⟩ hg
  by_cases e : j = i
  · subst e
    have : Go.Proofs.Ytphgmfjinihgaaa.mk m (up2 t j k v j) = Go.Proofs.Ytphgmfjinihgaaa.mk m fun j' => if j' = k then v else t j j' := mk_congr fun q _ => by unfold up2; simp
    rw [this]; exact O
  · have : Go.Proofs.Ytphgmfjinihgaaa.mk m (up2 t i k v j) = Go.Proofs.Ytphgmfjinihgaaa.mk m (t j) := mk_congr fun q _ => by unfold up2; rw [if_neg (fun z => e z.1)]
    rw [this]
    exact xg_own (H.rows j hj) hg (A.d j i hj hn e)
theorem FO.setO (H : FO w0 w fa ao ak co ck hr hc hb ht ra n n m r c t) (A : FS fa ao ak ht ra n) {i : Nat} {ii v : Int} (hi : ii = (i : Int)) (hn : i < n) {K : World → Prop}
    (hK : ∀ w', FO w0 w' fa ao ak co ck hr hc hb ht ra n n m (up1 r i v) c t → Xg ao.block w w' → K w') :
    rdp Try.prog (Instr.indexAt 22 (.slice (some ao) n co) (.int .i64 ii)) (.one .addr) fun ad => wu Try.prog (Instr.storeAt 3 (.pointer (some ad)) (.int .i64 v)) w K := by
  refine set_mk tyI H.o hi hn rfl fun w' O hg _ => ?_
  rw [ints_set, mk_set] at O
  have lr := H.o.lt _ rfl
  exact hK w' ⟨H.up.grownAt hg lr.1, H.box.xg hg A.f.1, O, xg_own H.k hg (fun e => A.o e.symm), Own.putNew H.th hg (fun j hj => (A.h j hj).1), fun j hj => xg_own (H.rows j hj) hg (A.r j hj).2.1⟩ hg
theorem FO.setK (H : FO w0 w fa ao ak co ck hr hc hb ht ra n n m r c t) (A : FS fa ao ak ht ra n) {i : Nat} {ii v : Int} (hi : ii = (i : Int)) (hn : i < m) {K : World → Prop}
    (hK : ∀ w', FO w0 w' fa ao ak co ck hr hc hb ht ra n n m r (up1 c i v) t → Xg ak.block w w' → K w') :
    rdp Try.prog (Instr.indexAt 22 (.slice (some ak) m ck) (.int .i64 ii)) (.one .addr) fun ad => wu Try.prog (Instr.storeAt 3 (.pointer (some ad)) (.int .i64 v)) w K := by
  refine set_mk tyI H.k hi hn rfl fun w' O hg _ => ?_
  rw [ints_set, mk_set] at O
  have lr := H.k.lt _ rfl
  exact hK w' ⟨H.up.grownAt hg lr.1, H.box.xg hg A.f.2, xg_own H.o hg A.o, O, Own.putNew H.th hg (fun j hj => (A.h j hj).2.1), fun j hj => xg_own (H.rows j hj) hg (A.r j hj).2.2.1⟩ hg
theorem FO.getO (H : FO w0 w fa ao ak co ck hr hc hb ht ra n n m r c t) {i : Nat} {ii : Int} (hi : ii = (i : Int)) (hn : i < n) {K : Int → Prop} (hK : K (r i)) :
    rdp Try.prog (Instr.indexAt 22 (.slice (some ao) n co) (.int .i64 ii)) (.one .addr) fun b => rd Try.prog (Instr.loadAt 3 (.pointer (some b))) (.one (.int .i64)) w K := by
  refine int_mk (h := (some ao, n, co)) H.o.sl hi (by rw [mk_len]; exact hn) ?_
  rw [mk_g1 hn]; exact hK
theorem FO.getK (H : FO w0 w fa ao ak co ck hr hc hb ht ra n n m r c t) {i : Nat} {ii : Int} (hi : ii = (i : Int)) (hn : i < m) {K : Int → Prop} (hK : K (c i)) :
    rdp Try.prog (Instr.indexAt 22 (.slice (some ak) m ck) (.int .i64 ii)) (.one .addr) fun b => rd Try.prog (Instr.loadAt 3 (.pointer (some b))) (.one (.int .i64)) w K := by
  refine int_mk (h := (some ak, m, ck)) H.k.sl hi (by rw [mk_len]; exact hn) ?_
  rw [mk_g1 hn]; exact hK
end
theorem up2_ne {t : Nat → Nat → Int} {i k i' k' : Nat} {v : Int} (h : i' ≠ i) : up2 t i k v i' k' = t i' k' := by unfold up2; rw [if_neg (fun q => h q.1)]
theorem min_z {a b : Int} {k : Int → Prop} (h : k (min a b)) : z (if b < a then b else a) k := by
  unfold z
  rw [show (if b < a then b else a) = min a b by split <;> omega]; exact h
set_option maxHeartbeats 3200000 in
theorem augF {w0 w : World} {fa ao ak : Addr} {co ck : Nat} {hr hc hb ht : Hdr} {ra : Nat → Addr} {n m : Nat} {r c : Nat → Int} {t : Nat → Nat → Int} {R C : Nat → Int} {B : List (List Int)} (H : FO w0 w fa ao ak co ck hr hc hb ht ra n n m r c t) (A : FS fa ao ak ht ra n) (HB : TabI .i64 w0 hb B)
    (lB : B.length = n) (rB : ∀ q ∈ B, q.length = m) (bB : ∀ i k, 0 ≤ g2 B i k ∧ g2 B i k ≤ 1000000) (bR : ∀ i, i < n → r i ≤ 1000000) (bC : ∀ k, k < m → c k ≤ 1000000)
    {h1 h2 : Hdr} {a3 a4 : Addr} {bb : Nat} {vr vc : List Bool} {pr pc : List Int} {tt : Nat} {kr kc : Nat → Nat} (D : Dims n m vr vc pr pc) (O3 : Own w bb 3 1 (some a3) n n (ints .i64 pr)) (O4 : Own w bb 3 1 (some a4) m m (ints .i64 pc))
    (b2 : ak.block < bb) (b3 : ∀ i, i < n → (ra i).block < bb) (RE : Reach n m (mk n r) (mk2 n m t) B vr vc pr pc tt kr kc) (P : FlowP n m R C (g2 B) r c t noD) {k0 : Nat} (hk0 : k0 < m) (hv0 : gb vc k0 = true) (hc0 : 0 < c k0) :
    call Try.prog 31 [.pointer (some fa), .agg #[slv h1, slv h2, .slice (some a3) n n, .slice (some a4) m m], .int .i64 (k0 : Int)] (.many []) w
      (fun _ w' => ∃ r' c' t' N, FO w0 w' fa ao ak co ck hr hc hb ht ra n n m r' c' t' ∧ FlowP n m R C (g2 B) r' c' t' noD ∧ 0 < N ∧ S n r' = S n r - N) := by
  refine call_of (S31_calls (some fa) h1.1 h1.2.1 h1.2.2 h2.1 h2.2.1 h2.2.2 (some a3) n n (some a4) m m (k0 : Int) w _ ?_)
  unfold S31
  refine wr_box fun x1 w2 X hb2 ex1 _ => ?_
  replace X : Box w2 x1 (wkc h1 h2 (some a3, n, n) (some a4, m, m)) := X
  have lo := H.o.lt ao.block rfl
  have lk := H.k.lt ak.block rfl
  have lr := fun i (hi : i < n) => (H.rows i hi).lt (ra i).block rfl
  have l3 := O3.lt a3.block rfl
  have l4 := O4.lt a4.block rfl
  replace H := H.upw hb2
  replace O3 : Own w2 bb 3 1 (some a3) n n (ints .i64 pr) := Own.kept O3 hb2
  replace O4 : Own w2 bb 3 1 (some a4) m m (ints .i64 pc) := Own.kept O4 hb2
  have d3 := D.pr
  have d4 := D.pc
  refine nn_mk rfl ?_
  refine rd_box (by kernel_rfl) H.box (i := 4) rfl rfl ?_
  refine H.getK rfl hk0 ?_
  refine loop_gh (G := Nat) (fun k s w' => s.2 = ((k : Int), ()) ∧ k < m ∧ gb vc k = true ∧ 0 < s.1 ∧ s.1 ≤ c k0 ∧ (∀ N, N ≤ s.1 → Cap n m (g2 B) r t pr pc kr kc N k → Cap n m (g2 B) r t pr pc kr kc N k0) ∧ bel w2 w') (fun k => kc k) k0 ⟨rfl, hk0, hv0, hc0, Int.le_refl _, fun _ _ h => h, bel.refl _⟩ ?_
  rintro k ⟨N, s⟩ w9 ⟨rfl, hk, hv, hN, hNc, hcap, h9⟩ again hag _
  dsimp only at hN hNc hcap hag
  refine rd_box (by kernel_rfl) (X.up h9) (i := 3) rfl rfl ?_
  obtain ⟨i, hi, epc, evr, elt, erk⟩ := RE.col k hk hv
  rw [mk2_g2 hi hk] at elt
  refine int_mk (h := (some a4, m, m)) (O4.sl.up h9) rfl (by omega) ?_
  rw [epc]
  refine drw_mk fun w13 h13 _ => ?_
  replace h13 := h9.trans h13
  have H13 := H.upw h13
  refine nn_mk rfl ?_
  refine rd_box (by kernel_rfl) H13.box (i := 2) rfl rfl ?_
  refine cell_mk (HB.up H13.up) rfl rfl (by omega) (fun q hq => by have := rB q (mem_at hq); omega) ?_
  refine nn_mk rfl ?_
  refine rd_box (by kernel_rfl) H13.box (i := 5) rfl rfl ?_
  refine H13.cell rfl rfl hi hk ?_
  have tb := P.tb i k hi hk
  have bb1 := bB i k
  have bc0 := bC k0 hk0
  refine z_i64 (by omega) ?_
  refine min_z ?_
  refine rd_box (by kernel_rfl) (X.up h13) (i := 2) rfl rfl ?_
  refine int_mk (h := (some a3, n, n)) (O3.sl.up h13) rfl (by omega) ?_
  rcases RE.row i hi evr with ⟨epr, er⟩ | ⟨k', hk', epr, evc, etk, erk'⟩
  · rw [mk_g1 hi] at er
    rw [epr]
    have br := bR i hi
    refine br_dec (fun _ => ?_) (fun e => absurd (by decide) e)
    refine nn_mk rfl ?_
    refine rd_box (by kernel_rfl) H13.box (i := 3) rfl rfl ?_
    refine H13.getO rfl hi ?_
    refine min_z ?_
    generalize hM : min (min N (g2 B i k - t i k)) (r i) = M
    have M0 : 0 < M := by omega
    have MC : Cap n m (g2 B) r t pr pc kr kc M k0 := hcap M (by omega) (.last hk hi epc (by omega) epr (by omega) erk)
    have Mc : M ≤ c k0 := by omega
    clear hM hag hcap
    refine nn_mk rfl ?_
    refine rd_box (by kernel_rfl) H13.box (i := 4) rfl rfl ?_
    refine H13.getK rfl hk0 ?_
    refine z_i64 (by omega) ?_
    refine H13.setK A rfl hk0 fun w42 H42 g42 => ?_
    have P42 := P.start Mc
    have s13 := h13.size
    have s2 := hb2.size
    replace X : Box w42 x1 (wkc h1 h2 (some a3, n, n) (some a4, m, m)) := (X.up h13).xg g42 (by omega)
    replace O3 : Own w42 bb 3 1 (some a3) n n (ints .i64 pr) := xg_own (Own.kept O3 h13) g42 (by omega)
    replace O4 : Own w42 bb 3 1 (some a4) m m (ints .i64 pc) := xg_own (Own.kept O4 h13) g42 (by omega)
    refine loop_gh (G := Nat × (Nat → Nat → Int)) (fun g s w' => s = ((g.1 : Int), ()) ∧ FO w0 w' fa ao ak co ck hr hc hb ht ra n n m r (up1 c k0 (c k0 - M)) g.2 ∧ FlowP n m R C (g2 B) r (up1 c k0 (c k0 - M)) g.2 (one g.1 M) ∧ Cap n m (g2 B) r t pr pc kr kc M g.1 ∧ (∀ i, i < n → kr i < kc g.1 → ∀ k'', g.2 i k'' = t i k'') ∧ Box w' x1 (wkc h1 h2 (some a3, n, n) (some a4, m, m)) ∧ Own w' bb 3 1 (some a3) n n (ints .i64 pr) ∧ Own w' bb 3 1 (some a4) m m (ints .i64 pc)) (fun g => kc g.1) (k0, t)
      ⟨rfl, H42, P42, MC, fun _ _ _ _ => rfl, X, O3, O4⟩ ?_
    clear X O3 O4 H42 P42 MC tb
    rintro ⟨k, t'⟩ s w45 ⟨rfl, H, P, hcap, hsame, X, O3, O4⟩ again hag _
    dsimp only at H P hcap hsame hag
    have st1 : ∀ {i : Nat} {w' : World}, i < n → Xg (ra i).block w45 w' → Box w' x1 (wkc h1 h2 (some a3, n, n) (some a4, m, m)) ∧ Own w' bb 3 1 (some a3) n n (ints .i64 pr) ∧ Own w' bb 3 1 (some a4) m m (ints .i64 pc) := fun {i w'} hi hg => by
      have z1 := lr i hi
      have z2 := b3 i hi
      exact ⟨X.xg hg (by omega), xg_own O3 hg (by omega), xg_own O4 hg (by omega)⟩
    refine rd_box (by kernel_rfl) X (i := 3) rfl rfl ?_
    cases hcap with
    | @last _ i hk hi epc eN epr eR erk =>
      have tb := P.tb i k hi hk
      have bb1 := bB i k
      rw [← hsame i hi erk] at eN
      refine int_mk (h := (some a4, m, m)) O4.sl rfl (by omega) ?_
      rw [epc]
      refine nn_mk rfl ?_
      refine rd_box (by kernel_rfl) H.box (i := 5) rfl rfl ?_
      refine H.hdr rfl hi ?_
      refine H.rowI rfl hi hk ?_
      refine z_i64 (by omega) ?_
      refine H.setT A rfl hi hk fun w57 H57 g57 => ?_
      obtain ⟨X57, O3', O4'⟩ := st1 hi g57
      refine rd_box (by kernel_rfl) X57 (i := 2) rfl rfl ?_
      refine int_mk (h := (some a3, n, n)) O3'.sl rfl (by omega) ?_
      rw [epr]
      refine br_dec (fun _ => ?_) (fun e => absurd (by decide) e)
      refine nn_mk rfl ?_
      refine rd_box (by kernel_rfl) H57.box (i := 3) rfl rfl ?_
      refine H57.getO rfl hi ?_
      have br := bR i hi
      refine z_i64 (by omega) ?_
      refine H57.setO A rfl hi fun w67 H67 _ => ?_
      exact ⟨(), rfl, _, _, _, M, H67, P.fin hi hk (by omega) eN eR, M0, by rw [S_up1 hi]; omega⟩
    | @step _ i k' hk hi hk' epc eN epr eT erk erk' hc' =>
      have tb := P.tb i k hi hk
      have tb' := P.tb i k' hi hk'
      have bb1 := bB i k
      have bb2 := bB i k'
      have hne : k' ≠ k := by rintro rfl; omega
      rw [← hsame i hi erk] at eN eT
      refine int_mk (h := (some a4, m, m)) O4.sl rfl (by omega) ?_
      rw [epc]
      refine nn_mk rfl ?_
      refine rd_box (by kernel_rfl) H.box (i := 5) rfl rfl ?_
      refine H.hdr rfl hi ?_
      refine H.rowI rfl hi hk ?_
      refine z_i64 (by omega) ?_
      refine H.setT A rfl hi hk fun w57 H57 g57 => ?_
      obtain ⟨X57, O3', O4'⟩ := st1 hi g57
      refine rd_box (by kernel_rfl) X57 (i := 2) rfl rfl ?_
      refine int_mk (h := (some a3, n, n)) O3'.sl rfl (by omega) ?_
      rw [epr]
      refine br_dec (fun e => absurd e (by omega)) (fun _ => ?_)
      refine nn_mk rfl ?_
      refine rd_box (by kernel_rfl) H57.box (i := 5) rfl rfl ?_
      refine H57.hdr rfl hi ?_
      refine H57.rowI rfl hi hk' ?_
      have e1 : up2 t' i k (t' i k + M) i k' = t' i k' := by unfold up2; rw [if_neg (fun q => hne q.2)]
      rw [e1]
      refine z_i64 (by omega) ?_
      refine H57.setT A rfl hi hk' fun w76 H76 g76 => ?_
      have z1 := lr i hi
      have z2 := b3 i hi
      refine hag (k', _) _ _ ⟨rfl, H76, P.mid hi hk hk' hne (by omega) eN eT, hc', fun i' hi' hlt k'' => ?_, X57.xg g76 (by omega), xg_own O3' g76 (by omega), xg_own O4' g76 (by omega)⟩ (by dsimp only; omega)
      have : i' ≠ i := by rintro rfl; dsimp only at hlt; omega
      show up2 (up2 t' i k (t' i k + M)) i k' (t' i k' - M) i' k'' = t i' k''
      rw [up2_ne this, up2_ne this]
      exact hsame i' hi' (by dsimp only at hlt ⊢; omega) k''
  · rw [mk2_g2 hi hk'] at etk
    rw [epr]
    refine br_dec (fun e => absurd e (by omega)) (fun _ => ?_)
    refine nn_mk rfl ?_
    refine rd_box (by kernel_rfl) H13.box (i := 5) rfl rfl ?_
    refine H13.cell rfl rfl hi hk' ?_
    refine min_z ?_
    refine hag k' _ _ ⟨rfl, hk', evc, by dsimp only; omega, by dsimp only; omega, fun N' hN' hc' => hcap N' (by dsimp only at hN'; omega) (.step hk hi hk' epc (by dsimp only at hN'; omega) epr (by dsimp only at hN'; omega) erk erk' hc'), h13⟩ (by omega)
end Go.Proofs.Ytphgmfjinihgaaa

/- CheckTable and CheckCut, of both. -/

namespace Go.Proofs.Ytphgmfjinihgaaa
open Go.RowKit Go.Q Go.V

theorem MargOk.wd {T : List (List Int)} {m : Nat} (h : MargOk T m) : wd T = m := by
  have h0 : T[0]? = some (T[0]'h.t0) := List.getElem?_eq_getElem h.t0
  rw [wd_at h0]; exact h.row _ (mem_at h0)
theorem TabP.marg {R C : List Int} {B T : List (List Int)} (h : TabP R C B T) : MargOk T (wd T) := by rw [h.m.wd]; exact h.m
theorem rs_iff {T : List (List Int)} {R : List Int} {m : Nat} (hl : T.length = R.length) : rsums T m = R ↔ ∀ i, i < R.length → S m (g2 T i) = g1 R i := by
  rw [eq_lists (by rw [rsums_len, hl]), rsums_len, hl]
  refine ⟨fun h i hi => ?_, fun h i hi => ?_⟩
  · have := h i hi; rwa [rsums_mk, mk_g1 (by omega)] at this
  · rw [rsums_mk, mk_g1 (by omega)]; exact h i hi
theorem cs_iff {T : List (List Int)} {C : List Int} : csums T C.length = C ↔ ∀ k, k < C.length → (S T.length fun i => g2 T i k) = g1 C k := by
  rw [eq_lists (by rw [csums_len]), csums_len]
  refine ⟨fun h i hi => ?_, fun h i hi => ?_⟩
  · have := h i hi; rwa [csums_mk, mk_g1 (by omega)] at this
  · rw [csums_mk, mk_g1 (by omega)]; exact h i hi
theorem iff_no {P : Prop} (h : ¬ P) : (false = true ↔ P) := ⟨(fun q => by cases q), fun q => absurd q h⟩
theorem rowB {R C : List Int} {B : List (List Int)} (h : ValidP R C B) {k : Nat} (hk : k < C.length) {i : Nat} : ∀ r, B[i]? = some r → k < r.length := fun r hr => by have := h.row r (mem_at hr); omega
set_option maxHeartbeats 1600000 in
theorem tabC (r c b t : Hdr) (R C : List Int) (B T : List (List Int)) (w : World) (H : Grid w r c b R C B) (HT : TabI .i64 w t T) :
    call Try.prog 13 [grv r c b, .slice t.1 t.2.1 t.2.2] (.one (.one .bool)) w (fun (x : Bool) w' => (x = true ↔ TabP R C B T) ∧ bel w w') := by
  refine call_of (S13_calls r.1 r.2.1 r.2.2 c.1 c.2.1 c.2.2 b.1 b.2.1 b.2.2 t.1 t.2.1 t.2.2 w _ ?_)
  unfold S13
  have hr := H.r.int
  have hc := H.c.int
  have ht := HT.len
  have no : ∀ {w' : World}, bel w w' → ¬ TabP R C B T → ∃ x : Bool, Value.bool false = (RS.one (.one .bool)).val x ∧ (x = true ↔ TabP R C B T) ∧ bel w w' := fun hb q => ⟨false, rfl, iff_no q, hb⟩
  refine wr_box fun x1 w2 X h _ _ => ?_
  replace X : Box w2 x1 (grc r c b) := X
  replace H := H.up h; replace HT := HT.up h
  refine rd_boxN X (by kernel_rfl) rfl ?_
  refine call_mono (validC r c b R C B w2 H) ?_
  rintro (x4 : Int) w5 ⟨rfl, h'⟩
  replace h := h.trans h'; replace X := X.up h'; replace H := H.up h'; replace HT := HT.up h'; clear h'
  refine br_ne (fun e => no h fun q => e (validG_iff.2 q.v)) (fun e4 => ?_)
  have V := validG_iff.1 e4
  refine rd_boxN X (by kernel_rfl) rfl ?_
  refine call_mono (formedF r c b t R C B T w5 H HT) ?_
  rintro (x7 : Bool) w8 ⟨hx7, h'⟩
  replace h := h.trans h'; replace X := X.up h'; replace H := H.up h'; replace HT := HT.up h'; clear h'
  refine br_not (fun e => no h fun q => ?_) (fun e7 => ?_)
  · have := hx7.2 ⟨q.n, q.m.row⟩; rw [e] at this; cases this
  obtain ⟨f1, f2⟩ := hx7.1 e7
  have hwd : wd T = C.length := by
    have h0 : T[0]? = some (T[0]'(by have := V.r0; omega)) := List.getElem?_eq_getElem (by have := V.r0; omega)
    rw [wd_at h0]; exact f2 _ (mem_at h0)
  refine call_mono (margC t T w8 HT) ?_
  rintro (x9 : MT) w10 ⟨hx9, h'⟩
  replace h := h.trans h'; replace X := X.up h'; replace H := H.up h'; replace HT := HT.up h'; clear h'
  refine br_not (fun e => no h fun q => (hx9.2 e).1 q.marg) (fun e9 => ?_)
  obtain ⟨M, SR, SC⟩ := hx9.1 e9
  rw [hwd] at M SR SC
  refine rd_box0 (by kernel_rfl) X rfl rfl ?_
  refine call_mono (equalF x9.1 r _ R w10 SR H.r) ?_
  rintro (x12 : Bool) w13 ⟨hx12, h'⟩
  replace SC := SC.up h'
  replace h := h.trans h'; replace X := X.up h'; replace H := H.up h'; replace HT := HT.up h'; clear h'
  refine br_not (fun e => no h fun q => ?_) (fun e12 => ?_)
  · have := hx12.2 ((rs_iff f1).2 q.r); rw [e] at this; cases this
  refine rd_box (by kernel_rfl) X (i := 1) rfl rfl ?_
  refine call_mono (equalF x9.2.1 c _ C w13 SC H.c) ?_
  rintro (x15 : Bool) w16 ⟨hx15, h'⟩
  replace h := h.trans h'; replace X := X.up h'; replace H := H.up h'; replace HT := HT.up h'; clear h'
  refine br_not (fun e => no h fun q => ?_) (fun e15 => ?_)
  · have := hx15.2 (cs_iff.2 (by rw [f1]; exact q.c)); rw [e] at this; cases this
  have g1' := (rs_iff f1).1 (hx12.1 e12)
  have g2' := cs_iff.1 (hx15.1 e15)
  rw [f1] at g2'
  refine loop_up T.length (fun i w' => bel w16 w' ∧ ∀ i', i' < i → ∀ k, k < C.length → g2 T i' k ≤ g2 B i' k) ⟨bel.refl _, fun i hi => by omega⟩ fun i w19 hi ⟨hw, hp⟩ again hag _ => ?_
  have V64 := V.r64
  refine br_dec (fun e => ?_) (fun e => ?_)
  · dsimp only at e
    refine row_up HT hw rfl (by omega) fun x21 q hq S21 => ?_
    have h21 := S21.int
    have hql := f2 q (mem_at hq)
    have hbl := V.b
    have hcl := V.c64
    refine loop_up C.length (fun k w' => bel w16 w' ∧ ∀ k', k' < k → g2 T i k' ≤ g2 B i k') ⟨hw, fun k hk => by omega⟩ fun k w24 hk ⟨hw, hpk⟩ again2 hag2 _ => ?_
    refine br_dec (fun e => ?_) (fun e => ?_)
    · dsimp only at e
      refine int_mk (S21.up hw) rfl (by omega) ?_
      rw [← g2_row hq]
      refine rd_box (by kernel_rfl) (X.up hw) (i := 2) rfl rfl ?_
      refine cell_mk (H.b.up hw) rfl rfl (by omega) (rowB V (by omega)) ?_
      refine br_dec (fun e => no (h.trans hw) fun z => ?_) (fun e26 => ?_)
      · have := z.b i k (by omega) (by omega); omega
      refine z_i64 (by dsimp only; omega) ?_
      refine hag2 _ (by omega) ⟨hw, fun k' hk' => ?_⟩
      rcases Nat.lt_or_ge k' k with z | z
      · exact hpk k' z
      · have : k' = k := by omega
        subst this; omega
    · dsimp only at e
      refine z_i64 (by dsimp only; omega) ?_
      refine hag _ (by omega) ⟨hw, fun i' hi' k' hk' => ?_⟩
      rcases Nat.lt_or_ge i' i with z | z
      · exact hp i' z k' hk'
      · have : i' = i := by omega
        subst this; exact hpk k' (by omega)
  · dsimp only at e
    exact ⟨true, rfl, ⟨fun _ => ⟨V, M, f1, g1', g2', fun i' k' h1 h2 => hp i' (by omega) k' h2⟩, fun _ => rfl⟩, h.trans hw⟩
set_option maxHeartbeats 1600000 in
theorem tab21 (r c b t : Hdr) (R C : List Int) (B T : List (List Int)) (w : World) (H : Grid w r c b R C B) (HT : TabI .i64 w t T) :
    call Try.prog 14 [grv r c b, .slice t.1 t.2.1 t.2.2] (.one (.one .bool)) w (fun (x : Bool) w' => (x = true ↔ TabP R C B T) ∧ bel w w') := by
  refine call_of (S14_calls r.1 r.2.1 r.2.2 c.1 c.2.1 c.2.2 b.1 b.2.1 b.2.2 t.1 t.2.1 t.2.2 w _ ?_)
  unfold S14
  have hr := H.r.int
  have hc := H.c.int
  have ht := HT.len
  have no : ∀ {w' : World}, bel w w' → ¬ TabP R C B T → ∃ x : Bool, Value.bool false = (RS.one (.one .bool)).val x ∧ (x = true ↔ TabP R C B T) ∧ bel w w' := fun hb q => ⟨false, rfl, iff_no q, hb⟩
  refine wr_box fun x1 w2 X h _ _ => ?_
  replace X : Box w2 x1 (grc r c b) := X
  replace H := H.up h; replace HT := HT.up h
  refine call_mono (marg21 t T w2 HT) ?_
  rintro (x3 : MT) w4 ⟨hx3, h'⟩
  replace h := h.trans h'; replace X := X.up h'; replace H := H.up h'; replace HT := HT.up h'; clear h'
  refine rd_boxN X (by kernel_rfl) rfl ?_
  refine call_mono (valid21 r c b R C B w4 H) ?_
  rintro (x6 : Int) w7 ⟨rfl, h'⟩
  replace hx3 := hx3.up h'
  replace h := h.trans h'; replace X := X.up h'; replace H := H.up h'; replace HT := HT.up h'; clear h'
  refine br_ne (fun e => no h fun q => e (validG_iff.2 q.v)) (fun e4 => ?_)
  have V := validG_iff.1 e4
  refine br_not (fun e => no h fun q => (hx3.2 e).1 q.marg) (fun e3 => ?_)
  obtain ⟨M, SR, SC⟩ := hx3.1 e3
  have l1 := SR.int
  have l2 := SC.int
  rw [rsums_len] at l1
  rw [csums_len] at l2
  refine rd_box0 (by kernel_rfl) X rfl rfl ?_
  refine br_ne (fun e => no h fun q => ?_) (fun e8 => ?_)
  · have := q.n; dsimp only at e; omega
  dsimp only at e8
  have f1 : T.length = R.length := by omega
  refine rd_box (by kernel_rfl) X (i := 1) rfl rfl ?_
  refine br_ne (fun e => no h fun q => ?_) (fun e9 => ?_)
  · have := q.m.wd; dsimp only at e; omega
  dsimp only at e9
  have hwd : wd T = C.length := by omega
  rw [hwd] at M SR SC
  have V64 := V.r64
  have hcl := V.c64
  have hbl := V.b
  refine loop_up T.length (fun i w' => bel w7 w' ∧ ∀ i', i' < i → S C.length (g2 T i') = g1 R i' ∧ ∀ k, k < C.length → (S T.length fun j => g2 T j k) = g1 C k ∧ g2 T i' k ≤ g2 B i' k) ⟨bel.refl _, fun i hi => by omega⟩ fun i w12 hi ⟨hw, hp⟩ again hag _ => ?_
  refine br_dec (fun e => ?_) (fun e => ?_)
  · dsimp only at e
    refine drw_mk fun w13 h13 _ => ?_
    have hw' := hw.trans h13
    refine int_mk (SR.up hw') rfl (by rw [rsums_len]; omega) ?_
    rw [rsums_mk, mk_g1 (by omega)]
    refine rd_box0 (by kernel_rfl) (X.up hw') rfl rfl ?_
    refine int_mk (H.r.up hw') rfl (by omega) ?_
    refine br_ne (fun e => no (h.trans hw') fun z => e (z.r i (by omega))) (fun e15 => ?_)
    refine loop_up C.length (fun k w' => bel w7 w' ∧ ∀ k', k' < k → (S T.length fun j => g2 T j k') = g1 C k' ∧ g2 T i k' ≤ g2 B i k') ⟨hw', fun k hk => by omega⟩ fun k w21 hk ⟨hw, hpk⟩ again2 hag2 _ => ?_
    refine br_dec (fun e => ?_) (fun e => ?_)
    · dsimp only at e
      refine drw_mk fun w22 h22 _ => ?_
      have hw' := hw.trans h22
      refine int_mk (SC.up hw') rfl (by rw [csums_len]; omega) ?_
      rw [csums_mk, mk_g1 (by omega)]
      refine rd_box (by kernel_rfl) (X.up hw') (i := 1) rfl rfl ?_
      refine int_mk (H.c.up hw') rfl (by omega) ?_
      refine br_ne (fun e => no (h.trans hw') fun z => e (by rw [f1]; exact z.c k (by omega))) (fun e24 => ?_)
      refine cell_mk (HT.up hw') rfl rfl (by omega) (fun q hq => by have := M.row q (mem_at hq); omega) ?_
      refine rd_box (by kernel_rfl) (X.up hw') (i := 2) rfl rfl ?_
      refine cell_mk (H.b.up hw') rfl rfl (by omega) (rowB V (by omega)) ?_
      refine br_dec (fun e => no (h.trans hw') fun z => ?_) (fun e26 => ?_)
      · have := z.b i k (by omega) (by omega); omega
      refine z_i64 (by dsimp only; omega) ?_
      refine hag2 _ (by omega) ⟨hw', fun k' hk' => ?_⟩
      rcases Nat.lt_or_ge k' k with z | z
      · exact hpk k' z
      · have : k' = k := by omega
        subst this; exact ⟨e24, by omega⟩
    · dsimp only at e
      refine z_i64 (by dsimp only; omega) ?_
      refine hag _ (by omega) ⟨hw, fun i' hi' => ?_⟩
      rcases Nat.lt_or_ge i' i with z | z
      · exact hp i' z
      · have : i' = i := by omega
        subst this; exact ⟨e15, fun k' hk' => hpk k' (by omega)⟩
  · dsimp only at e
    have r0 := V.r0
    exact ⟨true, rfl, ⟨fun _ => ⟨V, M, f1, fun i' h1 => (hp i' (by omega)).1, fun k' h2 => by rw [← f1]; exact ((hp 0 (by omega)).2 k' h2).1, fun i' k' h1 h2 => ((hp i' (by omega)).2 k' h2).2⟩, fun _ => rfl⟩, h.trans hw⟩
end Go.Proofs.Ytphgmfjinihgaaa

/- CheckCut, of both. -/

namespace Go.Proofs.Ytphgmfjinihgaaa
open Go.RowKit Go.Q Go.V

abbrev cutv (cr cc : Hdr) : Value := .agg #[.slice cr.1 cr.2.1 cr.2.2, .slice cc.1 cc.2.1 cc.2.2]
abbrev cutc (cr cc : Hdr) : List Value := [.slice cr.1 cr.2.1 cr.2.2, .slice cc.1 cc.2.1 cc.2.2]
section
variable (R C : List Int) (B : List (List Int)) (cr cc : List Bool)
def FC (k : Nat) : Int := if gb cc k = true then g1 C k else 0
def FR (i : Nat) : Int := if gb cr i = true then g1 R i else 0
def FB (i k : Nat) : Int := if gb cc k = true then 0 else g2 B i k
def FN (i : Nat) : Int := if gb cr i = true then S C.length (FB B cc i) else 0
end
section
variable {R C : List Int} {B : List (List Int)} {cr cc : List Bool}
theorem FC_b (V : ValidP R C B) (k : Nat) : 0 ≤ FC C cc k ∧ FC C cc k ≤ 1000000 := by
  unfold FC; split
  · exact out_g1 V.C k
  · omega
theorem FR_b (V : ValidP R C B) (k : Nat) : 0 ≤ FR R cr k ∧ FR R cr k ≤ 1000000 := by
  unfold FR; split
  · exact out_g1 V.R k
  · omega
theorem FB_b (V : ValidP R C B) (i k : Nat) : 0 ≤ FB B cc i k ∧ FB B cc i k ≤ 1000000 := by
  unfold FB; split
  · omega
  · exact out_g2 V.B i k
theorem FN_b (V : ValidP R C B) (i : Nat) : 0 ≤ FN C B cr cc i ∧ FN C B cr cc i ≤ 64000000 := by
  unfold FN; split
  · have := S_fine' (f := FB B cc i) (n := C.length) fun k _ => FB_b V i k
    have := V.c64
    omega
  · omega
theorem S_b {f : Nat → Int} {n : Nat} {b : Int} (h : ∀ i, 0 ≤ f i ∧ f i ≤ b) : 0 ≤ S n f ∧ S n f ≤ (n : Int) * b := ⟨S_nonneg fun i _ => (h i).1, S_bound fun i _ => (h i).2⟩
theorem cut_iff (V : ValidP R C B) (hs : S R.length (g1 R) = S C.length (g1 C)) (hr : cr.length = R.length) (hc : cc.length = C.length) : CutP R C B cr cc ↔ S C.length (FC C cc) + S R.length (FN C B cr cc) < S R.length (FR R cr) :=
  ⟨fun h => h.out, fun h => ⟨V, hs, hr, hc, h⟩⟩
end
set_option maxHeartbeats 3200000 in
theorem cutC (r c b hr hc : Hdr) (R C : List Int) (B : List (List Int)) (cr cc : List Bool) (w : World) (H : Grid w r c b R C B) (H1 : SlB w hr cr) (H2 : SlB w hc cc) :
    call Try.prog 15 [grv r c b, cutv hr hc] (.one (.one .bool)) w (fun (x : Bool) w' => (x = true ↔ CutP R C B cr cc) ∧ bel w w') := by
  refine call_of (S15_calls r.1 r.2.1 r.2.2 c.1 c.2.1 c.2.2 b.1 b.2.1 b.2.2 hr.1 hr.2.1 hr.2.2 hc.1 hc.2.1 hc.2.2 w _ ?_)
  unfold S15
  have lr := H.r.int
  have lc := H.c.int
  have l1 := H1.bool
  have l2 := H2.bool
  have no : ∀ {w' : World}, bel w w' → ¬ CutP R C B cr cc → ∃ x : Bool, Value.bool false = (RS.one (.one .bool)).val x ∧ (x = true ↔ CutP R C B cr cc) ∧ bel w w' := fun hb q => ⟨false, rfl, iff_no q, hb⟩
  refine wr_box fun x1 w2 X h2 _ _ => ?_
  refine wr_box fun x3 w4 Y h4 _ _ => ?_
  refine drw_mk fun w5 h5 _ => ?_
  have h := (h2.trans h4).trans h5
  replace X : Box w5 x1 (grc r c b) := (X.up h4).up h5
  replace Y : Box w5 x3 (cutc hr hc) := Box.up (show Box w4 x3 (cutc hr hc) from Y) h5
  replace H := H.up h; replace H1 := H1.up h; replace H2 := H2.up h
  refine flEx_mk (fun i _ v _ => (i = 1 → v = .int .i64 (validG R C B)) ∧ (i = 6 → v = .int .i64 (S R.length (g1 R))) ∧ (i = 9 → v = .int .i64 (S C.length (g1 C)))) (fun _ _ _ _ _ h _ => h) ?_
  refine rd_boxN X (by kernel_rfl) rfl ?_
  refine flc_mk (fun w8 hb _ => call_mono (validC r c b R C B w8 (H.up hb)) fun y w' ⟨hy, hb'⟩ => ⟨hb', fun _ => by rw [hy], fun e => by omega, fun e => by omega⟩) (fun (x12 : Int) => ?_)
  have vi : ∀ {n m : Int}, Value.int .i64 n = .int .i64 m → n = m := fun e => by injection e
  refine br_ne (fun e => flend_mk fun w13 hb hf => no (h.trans hb) fun q => ?_) (fun e12 => ?_)
  · have := vi (hf.1.1 rfl); rw [validG_iff.2 q.v] at this; exact e this
  refine rd_box0 (by kernel_rfl) X rfl rfl ?_
  refine flc_mk (fun w16 hb hf => ?_) (fun (x20 : Int) => ?_)
  · have V := validG_iff.1 ((vi (hf.1.1 rfl)).symm.trans e12)
    exact call_mono (sumF r R w16 (H.r.up hb) V.R (by have := V.r64; omega)) fun y w' ⟨hy, hb'⟩ => ⟨hb', fun e => by omega, fun _ => by rw [hy], fun e => by omega⟩
  refine rd_box (by kernel_rfl) X (i := 1) rfl rfl ?_
  refine flc_mk (fun w16 hb hf => ?_) (fun (x26 : Int) => ?_)
  · have V := validG_iff.1 ((vi (hf.2.1.1 rfl)).symm.trans e12)
    exact call_mono (sumF c C w16 (H.c.up hb) V.C (by have := V.c64; omega)) fun y w' ⟨hy, hb'⟩ => ⟨hb', fun e => by omega, fun e => by omega, fun _ => by rw [hy]⟩
  refine br_ne (fun e => flend_mk fun w27 hb hf => no (h.trans hb) fun q => ?_) (fun e26 => ?_)
  · have a := vi (hf.1.2.2 rfl)
    have b := vi (hf.2.1.2.1 rfl)
    rw [← q.s] at a
    exact e (b.trans a.symm)
  refine rd_box0 (by kernel_rfl) Y rfl rfl ?_
  refine rd_box0 (by kernel_rfl) X rfl rfl ?_
  refine br_ne (fun e => flend_mk fun w31 hb hf => no (h.trans hb) fun q => ?_) (fun e29 => ?_)
  · have := q.r; dsimp only at e; omega
  refine rd_box (by kernel_rfl) Y (i := 1) rfl rfl ?_
  refine rd_box (by kernel_rfl) X (i := 1) rfl rfl ?_
  refine flend_mk fun w35 h35 hf => ?_
  have V := validG_iff.1 ((vi (hf.2.2.1.1 rfl)).symm.trans e12)
  have hs : S R.length (g1 R) = S C.length (g1 C) := ((vi (hf.2.1.2.1 rfl)).symm.trans e26).trans (vi (hf.1.2.2 rfl))
  replace X := X.up h35; replace Y := Y.up h35; replace H := H.up h35; replace H1 := H1.up h35; replace H2 := H2.up h35
  replace h := h.trans h35
  refine br_ne (fun e => no h fun q => ?_) (fun e33 => ?_)
  · have := q.c; dsimp only at e; omega
  dsimp only at e29 e33
  have k1 : cr.length = R.length := by omega
  have k2 : cc.length = C.length := by omega
  have r64 := V.r64
  have c64 := V.c64
  have hbl := V.b
  refine rd_box (by kernel_rfl) Y (i := 1) rfl rfl ?_
  refine loop_upA C.length (fun i a w' => a = S i (FC C cc) ∧ bel w35 w') ⟨rfl, bel.refl _⟩ fun i a w40 hi ⟨ha, hw⟩ again hag _ => ?_
  have bC := S_b (n := i) (FC_b V (cc := cc))
  refine br_dec (fun e => ?_) (fun e => ?_)
  · dsimp only at e
    have bk := FC_b V (cc := cc) i
    refine join_mk (fun s w' => s.1 = S (i + 1) (FC C cc) ∧ w40 = w') (fun K hK => ?_) (fun s w43 hJ _ => ?_)
    · refine bool_mk (H2.up hw) rfl (by omega) ?_
      refine br_mk (fun eb => ?_) (fun eb => hK _ _ ⟨?_, rfl⟩)
      · refine rd_box (by kernel_rfl) (X.up hw) (i := 1) rfl rfl ?_
        refine int_mk (H.c.up hw) rfl (by omega) ?_
        have e1 : FC C cc i = g1 C i := by unfold FC; rw [if_pos eb]
        refine z_i64 (by dsimp only; omega) ?_
        exact hK _ _ ⟨by dsimp only; rw [S_step, e1, ha], rfl⟩
      · have e1 : FC C cc i = 0 := by unfold FC; rw [if_neg (by rw [eb]; simp)]
        dsimp only; rw [S_step, e1, ha, Int.add_zero]
    · obtain ⟨e1, rfl⟩ := hJ
      refine z_i64 (by dsimp only; omega) ?_
      exact hag _ _ (by omega) ⟨e1, hw⟩
  dsimp only at e
  have hin : i = C.length := by omega
  subst hin
  clear hag again
  refine rd_box0 (by kernel_rfl) (Y.up hw) rfl rfl ?_
  refine loop_gh (G := Nat) (fun i s w' => s = (S i (FR R cr), S C.length (FC C cc) + S i (FN C B cr cc), (i : Int), ()) ∧ i ≤ R.length ∧ bel w35 w') (fun i => R.length - i) 0 ⟨by rw [ha]; simp [S], Nat.zero_le _, hw⟩ ?_
  rintro i s w54 ⟨rfl, hi, hw⟩ again hag _
  have bR := S_b (n := i) (FR_b V (cr := cr))
  have bN := S_b (n := i) (FN_b V (cr := cr) (cc := cc))
  refine br_dec (fun e => ?_) (fun e => ?_)
  · dsimp only at e
    have bk := FR_b V (cr := cr) i
    have bn := FN_b V (cr := cr) (cc := cc) i
    refine join_mk (fun s w' => s.1 = S (i + 1) (FR R cr) ∧ s.2.1 = S C.length (FC C cc) + S (i + 1) (FN C B cr cc) ∧ bel w35 w') (fun K hK => ?_) (fun s w57 hJ _ => ?_)
    · refine bool_mk (H1.up hw) rfl (by omega) ?_
      refine br_not (fun eb => ?_) (fun eb => ?_)
      · have e1 : FR R cr i = 0 := by unfold FR; rw [if_neg (by rw [eb]; simp)]
        have e2 : FN C B cr cc i = 0 := by unfold FN; rw [if_neg (by rw [eb]; simp)]
        exact hK _ _ ⟨by dsimp only; rw [S_step, e1, Int.add_zero], by dsimp only; rw [S_step, e2, Int.add_zero], hw⟩
      · have e1 : FR R cr i = g1 R i := by unfold FR; rw [if_pos eb]
        have e2 : FN C B cr cc i = S C.length (FB B cc i) := by unfold FN; rw [if_pos eb]
        refine rd_box0 (by kernel_rfl) (X.up hw) rfl rfl ?_
        refine int_mk (H.r.up hw) rfl (by omega) ?_
        refine z_i64 (by dsimp only; omega) ?_
        refine rd_box (by kernel_rfl) (Y.up hw) (i := 1) rfl rfl ?_
        refine loop_upA C.length (fun k a w' => a = S C.length (FC C cc) + S i (FN C B cr cc) + S k (FB B cc i) ∧ bel w35 w') ⟨by dsimp only [S]; omega, hw⟩ fun k a w68 hk ⟨ha, hw⟩ again2 hag2 _ => ?_
        have bB := S_b (n := k) (FB_b V (cc := cc) i)
        refine br_dec (fun e => ?_) (fun e => ?_)
        · dsimp only at e
          have bb := FB_b V (cc := cc) i k
          refine join_mk (fun s w' => s.1 = S C.length (FC C cc) + S i (FN C B cr cc) + S (k + 1) (FB B cc i) ∧ w68 = w') (fun K2 hK2 => ?_) (fun s w71 hJ _ => ?_)
          · refine bool_mk (H2.up hw) rfl (by omega) ?_
            refine br_not (fun ec => ?_) (fun ec => hK2 _ _ ⟨?_, rfl⟩)
            · refine rd_box (by kernel_rfl) (X.up hw) (i := 2) rfl rfl ?_
              refine cell_mk (H.b.up hw) rfl rfl (by omega) (rowB V (by omega)) ?_
              have e3 : FB B cc i k = g2 B i k := by unfold FB; rw [if_neg (by rw [ec]; simp)]
              refine z_i64 (by dsimp only; omega) ?_
              exact hK2 _ _ ⟨by dsimp only; rw [S_step, e3]; omega, rfl⟩
            · have e3 : FB B cc i k = 0 := by unfold FB; rw [if_pos ec]
              dsimp only; rw [S_step, e3]; omega
          · obtain ⟨e4, rfl⟩ := hJ
            refine z_i64 (by dsimp only; omega) ?_
            exact hag2 _ _ (by omega) ⟨e4, hw⟩
        · dsimp only at e
          have hkn : k = C.length := by omega
          subst hkn
          exact hK _ _ ⟨by dsimp only; rw [S_step, e1], by dsimp only; rw [S_step, e2]; omega, hw⟩
    · obtain ⟨a1, a2, a3⟩ := hJ
      obtain ⟨s1, s2, _⟩ := s
      dsimp only at a1 a2
      refine z_i64 (by dsimp only; omega) ?_
      exact hag (i + 1) _ _ ⟨by rw [a1, a2]; rfl, by omega, a3⟩ (by omega)
  · dsimp only at e
    have hin : i = R.length := by omega
    subst hin
    refine ⟨_, rfl, ?_, h.trans hw⟩
    rw [cut_iff V hs k1 k2]
    exact ⟨fun q => of_decide_eq_true q, fun q => decide_eq_true q⟩
end Go.Proofs.Ytphgmfjinihgaaa

/- The reference's CheckCut; the walk of CorrelationChecks. -/

namespace Go.Proofs.Ytphgmfjinihgaaa
open Go.RowKit Go.Q Go.V

abbrev rII : RS := .many [.one (.int .i64), .one (.int .i64)]
theorem sums21 (r c b : Hdr) (R C : List Int) (B : List (List Int)) (w : World) (H : Grid w r c b R C B) (V : ValidP R C B) :
    call Try.prog 20 [grv r c b] rII w (fun (x : Int × Int × Unit) w' => (x.1 = S R.length (g1 R) ∧ x.2.1 = S C.length (g1 C)) ∧ bel w w') := by
  refine call_of (S20_calls r.1 r.2.1 r.2.2 c.1 c.2.1 c.2.2 b.1 b.2.1 b.2.2 w _ ?_)
  unfold S20
  have lr := H.r.int
  have lc := H.c.int
  have r64 := V.r64
  have c64 := V.c64
  refine wr_box fun x1 w2 X h _ _ => ?_
  replace X : Box w2 x1 (grc r c b) := X
  replace H := H.up h
  refine loop_upA R.length (fun i a w' => a = S i (g1 R) ∧ bel w2 w') ⟨rfl, bel.refl _⟩ fun i a w5 hi ⟨ha, hw⟩ again hag _ => ?_
  refine rd_box0 (by kernel_rfl) (X.up hw) rfl rfl ?_
  refine br_dec (fun e => ?_) (fun e => ?_)
  · dsimp only at e
    refine rd_box0 (by kernel_rfl) (X.up hw) rfl rfl ?_
    refine int_mk (H.r.up hw) rfl (by omega) ?_
    have b1 := S_fine (n := i) (out_g1 V.R)
    have b2 := out_g1 V.R i
    refine z_i64 (by dsimp only; omega) ?_
    refine z_i64 (by dsimp only; omega) ?_
    exact hag _ _ (by omega) ⟨by rw [S_step, ha], hw⟩
  dsimp only at e
  have hin : i = R.length := by omega
  subst hin
  clear hag again
  refine loop_upA C.length (fun i a w' => a = S i (g1 C) ∧ bel w2 w') ⟨rfl, hw⟩ fun i a2 w14 hi ⟨ha2, hw⟩ again hag _ => ?_
  refine rd_box (by kernel_rfl) (X.up hw) (i := 1) rfl rfl ?_
  refine br_dec (fun e => ?_) (fun e => ?_)
  · dsimp only at e
    refine rd_box (by kernel_rfl) (X.up hw) (i := 1) rfl rfl ?_
    refine int_mk (H.c.up hw) rfl (by omega) ?_
    have b1 := S_fine (n := i) (out_g1 V.C)
    have b2 := out_g1 V.C i
    refine z_i64 (by dsimp only; omega) ?_
    refine z_i64 (by dsimp only; omega) ?_
    exact hag _ _ (by omega) ⟨by rw [S_step, ha2], hw⟩
  dsimp only at e
  have hin : i = C.length := by omega
  subst hin
  exact ⟨(a, a2, ()), rfl, ⟨ha, ha2⟩, h.trans hw⟩
set_option maxHeartbeats 3200000 in
theorem cut21 (r c b hr hc : Hdr) (R C : List Int) (B : List (List Int)) (cr cc : List Bool) (w : World) (H : Grid w r c b R C B) (H1 : SlB w hr cr) (H2 : SlB w hc cc) :
    call Try.prog 16 [grv r c b, cutv hr hc] (.one (.one .bool)) w (fun (x : Bool) w' => (x = true ↔ CutP R C B cr cc) ∧ bel w w') := by
  refine call_of (S16_calls r.1 r.2.1 r.2.2 c.1 c.2.1 c.2.2 b.1 b.2.1 b.2.2 hr.1 hr.2.1 hr.2.2 hc.1 hc.2.1 hc.2.2 w _ ?_)
  unfold S16
  have lr := H.r.int
  have lc := H.c.int
  have l1 := H1.bool
  have l2 := H2.bool
  have no : ∀ {w' : World}, bel w w' → ¬ CutP R C B cr cc → ∃ x : Bool, Value.bool false = (RS.one (.one .bool)).val x ∧ (x = true ↔ CutP R C B cr cc) ∧ bel w w' := fun hb q => ⟨false, rfl, iff_no q, hb⟩
  refine wr_box fun x1 w2 X h2 _ _ => ?_
  refine wr_box fun x3 w4 Y h4 _ _ => ?_
  have h := h2.trans h4
  replace X : Box w4 x1 (grc r c b) := X.up h4
  replace Y : Box w4 x3 (cutc hr hc) := Y
  replace H := H.up h; replace H1 := H1.up h; replace H2 := H2.up h
  refine rd_boxN X (by kernel_rfl) rfl ?_
  refine call_mono (valid21 r c b R C B w4 H) ?_
  rintro (x6 : Int) w7 ⟨rfl, h'⟩
  replace H1 := H1.up h'; replace H2 := H2.up h'
  replace h := h.trans h'; replace X := X.up h'; replace Y := Y.up h'; replace H := H.up h'; clear h'
  refine br_ne (fun e => no h fun q => e (validG_iff.2 q.v)) (fun e6 => ?_)
  have V := validG_iff.1 e6
  refine rd_box0 (by kernel_rfl) Y rfl rfl ?_
  refine rd_box0 (by kernel_rfl) X rfl rfl ?_
  refine br_ne (fun e => no h fun q => ?_) (fun e8 => ?_)
  · have := q.r; dsimp only at e; omega
  refine rd_box (by kernel_rfl) Y (i := 1) rfl rfl ?_
  refine rd_box (by kernel_rfl) X (i := 1) rfl rfl ?_
  refine br_ne (fun e => no h fun q => ?_) (fun e10 => ?_)
  · have := q.c; dsimp only at e; omega
  dsimp only at e8 e10
  refine rd_boxN X (by kernel_rfl) rfl ?_
  refine call_mono (sums21 r c b R C B w7 H V) ?_
  rintro ⟨s1, s2, _⟩ w14 ⟨⟨e1, e2⟩, h'⟩
  dsimp only at e1 e2
  subst e1 e2
  replace H1 := H1.up h'; replace H2 := H2.up h'
  replace h := h.trans h'; replace X := X.up h'; replace Y := Y.up h'; replace H := H.up h'; clear h'
  refine br_ne (fun e => no h fun q => e q.s) (fun hs => ?_)
  dsimp only at hs
  have k1 : cr.length = R.length := by omega
  have k2 : cc.length = C.length := by omega
  have r64 := V.r64
  have c64 := V.c64
  have hbl := V.b
  refine loop_gh (G := Nat) (fun i s w' => s = (S i (FR R cr), S i (FN C B cr cc), (i : Int), ()) ∧ i ≤ R.length ∧ bel w14 w') (fun i => R.length - i) 0 ⟨rfl, Nat.zero_le _, bel.refl _⟩ ?_
  rintro i s w17 ⟨rfl, hi, hw⟩ again hag _
  have bR := S_b (n := i) (FR_b V (cr := cr))
  have bN := S_b (n := i) (FN_b V (cr := cr) (cc := cc))
  refine rd_box0 (by kernel_rfl) (X.up hw) rfl rfl ?_
  refine br_dec (fun e => ?_) (fun e => ?_)
  · dsimp only at e
    have bk := FR_b V (cr := cr) i
    have bn := FN_b V (cr := cr) (cc := cc) i
    refine join_mk (fun s w' => s.1 = S (i + 1) (FR R cr) ∧ s.2.1 = S (i + 1) (FN C B cr cc) ∧ bel w14 w') (fun K hK => ?_) (fun s w21 hJ _ => ?_)
    · refine join_mk (fun s w' => s.1 = S (i + 1) (FR R cr) ∧ w17 = w') (fun K3 hK3 => ?_) (fun s w25 hJ _ => ?_)
      · refine rd_box0 (by kernel_rfl) (Y.up hw) rfl rfl ?_
        refine bool_mk (H1.up hw) rfl (by omega) ?_
        refine br_mk (fun eb => ?_) (fun eb => hK3 _ _ ⟨?_, rfl⟩)
        · have e1 : FR R cr i = g1 R i := by unfold FR; rw [if_pos eb]
          refine rd_box0 (by kernel_rfl) (X.up hw) rfl rfl ?_
          refine int_mk (H.r.up hw) rfl (by omega) ?_
          refine z_i64 (by dsimp only; omega) ?_
          exact hK3 _ _ ⟨by dsimp only; rw [S_step, e1], rfl⟩
        · have e1 : FR R cr i = 0 := by unfold FR; rw [if_neg (by rw [eb]; simp)]
          dsimp only; rw [S_step, e1, Int.add_zero]
      · obtain ⟨a1, rfl⟩ := hJ
        refine loop_upA C.length (fun k a w' => a = S i (FN C B cr cc) + (if gb cr i = true then S k (FB B cc i) else 0) ∧ bel w14 w') ⟨by dsimp only [S]; split <;> omega, hw⟩ fun k a w28 hk ⟨ha, hw⟩ again2 hag2 _ => ?_
        have bB := S_b (n := k) (FB_b V (cc := cc) i)
        refine rd_box (by kernel_rfl) (X.up hw) (i := 1) rfl rfl ?_
        refine br_dec (fun e => ?_) (fun e => ?_)
        · dsimp only at e
          have bb := FB_b V (cc := cc) i k
          refine join_mk (fun s w' => s.1 = S i (FN C B cr cc) + (if gb cr i = true then S (k + 1) (FB B cc i) else 0) ∧ w28 = w') (fun K2 hK2 => ?_) (fun s w32 hJ _ => ?_)
          · refine rd_box0 (by kernel_rfl) (Y.up hw) rfl rfl ?_
            refine bool_mk (H1.up hw) rfl (by omega) ?_
            refine br_mk (fun eb => ?_) (fun eb => hK2 _ _ ⟨?_, rfl⟩)
            · rw [if_pos eb] at ha
              refine rd_box (by kernel_rfl) (Y.up hw) (i := 1) rfl rfl ?_
              refine bool_mk (H2.up hw) rfl (by omega) ?_
              refine br_not (fun ec => ?_) (fun ec => hK2 _ _ ⟨?_, rfl⟩)
              · refine rd_box (by kernel_rfl) (X.up hw) (i := 2) rfl rfl ?_
                refine cell_mk (H.b.up hw) rfl rfl (by omega) (rowB V (by omega)) ?_
                have e3 : FB B cc i k = g2 B i k := by unfold FB; rw [if_neg (by rw [ec]; simp)]
                refine z_i64 (by dsimp only; omega) ?_
                exact hK2 _ _ ⟨by dsimp only; rw [if_pos eb, S_step, e3]; omega, rfl⟩
              · have e3 : FB B cc i k = 0 := by unfold FB; rw [if_pos ec]
                dsimp only; rw [if_pos eb, S_step, e3]; omega
            · rw [if_neg (by rw [eb]; simp)] at ha
              dsimp only; rw [if_neg (by rw [eb]; simp)]; omega
          · obtain ⟨e4, rfl⟩ := hJ
            refine z_i64 (by dsimp only; omega) ?_
            exact hag2 _ _ (by omega) ⟨e4, hw⟩
        · dsimp only at e
          have hkn : k = C.length := by omega
          subst hkn
          exact hK _ _ ⟨a1, by dsimp only; rw [S_step]; exact ha, hw⟩
    · obtain ⟨a1, a2, a3⟩ := hJ
      obtain ⟨s1, s2, _⟩ := s
      dsimp only at a1 a2
      refine z_i64 (by dsimp only; omega) ?_
      exact hag (i + 1) _ _ ⟨by rw [a1, a2]; rfl, by omega, a3⟩ (by omega)
  dsimp only at e
  have hin : i = R.length := by omega
  subst hin
  clear hag again
  refine loop_upA C.length (fun i a w' => a = S R.length (FN C B cr cc) + S i (FC C cc) ∧ bel w14 w') ⟨by dsimp only [S]; omega, hw⟩ fun i a w55 hi ⟨ha, hw⟩ again hag _ => ?_
  have bC := S_b (n := i) (FC_b V (cc := cc))
  refine rd_box (by kernel_rfl) (X.up hw) (i := 1) rfl rfl ?_
  refine br_dec (fun e => ?_) (fun e => ?_)
  · dsimp only at e
    have bk := FC_b V (cc := cc) i
    refine join_mk (fun s w' => s.1 = S R.length (FN C B cr cc) + S (i + 1) (FC C cc) ∧ w55 = w') (fun K hK => ?_) (fun s w43 hJ _ => ?_)
    · refine rd_box (by kernel_rfl) (Y.up hw) (i := 1) rfl rfl ?_
      refine bool_mk (H2.up hw) rfl (by omega) ?_
      refine br_mk (fun eb => ?_) (fun eb => hK _ _ ⟨?_, rfl⟩)
      · refine rd_box (by kernel_rfl) (X.up hw) (i := 1) rfl rfl ?_
        refine int_mk (H.c.up hw) rfl (by omega) ?_
        have e1 : FC C cc i = g1 C i := by unfold FC; rw [if_pos eb]
        refine z_i64 (by dsimp only; omega) ?_
        exact hK _ _ ⟨by dsimp only; rw [S_step, e1, ha]; omega, rfl⟩
      · have e1 : FC C cc i = 0 := by unfold FC; rw [if_neg (by rw [eb]; simp)]
        dsimp only; rw [S_step, e1, ha]; omega
    · obtain ⟨e1, rfl⟩ := hJ
      refine z_i64 (by dsimp only; omega) ?_
      exact hag _ _ (by omega) ⟨e1, hw⟩
  · dsimp only at e
    have hin : i = C.length := by omega
    subst hin
    refine ⟨_, rfl, ?_, h.trans hw⟩
    rw [cut_iff V hs k1 k2]
    dsimp only
    rw [ha]
    exact ⟨fun q => by have := of_decide_eq_true q; omega, fun q => decide_eq_true (by omega)⟩
theorem fewT (t : Hdr) (T : List (List Int)) (w : World) (H : TabI .i64 w t T) :
    call Try.prog 8 [.slice t.1 t.2.1 t.2.2] (.one (.one .bool)) w (fun (_ : Bool) w' => bel w w') := by
  refine call_of (S8_calls t.1 t.2.1 t.2.2 w _ ?_)
  unfold S8
  have hl := H.len
  refine br_dec (fun e => ⟨false, rfl, bel.refl _⟩) (fun e1 => ?_)
  refine loop_up T.length (fun i w' => w = w') rfl fun i w3 hi hw again hag _ => ?_
  subst hw
  refine br_dec (fun e => ?_) (fun e => ⟨true, rfl, bel.refl _⟩)
  · dsimp only at e
    refine row_mk H rfl (by omega) fun x r hr S => ?_
    refine br_dec (fun e => ⟨false, rfl, bel.refl _⟩) (fun e2 => ?_)
    refine z_i64 (by dsimp only; omega) ?_
    exact hag _ (by omega) rfl
theorem fewG (r c b : Hdr) (R C : List Int) (B : List (List Int)) (w : World) (H : Grid w r c b R C B) :
    call Try.prog 7 [grv r c b] (.one (.one .bool)) w (fun (_ : Bool) w' => bel w w') := by
  refine call_of (S7_calls r.1 r.2.1 r.2.2 c.1 c.2.1 c.2.2 b.1 b.2.1 b.2.2 w _ ?_)
  unfold S7
  refine wr_box fun x1 w2 X h _ _ => ?_
  replace X : Box w2 x1 (grc r c b) := X
  refine rd_box0 (by kernel_rfl) X rfl rfl ?_
  refine br_dec (fun _ => ?_) (fun _ => ⟨false, rfl, h⟩)
  refine rd_box (by kernel_rfl) X (i := 1) rfl rfl ?_
  refine br_dec (fun _ => ?_) (fun _ => ⟨false, rfl, h⟩)
  refine rd_box (by kernel_rfl) X (i := 2) rfl rfl ?_
  refine call_mono (fewT b B w2 (H.b.up h)) ?_
  rintro (x6 : Bool) w7 h7
  exact ⟨x6, rfl, h.trans h7⟩
theorem iff_eq {a b : Bool} {P : Prop} (h : a = true ↔ P) (h' : b = true ↔ P) : a = b := by
  cases a <;> cases b <;> first | rfl | exact absurd (h'.2 (h.1 rfl)) (by simp) | exact absurd (h.2 (h'.1 rfl)) (by simp)
set_option maxHeartbeats 3200000 in
theorem corChecks (r c b t hr hc : Hdr) (R C : List Int) (B T : List (List Int)) (cr cc : List Bool) (w : World) (H : Grid w r c b R C B) (HT : TabI .i64 w t T) (H1 : SlB w hr cr) (H2 : SlB w hc cc) :
    Calls Try.prog 3 #[grv r c b, .slice t.1 t.2.1 t.2.2, cutv hr hc] w (fun e w' => e = .returned (.bool true) ∧ Below w.heap.size w w') := by
  refine Calls.mono (S3_calls r.1 r.2.1 r.2.2 c.1 c.2.1 c.2.2 b.1 b.2.1 b.2.2 t.1 t.2.1 t.2.2 hr.1 hr.2.1 hr.2.2 hc.1 hc.2.1 hc.2.2 w (fun v w' => v = .bool true ∧ bel w w') ?_) (by rintro e w' ⟨v, rfl, rfl, hb⟩; exact ⟨rfl, hb⟩)
  unfold S3
  refine wr_box fun x1 w2 X h2 _ _ => ?_
  refine wr_box fun x3 w4 Y h4 _ _ => ?_
  have h := h2.trans h4
  replace X : Box w4 x1 (grc r c b) := X.up h4
  replace Y : Box w4 x3 (cutc hr hc) := Y
  replace H := H.up h; replace HT := HT.up h; replace H1 := H1.up h; replace H2 := H2.up h
  refine rd_boxN X (by kernel_rfl) rfl ?_
  refine call_mono (fewG r c b R C B w4 H) ?_
  rintro (x6 : Bool) w7 h'
  replace H1 := H1.up h'; replace H2 := H2.up h'
  replace h := h.trans h'; replace X := X.up h'; replace Y := Y.up h'; replace H := H.up h'; replace HT := HT.up h'; clear h'
  refine br_not (fun _ => ⟨rfl, h⟩) (fun _ => ?_)
  refine call_mono (fewT t T w7 HT) ?_
  rintro (x8 : Bool) w9 h'
  replace H1 := H1.up h'; replace H2 := H2.up h'
  replace h := h.trans h'; replace X := X.up h'; replace Y := Y.up h'; replace H := H.up h'; replace HT := HT.up h'; clear h'
  refine br_not (fun _ => ⟨rfl, h⟩) (fun _ => ?_)
  refine rd_box0 (by kernel_rfl) Y rfl rfl ?_
  refine br_dec (fun _ => ⟨rfl, h⟩) (fun _ => ?_)
  refine rd_box (by kernel_rfl) Y (i := 1) rfl rfl ?_
  refine br_dec (fun _ => ⟨rfl, h⟩) (fun _ => ?_)
  refine call_mono (margC t T w9 HT) ?_
  rintro (x12 : MT) w13 ⟨M1, h'⟩
  replace H1 := H1.up h'; replace H2 := H2.up h'
  replace h := h.trans h'; replace X := X.up h'; replace Y := Y.up h'; replace H := H.up h'; replace HT := HT.up h'; clear h'
  refine call_mono (marg21 t T w13 HT) ?_
  rintro (x14 : MT) w15 ⟨M2, h'⟩
  replace H1 := H1.up h'; replace H2 := H2.up h'; replace M1 := M1.up h'
  replace h := h.trans h'; replace X := X.up h'; replace Y := Y.up h'; replace H := H.up h'; replace HT := HT.up h'; clear h'
  refine drw_mk fun w16 h' _ => ?_
  replace H1 := H1.up h'; replace H2 := H2.up h'; replace M1 := M1.up h'; replace M2 := M2.up h'
  replace h := h.trans h'; replace X := X.up h'; replace Y := Y.up h'; replace H := H.up h'; replace HT := HT.up h'; clear h'
  refine flEx_mk (fun i _ v _ => (i = 1 ∨ i = 3 → v = .int .i64 (validG R C B)) ∧ (i = 8 ∨ i = 11 → ∃ d, v = .bool d ∧ (d = true ↔ TabP R C B T)) ∧ (i = 17 → ∃ d, v = .bool d ∧ (d = true ↔ CutP R C B cr cc))) (fun _ _ _ _ _ h _ => h) ?_
  have same : ∀ {P Q : Prop} {a c : Bool}, (∃ d, Value.bool a = .bool d ∧ (d = true ↔ P)) → (∃ d, Value.bool c = .bool d ∧ (d = true ↔ P)) → (a == c) = false → Q := by
    rintro P Q a c ⟨d, hd, hd2⟩ ⟨e, he, he2⟩ hne
    injection hd with hd; injection he with he
    subst hd he
    have := iff_eq hd2 he2
    subst this
    cases a <;> cases hne
  refine rd_boxN X (by kernel_rfl) rfl ?_
  refine flc_mk (fun w19 hb _ => call_mono (validC r c b R C B w19 (H.up hb)) fun y w' ⟨hy, hb'⟩ => ⟨hb', fun _ => by rw [hy], fun e => by omega, fun e => by omega⟩) (fun (x23 : Int) => ?_)
  refine rd_boxN X (by kernel_rfl) rfl ?_
  refine flc_mk (fun w19 hb _ => call_mono (valid21 r c b R C B w19 (H.up hb)) fun y w' ⟨hy, hb'⟩ => ⟨hb', fun _ => by rw [hy], fun e => by omega, fun e => by omega⟩) (fun (x29 : Int) => ?_)
  refine br_eq (fun _ => ?_) (fun e => flend_mk fun w61 hb hf => ?_)
  · refine rd_boxN X (by kernel_rfl) rfl ?_
    refine flc_mk (fun w19 hb _ => call_mono (tabC r c b t R C B T w19 (H.up hb) (HT.up hb)) fun y w' ⟨hy, hb'⟩ => ⟨hb', fun e => by omega, fun _ => ⟨y, rfl, hy⟩, fun e => by omega⟩) (fun x35 => ?_)
    refine rd_boxN X (by kernel_rfl) rfl ?_
    refine flc_mk (fun w19 hb _ => call_mono (tab21 r c b t R C B T w19 (H.up hb) (HT.up hb)) fun y w' ⟨hy, hb'⟩ => ⟨hb', fun e => by omega, fun _ => ⟨y, rfl, hy⟩, fun e => by omega⟩) (fun x41 => ?_)
    refine br_mk (fun _ => ?_) (fun e => flend_mk fun w59 hb hf => same (hf.2.1.2.1 (.inl rfl)) (hf.1.2.1 (.inr rfl)) e)
    refine rd_boxN X (by kernel_rfl) rfl ?_
    refine rd_boxN Y (by kernel_rfl) rfl ?_
    refine flc_mk (fun w19 hb _ => call_mono (cutC r c b hr hc R C B cr cc w19 (H.up hb) (H1.up hb) (H2.up hb)) fun y w' ⟨hy, hb'⟩ => ⟨hb', fun e => by omega, fun e => by omega, fun _ => ⟨y, rfl, hy⟩⟩) (fun x48 => ?_)
    refine rd_boxN X (by kernel_rfl) rfl ?_
    refine rd_boxN Y (by kernel_rfl) rfl ?_
    refine flend_mk fun w51 hb hf => ?_
    obtain ⟨d, hd, hd2⟩ := hf.1.2.2 rfl
    injection hd with hd
    subst hd
    refine call_mono (cut21 r c b hr hc R C B cr cc w51 (H.up hb) (H1.up hb) (H2.up hb)) ?_
    rintro (x53 : Bool) w54 ⟨hx, h54⟩
    have q := iff_eq hd2 hx
    subst q
    refine br_t (by simp) ?_
    have M1 := (M1.up hb).up h54
    have M2 := (M2.up hb).up h54
    have hfin := (h.trans hb).trans h54
    cases e1 : x12.2.2.1 with
    | true =>
      obtain ⟨m, A1, A2⟩ := M1.1 e1
      cases e2 : x14.2.2.1 with
      | true =>
        obtain ⟨_, B1, B2⟩ := M2.1 e2
        refine br_t rfl ?_
        refine call_mono (same16 x12.1 x14.1 _ _ w54 A1 B1) ?_
        rintro (x55 : Bool) w56 ⟨hx55, h56⟩
        refine br_t (hx55.2 rfl) ?_
        refine call_mono (same16 x12.2.1 x14.2.1 _ _ w56 (A2.up h56) (B2.up h56)) ?_
        rintro (x57 : Bool) w58 ⟨hx57, h58⟩
        exact ⟨by rw [hx57.2 rfl], (hfin.trans h56).trans h58⟩
      | false => exact absurd m (M2.2 e2).1
    | false =>
      obtain ⟨m, A1, A2⟩ := M1.2 e1
      cases e2 : x14.2.2.1 with
      | true => exact absurd (M2.1 e2).1 m
      | false =>
        obtain ⟨_, B1, B2⟩ := M2.2 e2
        rw [A1, A2, B1, B2]
        have nl : ∀ {w : World}, SlI w (none, 0, 0) [] := Sl.nil _ _
        refine br_t rfl ?_
        refine call_mono (same16 (none, 0, 0) (none, 0, 0) [] [] w54 nl nl) ?_
        rintro (x55 : Bool) w56 ⟨hx55, h56⟩
        refine br_t (hx55.2 rfl) ?_
        refine call_mono (same16 (none, 0, 0) (none, 0, 0) [] [] w56 nl nl) ?_
        rintro (x57 : Bool) w58 ⟨hx57, h58⟩
        exact ⟨by rw [hx57.2 rfl], (hfin.trans h56).trans h58⟩
  · have a := hf.1.1 (.inr rfl)
    have b := hf.2.1.1 (.inl rfl)
    injection a with _ a
    injection b with _ b
    exact absurd (b.trans a.symm) e
end Go.Proofs.Ytphgmfjinihgaaa

/- Arguments of the statements about grids. -/

namespace Go.Proofs.Ytphgmfjinihgaaa
open Go.RowKit Go.Q Go.V

theorem bounds_i64 {n : Int} (h : (Lit.int .i64 n).wf = true) : I64 n := by
  simp only [Lit.wf, Bool.and_eq_true, decide_eq_true_eq] at h
  exact ⟨h.1, h.2⟩
set_option maxRecDepth 100000 in
theorem argGrid {w : World} {v : Value} (h : Go.Q.Arg Try.prog w 25 v) : ∃ r c b R C B, v = grv r c b ∧ Grid w r c b R C B := by
  obtain ⟨cs, rfl, hsz, h⟩ := Go.V.Arg.struct Try.underlying25 h
  have hsz' : cs.size = 3 := by rw [hsz]; kernel_rfl
  obtain ⟨x, y, z, rfl⟩ : ∃ x y z, cs = #[x, y, z] := by
    rcases cs with ⟨l⟩
    rcases l with _ | ⟨x, _ | ⟨y, _ | ⟨z, _ | ⟨u, l⟩⟩⟩⟩ <;> simp at hsz'
    exact ⟨x, y, z, rfl⟩
  have e1 : Go.Q.Read Try.prog w 22 [x] := h _ (List.mem_cons_self ..)
  have e2 : Go.Q.Read Try.prog w 22 [y] := h _ (List.mem_cons_of_mem _ (List.mem_cons_self ..))
  have e3 : Go.Q.Read Try.prog w 23 [z] := h _ (List.mem_cons_of_mem _ (List.mem_cons_of_mem _ (List.mem_cons_self ..)))
  obtain ⟨a1, n1, c1, R, q1, _, s1, _⟩ := Go.V.Read.ints Try.underlying22 Try.underlying3 (by kernel_rfl) e1
  obtain ⟨a2, n2, c2, C, q2, _, s2, _⟩ := Go.V.Read.ints Try.underlying22 Try.underlying3 (by kernel_rfl) e2
  obtain ⟨b, B, q3, s3, _⟩ := Go.V.Read.tab (g := Value.int .i64) (R := fun n => (Lit.int .i64 n).wf = true) (fun _ h => Go.Q.Read.int Try.underlying3 h) Try.underlying23 (by kernel_rfl) Try.underlying22 (by kernel_rfl) e3
  cases q1; cases q2; cases q3
  exact ⟨(a1, n1, c1), (a2, n2, c2), b, R, C, B, rfl, s1, s2, s3⟩
set_option maxRecDepth 100000 in
theorem argTable {w : World} {v : Value} (h : Go.Q.Arg Try.prog w 23 v) : ∃ t T, v = hv t ∧ TabI .i64 w t T := by
  obtain ⟨a, n, c, rfl, h⟩ := Go.V.Arg.slice Try.underlying23 h
  obtain ⟨b, B, q3, s3, _⟩ := Go.V.Read.tab (g := Value.int .i64) (R := fun n => (Lit.int .i64 n).wf = true) (fun _ h => Go.Q.Read.int Try.underlying3 h) Try.underlying23 (by kernel_rfl) Try.underlying22 (by kernel_rfl) h
  cases q3
  exact ⟨b, B, rfl, s3⟩
set_option maxRecDepth 100000 in
theorem argCut {w : World} {v : Value} (h : Go.Q.Arg Try.prog w 28 v) : ∃ hr hc cr cc, v = cutv hr hc ∧ SlB w hr cr ∧ SlB w hc cc := by
  obtain ⟨cs, rfl, hsz, h⟩ := Go.V.Arg.struct Try.underlying28 h
  have hsz' : cs.size = 2 := by rw [hsz]; kernel_rfl
  obtain ⟨x, y, rfl⟩ : ∃ x y, cs = #[x, y] := by
    rcases cs with ⟨l⟩
    rcases l with _ | ⟨x, _ | ⟨y, _ | ⟨z, l⟩⟩⟩ <;> simp at hsz'
    exact ⟨x, y, rfl⟩
  have e1 : Go.Q.Read Try.prog w 26 [x] := h _ (List.mem_cons_self ..)
  have e2 : Go.Q.Read Try.prog w 26 [y] := h _ (List.mem_cons_of_mem _ (List.mem_cons_self ..))
  obtain ⟨a1, n1, c1, A, q1, _, s1⟩ := Go.V.Read.bools Try.underlying26 Try.underlying4 (by kernel_rfl) e1
  obtain ⟨a2, n2, c2, D, q2, _, s2⟩ := Go.V.Read.bools Try.underlying26 Try.underlying4 (by kernel_rfl) e2
  cases q1; cases q2
  exact ⟨(a1, n1, c1), (a2, n2, c2), A, D, rfl, s1, s2⟩
set_option maxRecDepth 100000 in
theorem argTape {w : World} {v : Value} (h : Go.Q.Arg Try.prog w 22 v) : ∃ x xs, v = hv x ∧ SlI w x xs ∧ ∀ n ∈ xs, I64 n := by
  obtain ⟨a, n, c, rfl, h⟩ := Go.V.Arg.slice Try.underlying22 h
  obtain ⟨a1, n1, c1, xs, q1, _, s1, b1⟩ := Go.V.Read.ints Try.underlying22 Try.underlying3 (by kernel_rfl) h
  cases q1
  exact ⟨(a, n, c), xs, rfl, s1, fun x hx => bounds_i64 (b1 x hx)⟩
end Go.Proofs.Ytphgmfjinihgaaa

/- Solve. -/


namespace Go.Proofs.Ytphgmfjinihgaaa
open Go.RowKit Go.Q Go.V

theorem cloneN (s : Hdr) (xs : List Int) (w : World) (H : SlI w s xs) (hn : s.2.1 ≤ 1000000) (h0 : 0 < xs.length) :
    call Try.prog 29 [.slice s.1 s.2.1 s.2.2] (.one (.one .slice)) w (fun (x : Hdr) w' => ∃ ao co, x = (some ao, s.2.1, co) ∧ ao.block = w.heap.size + 1 ∧ Own w' w.heap.size 3 1 (some ao) s.2.1 co (ints .i64 xs) ∧ bel w w') := by
  refine call_of (S29_calls s.1 s.2.1 s.2.2 w _ ?_)
  unfold S29
  have hl := H.int
  refine rd_nil tyI ?_
  obtain ⟨a, n, c⟩ := s
  have hl : xs.length = n := hl
  have hn : n ≤ 1000000 := hn
  dsimp only
  cases a with
  | none => exact absurd (H.nil' rfl).1 (by dsimp only; omega)
  | some ad =>
    refine br_f rfl ?_
    refine wr_lit0 tyI fun b w3 O h3 hb hs => ?_
    refine wr_appG tyI (O w.heap.size (Nat.le_refl _)) (H.up h3) h3.size rfl (plain_ints xs) (by omega) (by unfold maxLen; omega) (by omega) fun c' w5 O5 hg => ?_
    refine ⟨((some ⟨w3.heap.size, 0, none⟩, 0 + n, c') : Hdr), rfl, ⟨w3.heap.size, 0, none⟩, c', by simp, hs, by simpa using O5, h3.grownAt hg (by omega)⟩
theorem hdrs_snoc {n m : Nat} {ra : Nat → Addr} {ad : Addr} : (hdrs (n + 1) m fun j => if j = n then ad else ra j).map hv = (hdrs n m ra).map hv ++ [hv (some ad, m, m)] := by
  unfold hdrs
  rw [List.range_succ, List.map_append, List.map_append]
  congr 1
  · congr 1
    refine List.map_congr_left fun j hj => ?_
    have : j ≠ n := by have := List.mem_range.1 hj; omega
    simp [this]
  · simp
abbrev ST := Hdr × (Hdr × Hdr × Unit) × Int × Unit
abbrev rST : RS := .many [.one .slice, .agg [.slice, .slice], .one (.int .i64)]
/-- what Solve returns -/
def SolveR (R C : List Int) (B : List (List Int)) (x : ST) (w : World) : Prop :=
  (validG R C B ≠ 0 ∧ x.2.2.1 = validG R C B ∧ x.1 = (none, 0, 0)) ∨
  (ValidP R C B ∧ S R.length (g1 R) ≠ S C.length (g1 C) ∧ x.2.2.1 = 9 ∧ x.1 = (none, 0, 0)) ∨
  (ValidP R C B ∧ S R.length (g1 R) = S C.length (g1 C) ∧ x.2.2.1 = 12 ∧ x.1 = (none, 0, 0) ∧ ∃ cr cc, SlB w x.2.1.1 cr ∧ SlB w x.2.1.2.1 cc ∧ CutP R C B cr cc) ∨
  (ValidP R C B ∧ S R.length (g1 R) = S C.length (g1 C) ∧ x.2.2.1 = 0 ∧ x.2.1 = ((none, 0, 0), (none, 0, 0), ()) ∧ ∃ T, TabI .i64 w x.1 T ∧ TabP R C B T)
/-- a flow that has found all is a table -/
theorem tab_of {n m : Nat} {R C : List Int} {B : List (List Int)} {r c : Nat → Int} {t : Nat → Nat → Int} (V : ValidP R C B) (hn : n = R.length) (hm : m = C.length) (hs : S n (g1 R) = S m (g1 C)) (P : FlowP n m (g1 R) (g1 C) (g2 B) r c t noD) (h0 : S n r ≤ 0) : TabP R C B (mk2 n m t) := by
  have e1 : S n (g1 R) = (S n fun i => S m (t i)) + S n r := by
    rw [← S_add]; exact S_congr fun i hi => (P.row i hi).symm
  have e2 : S m (g1 C) = (S m fun k => S n fun i => t i k) + S m c := by
    rw [← S_add]; exact S_congr fun k hk => by have := P.col k hk; unfold noD at this; omega
  rw [S_swap] at e1
  have z1 : S n r = 0 := by have := S_nonneg (n := n) (f := r) P.r0; omega
  have z2 : S m c = 0 := by omega
  have f1 : ∀ i, i < n → r i = 0 := fun i hi => by have := S_get (f := r) P.r0 hi; have := P.r0 i hi; omega
  have f2 : ∀ k, k < m → c k = 0 := fun k hk => by have := S_get (f := c) P.c0 hk; have := P.c0 k hk; omega
  have V1 := V.r0
  have V2 := V.c0
  have V3 := V.r64
  have V4 := V.c64
  have bB := fun i k => out_g2 V.B i k
  refine ⟨V, ⟨by rw [mk2_len]; omega, by rw [mk2_len]; omega, by omega, by omega, by rw [← hm]; exact mk2_row, fun q hq x hx => ?_⟩, by rw [mk2_len]; exact hn, fun i hi => ?_, fun k hk => ?_, fun i k hi hk => ?_⟩
  · obtain ⟨i, hi, rfl⟩ := List.mem_map.1 hq
    obtain ⟨k, hk, rfl⟩ := List.mem_map.1 hx
    have := P.tb i k (List.mem_range.1 hi) (List.mem_range.1 hk)
    have := bB i k
    omega
  · rw [← hm, ← hn] at *
    rw [S_congr (g := t i) fun k hk => mk2_g2 hi hk]
    have := P.row i hi
    have := f1 i hi
    omega
  · rw [← hm, ← hn] at *
    rw [S_congr (g := fun i => t i k) fun i hi => mk2_g2 hi hk]
    have q1 := P.col k hk
    have q2 := f2 k hk
    unfold noD at q1
    omega
  · rw [← hm, ← hn] at *
    rw [mk2_g2 hi hk]; exact (P.tb i k hi hk).2
theorem tab_own {w : World} {b0 : Nat} {ht : Hdr} {ra : Nat → Addr} {n m : Nat} {t : Nat → Nat → Int} (th : Own w b0 22 1 ht.1 ht.2.1 ht.2.2 ((hdrs n m ra).map hv)) (rows : ∀ i, i < n → Own w b0 3 1 (some (ra i)) m m (ints .i64 (mk m (t i)))) : TabI .i64 w ht (mk2 n m t) :=
  ⟨⟨hdrs n m ra, th.sl, by rw [hdrs_len, mk2_len], fun i x row hx hrow => by
    have hi : i < n := by have := (List.getElem?_eq_some_iff.1 hx).1; rwa [hdrs_len] at this
    rw [hdrs_at hi] at hx
    rw [mk2_at hi] at hrow
    cases hx; cases hrow
    exact (rows i hi).sl⟩⟩
theorem cut_search {n m : Nat} {R C : List Int} {B : List (List Int)} {r c : Nat → Int} {t : Nat → Nat → Int} {vr vc : List Bool} {pr pc : List Int} (V : ValidP R C B) (hn : R.length = n) (hm : C.length = m) (hs : S n (g1 R) = S m (g1 C)) (P : FlowP n m (g1 R) (g1 C) (g2 B) r c t noD) (D : Dims n m vr vc pr pc)
    (h1 : Sta n (mk n r) vr) (h2 : ClR n m (mk2 n m t) B vr vc []) (h3 : ClC n m (mk m c) (mk2 n m t) vr vc) (hp : 0 < S n r) : CutP R C B vr vc := by
  refine ⟨V, by rw [hn, hm]; exact hs, by rw [hn]; exact D.vr, by rw [hm]; exact D.vc, ?_⟩
  rw [hn, hm]
  refine cut_of (T := t) (r := r) (c := c) (fun i hi => (P.row i hi).symm) (fun k hk => by have := P.col k hk; unfold noD at this; omega) (fun i hi e => ?_) (fun k hk e => ?_) (fun i k hi hk e1 e2 => ?_) (fun i k hi hk e1 e2 => ?_) hp
  · have := P.r0 i hi
    rcases Int.lt_or_le 0 (r i) with z | z
    · have := h1 i hi (by rw [mk_g1 hi]; exact z)
      rw [e] at this; cases this
    · omega
  · have q1 := (h3 k hk e).1
    rw [mk_g1 hk] at q1
    have := P.c0 k hk
    omega
  · have q1 := h2 i hi e1 (by simp) k hk e2
    rw [mk2_g2 hi hk] at q1
    have := P.tb i k hi hk
    omega
  · have q1 := (h3 k hk e2).2 i hi e1
    rw [mk2_g2 hi hk] at q1
    have := P.tb i k hi hk
    omega
set_option maxHeartbeats 3200000 in
theorem solveF (r c b : Hdr) (R C : List Int) (B : List (List Int)) (w : World) (H : Grid w r c b R C B) :
    call Try.prog 19 [grv r c b] rST w (fun (x : ST) w' => SolveR R C B x w' ∧ bel w w') := by
  refine call_of (S19_calls r.1 r.2.1 r.2.2 c.1 c.2.1 c.2.2 b.1 b.2.1 b.2.2 w _ ?_)
  unfold S19
  have lr := H.r.int
  have lc := H.c.int
  refine wr_box fun x1 w2 X h2 ex1 _ => ?_
  replace X : Box w2 x1 (grc r c b) := X
  refine wr_alloc (z := .agg #[.slice none 0 0, .slice none 0 0]) (by kernel_rfl) fun x3 w4 Y h4 ex3 _ => ?_
  replace Y : Box w4 x3 [.slice none 0 0, .slice none 0 0] := Y
  have h := h2.trans h4
  replace X := X.up h4
  refine rd_boxN X (by kernel_rfl) rfl ?_
  refine call_mono (validC r c b R C B w4 (H.up h)) ?_
  rintro (x6 : Int) w7 ⟨rfl, h7⟩
  replace X := X.up h7; replace Y := Y.up h7; replace h := h.trans h7
  have hx3 : w.heap.size ≤ x3.block := by have := h2.size; omega
  -- what is said without a flow
  refine br_ne (fun e => ?_) (fun e => ?_)
  · refine wu_box Y (by kernel_rfl) (Nat.le_refl 2) rfl fun w8 Y8 g8 _ => ?_
    refine rd_boxV Y8 (by kernel_rfl) rfl ?_
    exact ⟨((none, 0, 0), ((none, 0, 0), (none, 0, 0), ()), validG R C B, ()) , rfl, .inl ⟨e, rfl, rfl⟩, h.grownAt g8 hx3⟩
  have V := validG_iff.1 e
  have r64 := V.r64
  have c64 := V.c64
  have r0 := V.r0
  have c0 := V.c0
  refine drw_mk fun w10 h10 _ => ?_
  replace X := X.up h10; replace Y := Y.up h10; replace h := h.trans h10
  refine flEx_mk (fun i _ v _ => i = 2 → v = .int .i64 (S R.length (g1 R))) (fun _ _ _ _ _ h _ => h) ?_
  refine rd_box0 (by kernel_rfl) X rfl rfl ?_
  refine flc_mk (fun w13 hb _ => call_mono (sumF r R w13 (H.r.up (h.trans hb)) V.R (by omega)) fun y w' ⟨hy, hb'⟩ => ⟨hb', fun _ => by rw [hy]⟩) (fun (x17 : Int) => ?_)
  refine rd_box (by kernel_rfl) X (i := 1) rfl rfl ?_
  refine flend_mk fun w19 h19 hf => ?_
  have ex17 : x17 = S R.length (g1 R) := by have := hf.1 rfl; injection this
  replace X := X.up h19; replace Y := Y.up h19; replace h := h.trans h19
  refine call_mono (sumF c C w19 (H.c.up h) V.C (by omega)) ?_
  rintro (x21 : Int) w22 ⟨rfl, h22⟩
  replace X := X.up h22; replace Y := Y.up h22; replace h := h.trans h22
  refine br_ne (fun e1 => ?_) (fun e1 => ?_)
  · refine wu_box Y (by kernel_rfl) (Nat.le_refl 2) rfl fun w8 Y8 g8 _ => ?_
    refine rd_boxV Y8 (by kernel_rfl) rfl ?_
    exact ⟨((none, 0, 0), ((none, 0, 0), (none, 0, 0), ()), (9 : Int), ()), rfl, .inr (.inl ⟨V, fun q => e1 (by rw [ex17, q]), rfl, rfl⟩), h.grownAt g8 hx3⟩
  have hs : S R.length (g1 R) = S C.length (g1 C) := by rw [← ex17]; exact e1
  refine drw_mk fun w25 h25 _ => ?_
  replace X := X.up h25; replace Y := Y.up h25; replace h := h.trans h25
  have lX := X.lt
  have lY := Y.lt
  have X25 := X
  have Y25 := Y
  replace H := H.up h
  generalize hn : R.length = n at *
  generalize hm : C.length = m at *
  have rn : r.2.1 = n := by omega
  have cm : c.2.1 = m := by omega
  refine flExC_mk bel (fun _ _ _ => True) (fun D w' => D 3 = false → w'.heap.size = w25.heap.size) (fun i _ v w' => (i = 3 → ∃ ao co, v = .slice (some ao) n co ∧ ao.block = w25.heap.size + 1 ∧ Own w' w25.heap.size 3 1 (some ao) n co (ints .i64 R)) ∧ (i = 6 → ∃ ak ck, v = .slice (some ak) m ck ∧ w25.heap.size + 2 ≤ ak.block ∧ Own w' w25.heap.size 3 1 (some ak) m ck (ints .i64 C)))
    bel.refl (fun _ _ _ a b => a.trans b) (fun _ _ _ _ _ _ _ hΦ hE _ => ⟨fun e => by obtain ⟨a, b, q1, q2, q3⟩ := hΦ.1 e; exact ⟨a, b, q1, q2, Own.kept q3 hE⟩, fun e => by obtain ⟨a, b, q1, q2, q3⟩ := hΦ.2 e; exact ⟨a, b, q1, q2, Own.kept q3 hE⟩⟩) (fun _ => rfl) ?_
  refine rdE_boxN (fun w' hE => X.up hE.1) (by kernel_rfl) rfl ?_
  refine rdE_box0 (by kernel_rfl) (fun w' hE => X.up hE.1) rfl rfl ?_
  refine flcC_mk (fun D w' hD hE hS _ => ?_) (fun (x37 : Hdr) => ?_)
  · refine call_mono (cloneN r R w' (H.r.up hE) (by omega) (by omega)) ?_
    rintro (x : Hdr) w'' ⟨ao, co, ex, eb, O, hb⟩
    subst ex
    rw [rn] at O ⊢
    have sz := hS hD
    rw [sz] at eb O
    exact ⟨hb, trivial, (fun q => by rw [setD_self] at q; cases q), fun _ => ⟨ao, co, rfl, eb, O⟩, fun e => by omega⟩
  refine rdE_box (by kernel_rfl) (fun w' hE => X.up hE.1) (i := 1) rfl rfl ?_
  refine flcC_mk (fun D w' hD hE hS hpre => ?_) (fun (x44 : Hdr) => ?_)
  · obtain ⟨ao, co, _, ea, Oa⟩ := hpre.1.1 rfl
    have la := Oa.lt ao.block rfl
    refine call_mono (cloneN c C w' (H.c.up hE) (by omega) (by omega)) ?_
    rintro (x : Hdr) w'' ⟨ak, ck, ex, eb, O, hb⟩
    subst ex
    rw [cm] at O ⊢
    have sb := hb.size
    refine ⟨hb, trivial, fun q => ?_, fun e => by omega, fun _ => ⟨ak, ck, rfl, by omega, ?_⟩⟩
    · rw [setD_ne (by decide)] at q
      have := hS q; omega
    · refine ⟨O.1, ?_⟩
      rcases O.2 with q | ⟨g, cap, cur, q1, q2, q3⟩
      · exact .inl q
      · exact .inr ⟨g, cap, cur, q1, by omega, q3⟩
  refine flendC_mk fun w45 h45 _ hf => ?_
  obtain ⟨ak, ck, q1, ekb, OK⟩ := hf.1.2 rfl
  obtain ⟨ao, co, q2, eob, OO⟩ := hf.2.1.1 rfl
  have q1 : x44 = (some ak, m, ck) := sl_inj q1
  have q2 : x37 = (some ao, n, co) := sl_inj q2
  subst q1 q2
  replace X := X.up h45
  refine wr_box fun fa w48 F h48 ef _ => ?_
  replace F : Box w48 fa [slv r, slv c, slv b, slv (some ao, n, co), slv (some ak, m, ck), slv (none, 0, 0)] := F
  replace X := X.up h48
  have lo := OO.lt ao.block rfl
  have lk := OK.lt ak.block rfl
  replace OO : Own w48 w25.heap.size 3 1 (some ao) n co (ints .i64 R) := Own.kept OO h48
  replace OK : Own w48 w25.heap.size 3 1 (some ak) m ck (ints .i64 C) := Own.kept OK h48
  have h2548 : bel w25 w48 := h45.trans h48
  have eR : R = Go.Proofs.Ytphgmfjinihgaaa.mk n (g1 R) := by rw [← hn]; exact (mk_self R).symm
  have eC : C = Go.Proofs.Ytphgmfjinihgaaa.mk m (g1 C) := by rw [← hm]; exact (mk_self C).symm
  rw [eR] at OO
  rw [eC] at OK
  refine rd_box0 (by kernel_rfl) X rfl rfl ?_
  refine loop_up n (fun i w' => ∃ ht ra, FO w25 w' fa ao ak co ck r c b ht ra i n m (g1 R) (g1 C) (fun _ _ => 0) ∧ FS fa ao ak ht ra i)
    ⟨(none, 0, 0), fun _ => fa, ⟨h2548, F, OO, OK, Own.nil _ _ _ _, fun i hi => by omega⟩, ⟨⟨by omega, by omega⟩, by omega, (fun k hk => by cases hk), fun i hi => by omega, fun i j hi => by omega⟩⟩ fun i w52 hi ⟨ht, ra, G, A⟩ again hag _ => ?_
  refine br_dec (fun e2 => ?_) (fun e2 => ?_)
  · dsimp only at e2
    rw [rn] at e2
    have hin : i < n := by omega
    refine drw_mk fun w53 h53 s53 => ?_
    have G53 : FO w25 w53 fa ao ak co ck r c b ht ra i n m (g1 R) (g1 C) (fun _ _ => 0) := ⟨G.up.trans h53, G.box.up h53, Own.kept G.o h53, Own.kept G.k h53, Own.kept G.th h53, fun j hj => Own.kept (G.rows j hj) h53⟩
    have s25 := G53.up.size
    refine flEx_mk (fun i' _ v w' => (i' = 8 → ∃ ad : Addr, v = .slice (some ad) m m ∧ w53.heap.size ≤ ad.block ∧ Own w' w25.heap.size 3 1 (some ad) m m (ints .i64 (Go.Proofs.Ytphgmfjinihgaaa.mk m fun _ => 0))) ∧ (i' = 9 → ∃ a9 ad : Addr, v = .slice (some a9) 1 1 ∧ Sl w' (some a9) 1 1 1 [slv (some ad, m, m)] ∧ w53.heap.size ≤ ad.block ∧ Own w' w25.heap.size 3 1 (some ad) m m (ints .i64 (Go.Proofs.Ytphgmfjinihgaaa.mk m fun _ => 0))))
      (fun _ _ _ _ _ hΦ hE => ⟨fun e => by obtain ⟨a, q1, q2, q3⟩ := hΦ.1 e; exact ⟨a, q1, q2, Own.kept q3 hE⟩, fun e => by obtain ⟨a, d, q1, q2, q3, q4⟩ := hΦ.2 e; exact ⟨a, d, q1, q2.up hE, q3, Own.kept q4 hE⟩⟩) ?_
    refine nn_mk rfl ?_
    refine rd_box (by kernel_rfl) G53.box (i := 5) rfl rfl ?_
    refine rd_box (by kernel_rfl) (X25.up G53.up) (i := 1) rfl rfl ?_
    refine flc_mk (fun w58 hb _ => ?_) (fun (x62 : Hdr) => ?_)
    · have hs := hb.size
      rw [cm]
      refine wr_make tyI m rfl rfl (by omega) (by unfold maxLen; omega) fun ad w' O hb' hbk _ => ⟨hb', fun _ => ⟨ad, rfl, by omega, ?_⟩, fun e => by omega⟩
      have := O w25.heap.size (by omega)
      rw [zeros_eq] at this
      exact this
    refine flc_mk (fun w63 hb hpre => ?_) (fun (x67 : Hdr) => ?_)
    · obtain ⟨ad, q1, q2, q3⟩ := hpre.1.1 rfl
      have q1 : x62 = (some ad, m, m) := sl_inj q1
      subst q1
      refine wr_lit tyT #[.slice (some ad) m m] (fill_one 1 (.slice (some ad) m m) _ rfl (by simp)) (by omega) (by omega) rfl (by unfold maxLen; omega) fun a9 w' O hb' hbk _ => ⟨hb', fun e => by omega, fun _ => ⟨a9, ad, rfl, (O w63.heap.size (Nat.le_refl _)).sl, q2, Own.kept q3 hb'⟩⟩
    refine flend_mk fun w68 h68 hf => ?_
    obtain ⟨a9, ad, q1, S9, fad, Oad⟩ := hf.1.2 rfl
    have q1 : x67 = (some a9, 1, 1) := sl_inj q1
    subst q1
    have lad := Oad.lt ad.block rfl
    have G68 : FO w25 w68 fa ao ak co ck r c b ht ra i n m (g1 R) (g1 C) (fun _ _ => 0) := ⟨G53.up.trans h68, G53.box.up h68, Own.kept G53.o h68, Own.kept G53.k h68, Own.kept G53.th h68, fun j hj => Own.kept (G53.rows j hj) h68⟩
    have lht := G68.th.lt
    have l53f := G53.box.lt
    have l53o := (G53.o.lt ao.block rfl).2
    have l53k := (G53.k.lt ak.block rfl).2
    have l53r := fun j hj => (G53.rows j hj).lt (ra j).block rfl
    have s68 := h68.size
    have hhl : (hdrs i m ra).length = ht.2.1 := by have := G68.th.sl.len; simpa using this
    rw [hdrs_len] at hhl
    have ap := Own.apart G68.th Oad (by decide)
    refine wr_app tyT G68.th S9 (by omega) rfl (by omega) rfl (by omega) (by unfold maxLen; omega) fun a' c' w71 O71 g71 hnew s71 => ?_
    have nb : ∀ {a : Addr}, a.block < w68.heap.size → blk ht.1 ≠ some a.block → blk a' ≠ some a.block := fun {a} h1 h2 e => by
      rcases hnew with q | q
      · exact h2 (by rw [← q, e])
      · have := q _ e; omega
    have gx : ∀ {a : Addr} {cs : List Value}, Box w68 a cs → blk ht.1 ≠ some a.block → Box w71 a cs := fun X h2 => X.grown g71 (fun e => h2 e.symm)
    have go : ∀ {a : Addr} {n c : Nat} {xs : List Value}, Own w68 w25.heap.size 3 1 (some a) n c xs → blk ht.1 ≠ some a.block → Own w71 w25.heap.size 3 1 (some a) n c xs := fun O h2 => Own.keptBy O g71 (.inr fun e => h2 e.symm)
    have nf : blk ht.1 ≠ some fa.block := fun e => (A.h _ e).2.2 rfl
    have no : blk ht.1 ≠ some ao.block := fun e => (A.h _ e).1 rfl
    have nk : blk ht.1 ≠ some ak.block := fun e => (A.h _ e).2.1 rfl
    have nad : blk ht.1 ≠ some ad.block := fun e => ap _ e rfl
    refine nn_mk rfl ?_
    refine wu_boxi (gx G68.box nf) (by kernel_rfl) (show 5 < 6 by omega) rfl fun w73 F73 g73 _ => ?_
    refine z_i64 (by dsimp only; omega) ?_
    have nfa : ∀ j, blk a' = some j → j ≠ fa.block := fun j hj e => nb (by omega) nf (by rw [hj, e])
    have gy : ∀ {a : Addr} {n c : Nat} {xs : List Value}, Own w71 w25.heap.size 3 1 (some a) n c xs → a.block ≠ fa.block → Own w73 w25.heap.size 3 1 (some a) n c xs := fun O h2 => xg_own O g73 h2
    have bel71 : bel w25 w71 := G68.up.grown g71 fun k hk => (lht k hk).1
    refine hag _ hin ⟨(a', ht.2.1 + 1, c'), (fun j => if j = i then ad else ra j), ⟨bel71.grownAt g73 (by omega), F73, gy (go G68.o no) (fun e => A.f.1 e.symm), gy (go G68.k nk) (fun e => A.f.2 e.symm), ?_, fun j hj => ?_⟩, ⟨A.f, A.o, fun j hj => ⟨fun e => nb (by omega) no (by rw [hj, e]), fun e => nb (by omega) nk (by rw [hj, e]), nfa j hj⟩, fun j hj => ?_, fun j j' hj hj' hne => ?_⟩⟩
    · show Own w73 _ _ 1 a' (ht.2.1 + 1) c' _
      rw [hdrs_snoc]
      exact Own.putNew O71 g73 nfa
    · by_cases e : j = i
      · rw [if_pos e]
        exact gy (go Oad nad) (by omega)
      · rw [if_neg e]
        have hj' : j < i := by omega
        exact gy (go (G68.rows j hj') (A.r j hj').2.2.2) (A.r j hj').1
    · by_cases e : j = i
      · rw [if_pos e]
        exact ⟨by omega, by omega, by omega, nb (by omega) nad⟩
      · rw [if_neg e]
        have hj' : j < i := by omega
        obtain ⟨z1, z2, z3, z4⟩ := A.r j hj'
        exact ⟨z1, z2, z3, nb (by have := l53r j hj'; omega) z4⟩
    · by_cases e : j = i
      · by_cases e' : j' = i
        · omega
        · rw [if_pos e, if_neg e']
          have := l53r j' (by omega); omega
      · rw [if_neg e]
        by_cases e' : j' = i
        · rw [if_pos e']
          have := l53r j (by omega); omega
        · rw [if_neg e']
          exact A.d j j' (by omega) (by omega) hne
  · dsimp only at e2
    rw [rn] at e2
    have hin : i = n := by omega
    subst hin
    have VB := V.b
    have VW := V.row
    clear hag again
    refine loop_gh (G := (Nat → Int) × (Nat → Int) × (Nat → Nat → Int)) (fun g _ w' => FO w25 w' fa ao ak co ck r c b ht ra i i m g.1 g.2.1 g.2.2 ∧ FlowP i m (g1 R) (g1 C) (g2 B) g.1 g.2.1 g.2.2 noD) (fun g => (S i g.1).toNat) (g1 R, g1 C, fun _ _ => 0)
      ⟨G, ⟨fun j _ => by rw [S_zero]; exact Int.zero_add _, fun k _ => by rw [S_zero]; show 0 + g1 C k + 0 = g1 C k; omega, fun j k _ _ => ⟨Int.le_refl _, (out_g2 V.B j k).1⟩, fun j _ => (out_g1 V.R j).1, fun k _ => (out_g1 V.C k).1⟩⟩ ?_
    clear G
    rintro ⟨rr, cc, t⟩ _ w77 ⟨G, P⟩ again hag _
    dsimp only at G P hag
    have bR : ∀ j, j < i → 0 ≤ rr j ∧ rr j ≤ 1000000 := fun j hj => by
      have q1 := P.row j hj
      have q2 := S_nonneg (n := m) (f := t j) fun k hk => (P.tb j k hj hk).1
      have q3 := out_g1 V.R j
      have q4 := P.r0 j hj
      omega
    have bC : ∀ k, k < m → 0 ≤ cc k ∧ cc k ≤ 1000000 := fun k hk => by
      have q1 := P.col k hk
      have q2 := S_nonneg (n := i) (f := fun j => t j k) fun j hj => (P.tb j k hj hk).1
      have q3 := out_g1 V.C k
      have q4 := P.c0 k hk
      unfold noD at q1
      omega
    refine nn_mk rfl ?_
    refine rd_box (by kernel_rfl) G.box (i := 3) rfl rfl ?_
    refine call_mono (sumF (some ao, i, co) (Go.Proofs.Ytphgmfjinihgaaa.mk i rr) w77 G.o.sl (fun x hx => ?_) (by rw [mk_len]; omega)) ?_
    · obtain ⟨j, hj, rfl⟩ := List.mem_map.1 hx
      have := bR j (List.mem_range.1 hj); omega
    rintro (x80 : Int) w81 ⟨ex, h81⟩
    rw [mk_len, S_congr (g := rr) fun j hj => mk_g1 hj] at ex
    have G81 := G.upw h81
    refine br_dec (fun ep => ?_) (fun ep => ?_)
    · refine call_mono (searchF (n := i) (m := m) (fa := fa) (hr := r) (hc := c) (hb := b) (ho := (some ao, i, co)) (hk := (some ak, m, ck)) (ht := ht) (rr := Go.Proofs.Ytphgmfjinihgaaa.mk i rr) (cl := Go.Proofs.Ytphgmfjinihgaaa.mk m cc) (T := mk2 i m t) (B := B) ⟨G81.box, G81.o.sl, G81.k.sl, G81.tab, H.b.up G81.up⟩ ⟨by omega, by omega, mk_len _ _, mk_len _ _, mk2_len _ _ _, mk2_row, by omega, by rw [← hm]; exact VW⟩) ?_
      rintro ⟨⟨y1, y2, y3, y4, yu⟩, last, yv⟩ w83 ⟨vr, vc, pr, pc, a1, a2, a3, a4, e82, S1, S2, O3, O4, ⟨D, hS⟩, h83⟩
      dsimp only at e82 hS
      injection e82 with e1 e82
      injection e82 with e2 e82
      injection e82 with e3 e82
      injection e82 with e4 _
      subst e1 e2 e3 e4
      refine var_mk (z := .agg #[.slice none 0 0, .slice none 0 0, .slice none 0 0, .slice none 0 0]) (by kernel_rfl) (by kernel_rfl) rfl rfl fun x79 w84 Z h84 _ => ?_
      replace Z : Box w84 x79 (wkc (some a1, i, i) (some a2, m, m) (some a3, i, i) (some a4, m, m)) := Z
      have G84 := (G81.upw h83).upw h84
      refine br_dec (fun el => ?_) (fun el => ?_)
      · rcases hS with ⟨_, f1, f2, f3⟩ | ⟨k, _, ek, _⟩
        · refine drw_mk fun w85 h85 _ => ?_
          refine rd_box0 (by kernel_rfl) (Z.up h85) rfl rfl ?_
          refine rd_box (by kernel_rfl) (Z.up h85) (i := 1) rfl rfl ?_
          have b85 := G84.up.trans h85
          refine wu_box (Y25.up b85) (by kernel_rfl) (Nat.le_refl 2) rfl fun w86 Y8 g8 _ => ?_
          refine rd_boxV Y8 (by kernel_rfl) rfl ?_
          have s81 := G81.up.size
          refine ⟨((none, 0, 0), ((some a1, i, i), (some a2, m, m), ()), (12 : Int), ()), rfl, .inr (.inr (.inl ⟨V, by rw [hn, hm]; exact hs, rfl, rfl, vr, vc, ?_, ?_, cut_search V hn hm hs P D f1 f2 f3 (by omega)⟩)), (h.trans b85).grownAt g8 hx3⟩
          · exact (Own.xg (Own.kept S1 (h84.trans h85)) g8 (by omega)).sl
          · exact (Own.xg (Own.kept S2 (h84.trans h85)) g8 (by omega)).sl
        · dsimp only at el; omega
      · rcases hS with ⟨el', _⟩ | ⟨k, hk, ek, hv, hcl, tt, kr, kc, RE⟩
        · dsimp only at el; omega
        · subst ek
          rw [mk_g1 hk] at hcl
          refine rd_boxN Z (by kernel_rfl) rfl ?_
          refine call_mono (augF (h1 := (some a1, i, i)) (h2 := (some a2, m, m)) (bb := w81.heap.size) G84 A H.b (by omega) (by rw [← hm]; exact VW) (fun j k => out_g2 V.B j k) (fun j hj => (bR j hj).2) (fun k hk => (bC k hk).2) D (Own.kept O3 h84) (Own.kept O4 h84) (G81.k.lt _ rfl).2 (fun j hj => ((G81.rows j hj).lt _ rfl).2) RE P hk hv hcl) ?_
          rintro _ w89 ⟨r', c', t', N, G', P', hN, hS'⟩
          refine hag (r', c', t') _ _ ⟨G', P'⟩ ?_
          have := S_nonneg (n := i) (f := r') P'.r0
          dsimp only
          omega
    · refine nn_mk rfl ?_
      refine rd_box (by kernel_rfl) G81.box (i := 5) rfl rfl ?_
      refine wu_box (Y25.up G81.up) (by kernel_rfl) (Nat.le_refl 2) rfl fun w86 Y8 g8 _ => ?_
      refine rd_boxV Y8 (by kernel_rfl) rfl ?_
      refine ⟨(ht, ((none, 0, 0), (none, 0, 0), ()), (0 : Int), ()), rfl, .inr (.inr (.inr ⟨V, by rw [hn, hm]; exact hs, rfl, rfl, mk2 i m t, tab_own (b0 := w25.heap.size) (Own.xg G81.th g8 lY) (fun j hj => Own.xg (G81.rows j hj) g8 lY), tab_of V hn.symm hm.symm hs P (by omega)⟩)), (h.trans G81.up).grownAt g8 hx3⟩
end Go.Proofs.Ytphgmfjinihgaaa

/- The walk of CorrelationRaw. -/

namespace Go.Proofs.Ytphgmfjinihgaaa
open Go.RowKit Go.Q Go.V

theorem SolveR.up {R C : List Int} {B : List (List Int)} {x : ST} {w w' : World} (h : SolveR R C B x w) (hb : bel w w') : SolveR R C B x w' := by
  rcases h with h | h | ⟨h1, h2, h3, h4, cr, cc, h5, h6, h7⟩ | ⟨h1, h2, h3, h4, T, h5, h6⟩
  · exact .inl h
  · exact .inr (.inl h)
  · exact .inr (.inr (.inl ⟨h1, h2, h3, h4, cr, cc, h5.up hb, h6.up hb, h7⟩))
  · exact .inr (.inr (.inr ⟨h1, h2, h3, h4, T, h5.up hb, h6⟩))
set_option maxHeartbeats 3200000 in
theorem corRaw (r c b : Hdr) (R C : List Int) (B : List (List Int)) (w : World) (H : Grid w r c b R C B) :
    Calls Try.prog 5 #[grv r c b] w (fun e w' => e = .returned (.bool true) ∧ Below w.heap.size w w') := by
  refine Calls.mono (S5_calls r.1 r.2.1 r.2.2 c.1 c.2.1 c.2.2 b.1 b.2.1 b.2.2 w (fun v w' => v = .bool true ∧ bel w w') ?_) (by rintro e w' ⟨v, rfl, rfl, hb⟩; exact ⟨rfl, hb⟩)
  unfold S5
  refine wr_box fun x1 w2 X h _ _ => ?_
  replace X : Box w2 x1 (grc r c b) := X
  replace H := H.up h
  refine rd_boxN X (by kernel_rfl) rfl ?_
  refine call_mono (fewG r c b R C B w2 H) ?_
  rintro (x4 : Bool) w5 h'
  replace h := h.trans h'; replace X := X.up h'; replace H := H.up h'; clear h'
  refine br_not (fun _ => ⟨rfl, h⟩) (fun _ => ?_)
  refine rd_boxN X (by kernel_rfl) rfl ?_
  refine call_mono (solveF r c b R C B w5 H) ?_
  rintro (x7 : ST) w8 ⟨hS, h'⟩
  replace h := h.trans h'; replace X := X.up h'; replace H := H.up h'; clear h'
  refine var_mk (v := cutv x7.2.1.1 x7.2.1.2.1) (z := .agg #[.slice none 0 0, .slice none 0 0]) (by kernel_rfl) (by kernel_rfl) rfl rfl fun x9 w11 Y h' _ => ?_
  replace Y : Box w11 x9 (cutc x7.2.1.1 x7.2.1.2.1) := Y
  replace hS := hS.up h'
  replace h := h.trans h'; replace X := X.up h'; replace H := H.up h'; clear h'
  refine rd_boxN X (by kernel_rfl) rfl ?_
  refine call_mono (valid21 r c b R C B w11 H) ?_
  rintro (x13 : Int) w14 ⟨rfl, h'⟩
  replace hS := hS.up h'
  replace h := h.trans h'; replace X := X.up h'; replace Y := Y.up h'; replace H := H.up h'; clear h'
  have v12 : validG R C B ≠ 12 := by
    unfold validG
    split
    · decide
    · split
      · decide
      · split <;> decide
  refine br_ne (fun e => ?_) (fun e => ?_)
  · rcases hS with ⟨_, e2, e3⟩ | ⟨V, _⟩ | ⟨V, _⟩ | ⟨V, _⟩
    · refine br_t (by rw [e2]; simp) ⟨?_, h⟩
      rw [e3]; rfl
    · exact absurd (validG_iff.2 V) e
    · exact absurd (validG_iff.2 V) e
    · exact absurd (validG_iff.2 V) e
  have V := validG_iff.1 e
  refine rd_boxN X (by kernel_rfl) rfl ?_
  refine call_mono (sums21 r c b R C B w14 H V) ?_
  rintro (x16 : Int × Int × Unit) w17 ⟨⟨ea, eb⟩, h'⟩
  replace hS := hS.up h'
  replace h := h.trans h'; replace X := X.up h'; replace Y := Y.up h'; replace H := H.up h'; clear h'
  refine br_ne (fun e1 => ?_) (fun e1 => ?_)
  · rw [ea, eb] at e1
    rcases hS with ⟨q, _⟩ | ⟨_, _, e2, _⟩ | ⟨_, q, _⟩ | ⟨_, q, _⟩
    · exact absurd e q
    · exact ⟨by rw [e2]; rfl, h⟩
    · exact absurd q e1
    · exact absurd q e1
  rw [ea, eb] at e1
  rcases hS with ⟨q, _⟩ | ⟨_, q, _⟩ | ⟨_, _, e2, _, cr, cc, S1, S2, hC⟩ | ⟨_, _, e2, _, T, hT, hP⟩
  · exact absurd e q
  · exact absurd e1 q
  · refine br_eq (fun _ => ?_) (fun q => absurd e2 q)
    refine rd_boxN X (by kernel_rfl) rfl ?_
    refine rd_boxN Y (by kernel_rfl) rfl ?_
    refine call_mono (cut21 r c b x7.2.1.1 x7.2.1.2.1 R C B cr cc w17 H S1 S2) ?_
    rintro (x20 : Bool) w21 ⟨hx, h21⟩
    exact ⟨by rw [hx.2 hC], h.trans h21⟩
  · refine br_eq (fun q => absurd (e2.symm.trans q) (by decide)) (fun _ => ?_)
    refine br_eq (fun _ => ?_) (fun q => absurd e2 q)
    refine rd_boxN X (by kernel_rfl) rfl ?_
    refine call_mono (tab21 r c b x7.1 R C B T w17 H hT) ?_
    rintro (x23 : Bool) w24 ⟨hx, h24⟩
    exact ⟨by rw [hx.2 hP], h.trans h24⟩
end Go.Proofs.Ytphgmfjinihgaaa

/- The tape of numbers that made worlds are read from. -/

namespace Go.Proofs.Ytphgmfjinihgaaa
open Go.RowKit Go.Q Go.V

structure Tape (w : World) (tb : Addr) (l : Hdr) (L : List Int) (p : Nat) : Prop where
  box : Box w tb [.slice l.1 l.2.1 l.2.2, .int .i64 (p : Int)]
  sl : Sl w l.1 l.2.1 l.2.2 1 (ints .i64 L)
  old : ∀ ad, l.1 = some ad → L ≠ [] → ad.block < tb.block
  i64 : ∀ x ∈ L, I64 x
theorem Tape.up {w w' : World} {tb : Addr} {l : Hdr} {L : List Int} {p : Nat} (h : Tape w tb l L p) (hb : bel w w') : Tape w' tb l L p := ⟨h.box.up hb, h.sl.up hb, h.old, h.i64⟩
theorem Tape.grown {w w' : World} {tb : Addr} {l : Hdr} {L : List Int} {p b : Nat} (h : Tape w tb l L p) (hg : w.grownBy w' (some b)) (hb : tb.block < b) : Tape w' tb l L p :=
  ⟨h.box.xg hg (by omega), Sl.xg h.sl hg (fun ad ha hx => by have := h.old ad ha (by rintro rfl; exact hx rfl); omega), h.old, h.i64⟩
theorem Tape.xb {S : Nat → Prop} {w w' : World} {tb : Addr} {l : Hdr} {L : List Int} {p : Nat} (h : Tape w tb l L p) (hX : Xb S w w') (hs : ∀ k, S k → tb.block < k) : Tape w' tb l L p :=
  ⟨h.box.xb hX (fun q => by have := hs _ q; omega), h.sl.xb hX (fun ad ha hx q => by have := h.old ad ha (by rintro rfl; exact hx rfl); have := hs _ q; omega), h.old, h.i64⟩
set_option maxHeartbeats 400000 in
theorem nextF {w : World} {tb : Addr} {l : Hdr} {L : List Int} {p : Nat} (n : Int) (h : Tape w tb l L p) (hp : p ≤ 1000000) (hn : 1 ≤ n ∧ n ≤ 9223372036854775807) :
    call Try.prog 21 [.pointer (some tb), .int .i64 n] (.one (.one (.int .i64))) w (fun (x : Int) w' => (0 ≤ x ∧ x < n) ∧ Tape w' tb l L (p + 1) ∧ w.grownBy w' (some tb.block)) := by
  refine call_of (S21_calls (some tb) n w _ ?_)
  unfold S21
  have hl := h.sl.int
  refine br_dec (fun e => by omega) (fun _ => ?_)
  refine join_mk (fun s w' => (0 ≤ s.1 ∧ s.1 < n) ∧ bel w w') (fun K hK => ?_) (fun s w3 hh _ => ?_)
  · refine drw_mk fun w9 h9 _ => ?_
    refine nn_mk rfl ?_
    refine rd_box (by kernel_rfl) (h.box.up h9) (i := 1) rfl rfl ?_
    refine nn_mk rfl ?_
    refine rd_box0 (by kernel_rfl) (h.box.up h9) rfl rfl ?_
    refine br_dec (fun e => ?_) (fun e => hK _ _ ⟨⟨by dsimp only; omega, by dsimp only; omega⟩, h9⟩)
    dsimp only at e
    refine drw_mk fun w14 h14 _ => ?_
    have h14' := h9.trans h14
    refine nn_mk rfl ?_
    refine rd_box0 (by kernel_rfl) (h.box.up h14') rfl rfl ?_
    refine nn_mk rfl ?_
    refine rd_box (by kernel_rfl) (h.box.up h14') (i := 1) rfl rfl ?_
    refine at_int tyI (by kernel_rfl) (h.sl.up h14') rfl (by omega) fun x hx => ?_
    refine rdp_rem (by omega) ?_
    have b1 := Int.tmod_lt_of_pos x (show 0 < n by omega)
    have b2 := Int.lt_tmod_of_pos x (show 0 < n by omega)
    refine br_dec (fun e2 => ?_) (fun e2 => hK _ _ ⟨⟨by dsimp only; omega, by dsimp only; omega⟩, h14'⟩)
    refine z_i64 (by omega) ?_
    exact hK _ _ ⟨⟨by dsimp only; omega, by dsimp only; omega⟩, h14'⟩
  · obtain ⟨x, _⟩ := s
    obtain ⟨hx, hb⟩ := hh
    refine nn_mk rfl ?_
    refine rd_box (by kernel_rfl) (h.box.up hb) (i := 1) rfl rfl ?_
    refine z_i64 (by omega) ?_
    refine nn_mk rfl ?_
    refine wu_boxi (h.box.up hb) (by kernel_rfl) (by simp) rfl fun w8 X hg _ => ?_
    have X' : Box w8 tb [.slice l.1 l.2.1 l.2.2, .int .i64 ((p + 1 : Nat) : Int)] := X
    exact ⟨x, rfl, hx, ⟨X', Sl.xg (h.sl.up hb) hg (fun ad ha hx => by have := h.old ad ha (by rintro rfl; exact hx rfl); omega), h.old, h.i64⟩, (grown_of_bel hb _).trans hg⟩
theorem tape_new {w w' : World} {tb : Addr} {l : Hdr} {L : List Int} (S : Sl w l.1 l.2.1 l.2.2 1 (ints .i64 L)) (hI : ∀ x ∈ L, I64 x) (X : Box w' tb [.slice l.1 l.2.1 l.2.2, .int .i64 0]) (hb : bel w w') (hn : tb.block = w.heap.size) : Tape w' tb l L 0 :=
  ⟨X, S.up hb, fun ad ha hx => by have := S.lt ad ha (by intro e; cases L with | nil => exact hx rfl | cons x L => cases e); omega, hI⟩
theorem Tape.put {w w' : World} {tb : Addr} {l : Hdr} {L : List Int} {p : Nat} {o : Option Nat} (h : Tape w tb l L p) (hg : w.grownBy w' o) (ho : ∀ k, o = some k → tb.block < k) : Tape w' tb l L p :=
  ⟨h.box.grown hg (fun e => by have := ho _ e.symm; omega), h.sl.grown hg (fun ad ha hx e => by have := h.old ad ha (by rintro rfl; exact hx rfl); have := ho _ e.symm; omega), h.old, h.i64⟩
end Go.Proofs.Ytphgmfjinihgaaa

/- The grids that are made from a tape. -/

namespace Go.Proofs.Ytphgmfjinihgaaa
open Go.RowKit Go.Q Go.V

/-- a table that one owns -/
structure OT (w : World) (b0 : Nat) (h : Hdr) (hs : List Hdr) (T : List (List Int)) : Prop where
  th : Own w b0 22 1 h.1 h.2.1 h.2.2 (hs.map hv)
  len : hs.length = T.length
  rows : ∀ (i : Nat) (x : Hdr) (r : List Int), hs[i]? = some x → T[i]? = some r → OwnI w b0 x r
section
variable {w w' : World} {b0 : Nat} {h : Hdr} {hs : List Hdr} {T : List (List Int)}
theorem OT.tab (H : OT w b0 h hs T) : TabI .i64 w h T := ⟨⟨hs, H.th.sl, H.len, fun i x r hx hr => (H.rows i x r hx hr).sl⟩⟩
theorem OT.hl (H : OT w b0 h hs T) : T.length = h.2.1 := H.tab.len
theorem OT.up (H : OT w b0 h hs T) (hb : bel w w') : OT w' b0 h hs T := ⟨Own.kept H.th hb, H.len, fun i x r hx hr => Own.kept (H.rows i x r hx hr) hb⟩
theorem OT.xg {b : Nat} (H : OT w b0 h hs T) (hg : w.grownBy w' (some b)) (hb : b < b0) : OT w' b0 h hs T := ⟨Own.xg H.th hg hb, H.len, fun i x r hx hr => Own.xg (H.rows i x r hx hr) hg hb⟩
theorem OT.row (H : OT w b0 h hs T) {i : Nat} {x : Hdr} (hx : hs[i]? = some x) : ∃ r, T[i]? = some r ∧ OwnI w b0 x r := by
  have hi : i < T.length := by rw [← H.len]; exact (List.getElem?_eq_some_iff.1 hx).1
  exact ⟨T[i], List.getElem?_eq_getElem hi, H.rows i x _ hx (List.getElem?_eq_getElem hi)⟩
theorem OT.keptBy {o : Option Nat} (H : OT w b0 h hs T) (hg : w.grownBy w' o) (hh : ∀ k, blk h.1 = some k → o ≠ some k) (hr : ∀ (i : Nat) (x : Hdr) (k : Nat), hs[i]? = some x → blk x.1 = some k → o ≠ some k) : OT w' b0 h hs T := by
  have key : ∀ {a : Option Addr}, (∀ k, blk a = some k → o ≠ some k) → blk a = none ∨ blk a ≠ o := fun {a} q => by
    cases hk : blk a with
    | none => exact .inl rfl
    | some k => exact .inr fun e => q k hk e.symm
  exact ⟨Own.keptBy H.th hg (key hh), H.len, fun i x r hx hr' => Own.keptBy (H.rows i x r hx hr') hg (key fun k hk => hr i x k hx hk)⟩
/-- a table's rows do not lie in its own block, nor in another table's -/
theorem OT.apart {w : World} {b1 b2 : Nat} {h2 : Hdr} {hs2 : List Hdr} {T2 : List (List Int)} {a : Option Addr} {n c : Nat} {xs : List Value} (H : OT w b2 h2 hs2 T2) (O : Own w b1 22 1 a n c xs) {i : Nat} {x : Hdr} {k : Nat} (hx : hs2[i]? = some x) (hk : blk x.1 = some k) : blk a ≠ some k := fun e => by
  obtain ⟨r, _, q⟩ := H.row hx
  exact Own.apart O q (by decide) k e hk
theorem OT.snoc {h' x : Hdr} {r : List Int} (H : OT w b0 h hs T) (th : Own w b0 22 1 h'.1 h'.2.1 h'.2.2 ((hs ++ [x]).map hv)) (hr : OwnI w b0 x r) : OT w b0 h' (hs ++ [x]) (T ++ [r]) := by
  refine ⟨th, by simp [H.len], fun i y q hy hq => ?_⟩
  rcases Nat.lt_or_ge i hs.length with z | z
  · rw [List.getElem?_append_left z] at hy
    rw [List.getElem?_append_left (by rw [← H.len]; exact z)] at hq
    exact H.rows i y q hy hq
  · rw [List.getElem?_append_right z] at hy
    rw [List.getElem?_append_right (by rw [← H.len]; exact z)] at hq
    have e : i - hs.length = 0 := by
      rcases Nat.eq_zero_or_pos (i - hs.length) with e | e
      · exact e
      · rw [List.getElem?_eq_none (by simp; omega)] at hy; cases hy
    rw [← H.len, e] at hq
    rw [e] at hy
    cases hy; cases hq; exact hr
end
/-- the rows of two tables are apart -/
structure AP (hsT hsB : List Hdr) : Prop where
  tb : ∀ (i j : Nat) (x y : Hdr) (k : Nat), hsT[i]? = some x → hsB[j]? = some y → blk x.1 = some k → blk y.1 ≠ some k
  bb : ∀ (i j : Nat) (x y : Hdr) (k : Nat), i ≠ j → hsB[i]? = some x → hsB[j]? = some y → blk x.1 = some k → blk y.1 ≠ some k
theorem snoc_at {α : Type} {l : List α} {a x : α} {i : Nat} (h : (l ++ [a])[i]? = some x) : (i < l.length ∧ l[i]? = some x) ∨ (i = l.length ∧ x = a) := by
  rcases Nat.lt_or_ge i l.length with z | z
  · rw [List.getElem?_append_left z] at h; exact .inl ⟨z, h⟩
  · rw [List.getElem?_append_right z] at h
    have e : i - l.length = 0 := by
      rcases Nat.eq_zero_or_pos (i - l.length) with e | e
      · exact e
      · rw [List.getElem?_eq_none (by simp; omega)] at h; cases h
    rw [e] at h; cases h
    exact .inr ⟨by omega, rfl⟩
theorem AP.snoc {hsT hsB : List Hdr} (A : AP hsT hsB) {x y : Hdr} {N : Nat} (o1 : ∀ (i : Nat) (z : Hdr) (k : Nat), hsT[i]? = some z → blk z.1 = some k → k < N) (o2 : ∀ (i : Nat) (z : Hdr) (k : Nat), hsB[i]? = some z → blk z.1 = some k → k < N) (n1 : ∀ k, blk x.1 = some k → N ≤ k) (n2 : ∀ k, blk y.1 = some k → N ≤ k) (hne : ∀ k, blk x.1 = some k → blk y.1 ≠ some k) : AP (hsT ++ [x]) (hsB ++ [y]) := by
  refine ⟨fun i j a b k ha hb hk e => ?_, fun i j a b k hij ha hb hk e => ?_⟩
  · rcases snoc_at ha with ⟨_, ha⟩ | ⟨_, qa⟩ <;> rcases snoc_at hb with ⟨_, hb⟩ | ⟨_, qb⟩
    · exact A.tb i j a b k ha hb hk e
    · rw [qb] at e; have := o1 i a k ha hk; have := n2 k e; omega
    · rw [qa] at hk; have := o2 j b k hb e; have := n1 k hk; omega
    · rw [qa] at hk; rw [qb] at e; exact hne k hk e
  · rcases snoc_at ha with ⟨_, ha⟩ | ⟨ea, qa⟩ <;> rcases snoc_at hb with ⟨_, hb⟩ | ⟨eb, qb⟩
    · exact A.bb i j a b k hij ha hb hk e
    · rw [qb] at e; have := o2 i a k ha hk; have := n2 k e; omega
    · rw [qa] at hk; have := o2 j b k hb e; have := n2 k hk; omega
    · omega
/-- what is made -/
structure MadeP (R C : List Int) (B T : List (List Int)) : Prop where
  r0 : 0 < R.length
  r5 : R.length ≤ 5
  c0 : 0 < C.length
  c5 : C.length ≤ 5
  lT : T.length = R.length
  lB : B.length = R.length
  rT : ∀ q ∈ T, q.length = C.length
  rB : ∀ q ∈ B, q.length = C.length
  bR : ∀ x ∈ R, 0 ≤ x ∧ x ≤ 30
  bC : ∀ x ∈ C, 0 ≤ x ∧ x ≤ 30
  bT : ∀ q ∈ T, ∀ x ∈ q, 0 ≤ x ∧ x ≤ 4
  bB : ∀ q ∈ B, ∀ x ∈ q, 0 ≤ x ∧ x ≤ 6
  sum : S R.length (g1 R) = S C.length (g1 C)
theorem MadeP.valid {R C : List Int} {B T : List (List Int)} (M : MadeP R C B T) : ValidP R C B :=
  ⟨M.r0, M.c0, by have := M.r5; omega, by have := M.c5; omega, M.lB, M.rB, fun x hx => by have := M.bR x hx; omega, fun x hx => by have := M.bC x hx; omega, fun q hq x hx => by have := M.bB q hq x hx; omega⟩
/-- memory while a grid is made -/
structure MM (w w' : World) (b0 : Nat) (x1 x9 tb : Addr) (l : Hdr) (L : List Int) (c9 : List Value) (lh bh : Hdr) (hsT hsB : List Hdr) (Tl Bl : List (List Int)) (p : Nat) : Prop where
  t : Tape w' tb l L p
  g : w.grownBy w' (some tb.block)
  X1 : Box w' x1 [.slice none 0 0, .slice none 0 0, .slice none 0 0]
  X9 : Box w' x9 c9
  T : OT w' b0 lh hsT Tl
  B : OT w' b0 bh hsB Bl
section
variable {w w1 w2 : World} {b0 : Nat} {x1 x9 tb : Addr} {l : Hdr} {L : List Int} {c9 : List Value} {lh bh : Hdr} {hsT hsB : List Hdr} {Tl Bl : List (List Int)} {p : Nat}
theorem MM.up (H : MM w w1 b0 x1 x9 tb l L c9 lh bh hsT hsB Tl Bl p) (h : bel w1 w2) : MM w w2 b0 x1 x9 tb l L c9 lh bh hsT hsB Tl Bl p :=
  ⟨H.t.up h, H.g.trans (grown_of_bel h _), H.X1.up h, H.X9.up h, H.T.up h, H.B.up h⟩
theorem MM.next {p' : Nat} (H : MM w w1 b0 x1 x9 tb l L c9 lh bh hsT hsB Tl Bl p) (h1 : tb.block ≠ x1.block) (h2 : tb.block ≠ x9.block) (h3 : tb.block < b0) (t : Tape w2 tb l L p') (hg : w1.grownBy w2 (some tb.block)) : MM w w2 b0 x1 x9 tb l L c9 lh bh hsT hsB Tl Bl p' :=
  ⟨t, H.g.trans hg, H.X1.xg hg h1.symm, H.X9.xg hg h2.symm, H.T.xg hg h3, H.B.xg hg h3⟩
/-- something new is written -/
theorem MM.new {o : Option Nat} (H : MM w w1 b0 x1 x9 tb l L c9 lh bh hsT hsB Tl Bl p) (hg : w1.grownBy w2 o) {N : Nat} (ho : ∀ k, o = some k → N ≤ k) (hw : w.heap.size ≤ N) (ht : tb.block < N) (h1 : x1.block < N) (h9 : x9.block < N) (hT : ∀ k, blk lh.1 = some k → k < N) (hB : ∀ k, blk bh.1 = some k → k < N) (hTr : ∀ (i : Nat) (x : Hdr) (k : Nat), hsT[i]? = some x → blk x.1 = some k → k < N) (hBr : ∀ (i : Nat) (x : Hdr) (k : Nat), hsB[i]? = some x → blk x.1 = some k → k < N) :
    MM w w2 b0 x1 x9 tb l L c9 lh bh hsT hsB Tl Bl p :=
  ⟨H.t.put hg (fun k hk => by have := ho k hk; omega), xg_put H.g hg (fun k hk => .inl (by have := ho k hk; omega)), H.X1.grown hg (fun e => by have := ho _ e.symm; omega), H.X9.grown hg (fun e => by have := ho _ e.symm; omega), H.T.keptBy hg (fun k hk e => by have := ho k e; have := hT k hk; omega) (fun i x k hx hk e => by have := ho k e; have := hTr i x k hx hk; omega), H.B.keptBy hg (fun k hk e => by have := ho k e; have := hB k hk; omega) (fun i x k hx hk e => by have := ho k e; have := hBr i x k hx hk; omega)⟩
end
theorem min0 {n : Int} {k : Int → Prop} (h : k (max 0 n)) : z (if n > 0 then n else 0) k := by
  unfold z
  rw [show (if n > 0 then n else 0) = max 0 n by split <;> omega]; exact h
abbrev rMD : RS := .many [.agg [.slice, .slice, .slice], .one .slice]
abbrev MD := (Hdr × Hdr × Hdr × Unit) × Hdr × Unit
/-- what made returns -/
def MadeR (w : World) (tb : Addr) (l : Hdr) (L : List Int) (p0 : Nat) (x : MD) (w' : World) : Prop :=
  ∃ R C B T hsT hsB p, MadeP R C B T ∧ OwnI w' w.heap.size x.1.1 R ∧ OwnI w' w.heap.size x.1.2.1 C ∧ OT w' w.heap.size x.1.2.2.1 hsB B ∧ OT w' w.heap.size x.2.1 hsT T ∧ AP hsT hsB ∧ Tape w' tb l L p ∧ p ≤ p0 + 200 ∧ w.grownBy w' (some tb.block)
theorem own_base {w : World} {B B' : Nat} {e : TypeId} {sz : Nat} {a : Option Addr} {n c : Nat} {xs : List Value} (O : Own w B e sz a n c xs) (h : B' ≤ B) : Own w B' e sz a n c xs := by
  refine ⟨O.1, ?_⟩
  rcases O.2 with q | ⟨g, cap, cur, q1, q2, q3⟩
  · exact .inl q
  · exact .inr ⟨g, cap, cur, q1, by omega, q3⟩
theorem own_keep {w w' : World} {B : Nat} {e : TypeId} {sz : Nat} {a : Option Addr} {n c : Nat} {xs : List Value} {o : Option Nat} (O : Own w B e sz a n c xs) (hg : w.grownBy w' o) (h : ∀ k, blk a = some k → o ≠ some k) : Own w' B e sz a n c xs :=
  Own.keptBy O hg (by
    cases hk : blk a with
    | none => exact .inl rfl
    | some k => exact .inr fun e => h k hk e.symm)
theorem OT.base {w : World} {b0 b1 : Nat} {h : Hdr} {hs : List Hdr} {T : List (List Int)} (H : OT w b0 h hs T) (hb : b1 ≤ b0) : OT w b1 h hs T := ⟨own_base H.th hb, H.len, fun i x r hx hr => own_base (H.rows i x r hx hr) hb⟩
theorem S_swap2 {n m : Nat} {T : List (List Int)} : (S n fun i => S m (g2 T i)) = S m fun k => S n fun i => g2 T i k := S_swap n m (g2 T)
set_option maxHeartbeats 3200000 in
theorem madeF {w : World} {tb : Addr} {l : Hdr} {L : List Int} {p0 : Nat} (ht : Tape w tb l L p0) (hp0 : p0 ≤ 1000) :
    call Try.prog 18 [.pointer (some tb)] rMD w (MadeR w tb l L p0) := by
  refine call_of (S18_calls (some tb) w _ ?_)
  unfold S18
  have htb := ht.box.lt
  refine wr_alloc (z := .agg #[.slice none 0 0, .slice none 0 0, .slice none 0 0]) (by kernel_rfl) fun x1 w2 X1 h2 ex1 _ => ?_
  replace X1 : Box w2 x1 [.slice none 0 0, .slice none 0 0, .slice none 0 0] := X1
  refine call_mono (nextF 5 (ht.up h2) (by omega) (by omega)) ?_
  rintro (x3 : Int) w4 ⟨hx3, ht, g4⟩
  refine z_i64 (by omega) ?_
  refine call_mono (nextF 5 ht (by omega) (by omega)) ?_
  rintro (x6 : Int) w7 ⟨hx6, ht, g7⟩
  refine z_i64 (by omega) ?_
  obtain ⟨n, hn⟩ : ∃ n : Nat, 1 + x3 = (n : Int) := ⟨(1 + x3).toNat, by omega⟩
  obtain ⟨m, hm⟩ : ∃ m : Nat, 1 + x6 = (m : Int) := ⟨(1 + x6).toNat, by omega⟩
  rw [hn, hm]
  have g07 : w.grownBy w7 (some tb.block) := ((grown_of_bel h2 _).trans g4).trans g7
  have s2 := h2.size
  have s4 := g4.size
  have s7 := g7.size
  replace X1 := (X1.xg g4 (by omega)).xg g7 (by omega)
  have lX1 := X1.lt
  refine wr_alloc (z := .agg #[.slice none 0 0, .slice none 0 0, .slice none 0 0]) (by kernel_rfl) fun x9 w10 X9 h10 ex9 s10 => ?_
  replace X9 : Box w10 x9 (grc (none, 0, 0) (none, 0, 0) (none, 0, 0)) := X9
  generalize hb0 : w10.heap.size = b0
  have k1 : tb.block ≠ x1.block := by omega
  have k2 : tb.block ≠ x9.block := by omega
  have k3 : tb.block < b0 := by omega
  have k4 : x1.block < b0 := by omega
  have k5 : x9.block < b0 := by omega
  have k6 : w.heap.size ≤ b0 := by omega
  refine loop_upA n (fun i lh w' => ∃ bh hsT hsB Tl Bl p, MM w w' b0 x1 x9 tb l L (grc (none, 0, 0) (none, 0, 0) bh) lh bh hsT hsB Tl Bl p ∧ AP hsT hsB ∧ (∀ k, blk lh.1 = some k → blk bh.1 ≠ some k) ∧ p ≤ p0 + 2 + i * 15 ∧ b0 ≤ w'.heap.size ∧ Tl.length = i ∧ Bl.length = i ∧ (∀ q ∈ Tl, q.length = m ∧ ∀ x ∈ q, 0 ≤ x ∧ x ≤ 4) ∧ ∀ q ∈ Bl, q.length = m ∧ ∀ x ∈ q, 0 ≤ x ∧ x ≤ 6)
    ⟨(none, 0, 0), [], [], [], [], p0 + 1 + 1, ⟨ht.up h10, g07.trans (grown_of_bel h10 _), X1.up h10, X9, ⟨Own.nil _ _ _ _, rfl, fun i x r hx => by simp at hx⟩, ⟨Own.nil _ _ _ _, rfl, fun i x r hx => by simp at hx⟩⟩, ⟨fun i j x y k hx => by simp at hx, fun i j x y k _ hx => by simp at hx⟩, (fun k hk => by cases hk), by omega, by omega, rfl, rfl, by simp, by simp⟩ fun i lh w13 hi ⟨bh, hsT, hsB, Tl, Bl, p, H, A, hA, hp, hw13, lTl, lBl, pT, pB⟩ again hag _ => ?_
  refine br_dec (fun e => ?_) (fun e => ?_)
  · dsimp only at e
    have hin : i < n := by omega
    have i15 : i * 15 ≤ 75 := by omega
    refine loop_gh (G := Nat × List Int × List Int × Nat) (fun g s w' => s.2.2 = ((g.1 : Int), ()) ∧ g.1 ≤ m ∧ MM w w' b0 x1 x9 tb l L (grc (none, 0, 0) (none, 0, 0) bh) lh bh hsT hsB Tl Bl g.2.2.2 ∧ w13.heap.size ≤ w'.heap.size ∧ OwnI w' w13.heap.size s.1 g.2.1 ∧ OwnI w' w13.heap.size s.2.1 g.2.2.1 ∧ (∀ k, blk s.1.1 = some k → blk s.2.1.1 ≠ some k) ∧ g.2.1.length = g.1 ∧ g.2.2.1.length = g.1 ∧ (∀ x ∈ g.2.1, 0 ≤ x ∧ x ≤ 4) ∧ (∀ x ∈ g.2.2.1, 0 ≤ x ∧ x ≤ 6) ∧ g.2.2.2 ≤ p + g.1 * 3) (fun g => m - g.1) (0, [], [], p)
      ⟨rfl, Nat.zero_le _, H, Nat.le_refl _, Own.nil _ _ _ _, Own.nil _ _ _ _, (fun k hk => by cases hk), rfl, rfl, by simp, by simp, Nat.le_refl _⟩ ?_
    have oT : ∀ k, blk lh.1 = some k → k < w13.heap.size := fun k hk => (H.T.th.lt k hk).2
    have oB : ∀ k, blk bh.1 = some k → k < w13.heap.size := fun k hk => (H.B.th.lt k hk).2
    have oTr : ∀ (i : Nat) (x : Hdr) (k : Nat), hsT[i]? = some x → blk x.1 = some k → k < w13.heap.size := fun i x k hx hk => by obtain ⟨r, _, q⟩ := H.T.row hx; exact (q.lt k hk).2
    have oBr : ∀ (i : Nat) (x : Hdr) (k : Nat), hsB[i]? = some x → blk x.1 = some k → k < w13.heap.size := fun i x k hx hk => by obtain ⟨r, _, q⟩ := H.B.row hx; exact (q.lt k hk).2
    have hw0 : w.heap.size ≤ w13.heap.size := by omega
    clear H
    rintro ⟨k, row, bd, p1⟩ ⟨rh, dh, s⟩ w16 ⟨rfl, hk, H, s16, Or, Ob, hne, lr, lb, br, bb, hp1⟩ again2 hag2 _
    dsimp only at hk H Or Ob hne lr lb br bb hp1 hag2
    have lr' := Or.len
    have lb' := Ob.len
    refine br_dec (fun e => ?_) (fun e => ?_)
    · dsimp only at e
      have hkm : k < m := by omega
      have k3' : k * 3 ≤ 15 := by omega
      refine call_mono (nextF 5 H.t (by omega) (by omega)) ?_
      rintro (x17 : Int) w18 ⟨hx17, t18, g18⟩
      replace H := H.next k1 k2 k3 t18 g18
      replace Or : OwnI w18 w13.heap.size rh row := Own.xg Or g18 (by omega)
      replace Ob : OwnI w18 w13.heap.size dh bd := Own.xg Ob g18 (by omega)
      have s18 := g18.size
      refine wr_app1 tyI Or (by omega) rfl (by omega) (by omega) rfl rfl (by omega) (by unfold maxLen; omega) fun a' c' w22 Or' g22 n22 s22 => ?_
      have ln : ∀ b, blk rh.1 = some b → w13.heap.size ≤ b := fun b hb => (Or.lt b hb).1
      replace H := H.new g22 ln hw0 (by omega) (by omega) (by omega) oT oB oTr oBr
      have Ob' : OwnI w22 w13.heap.size dh bd := Own.keptBy Ob g22 (by
        cases hb : blk dh.1 with
        | none => exact .inl rfl
        | some b => exact .inr fun q => hne b q.symm hb)
      have ne22 : ∀ b, blk a' = some b → blk dh.1 ≠ some b := fun b hb e => by
        rcases n22 with q | q
        · exact hne b (by rw [← q]; exact hb) e
        · have := q b hb; have := (Ob.lt b e).2; omega
      refine call_mono (nextF 3 H.t (by omega) (by omega)) ?_
      rintro (x23 : Int) w24 ⟨hx23, t24, g24⟩
      replace H := H.next k1 k2 k3 t24 g24
      refine z_i64 (by omega) ?_
      refine call_mono (nextF 2 t24 (by omega) (by omega)) ?_
      rintro (x26 : Int) w27 ⟨hx26, t27, g27⟩
      replace H := H.next k1 k2 k3 t27 g27
      have s24 := g24.size
      have s27 := g27.size
      refine z_i64 (by omega) ?_
      refine min0 ?_
      have Or27 := Own.xg (Own.xg Or' g24 (by omega)) g27 (by omega)
      have Ob27 : OwnI w27 w13.heap.size dh bd := Own.xg (Own.xg Ob' g24 (by omega)) g27 (by omega)
      refine wr_app1 tyI Ob27 (by omega) rfl (by omega) (by omega) rfl rfl (by omega) (by unfold maxLen; omega) fun a2 c2 w33 Ob33 g33 n33 s33 => ?_
      have ln2 : ∀ b, blk dh.1 = some b → w13.heap.size ≤ b := fun b hb => (Ob27.lt b hb).1
      replace H := H.new g33 ln2 hw0 (by omega) (by omega) (by omega) oT oB oTr oBr
      have Or33 := Own.keptBy Or27 g33 (by
        cases hb : blk a' with
        | none => exact .inl rfl
        | some b => exact .inr fun q => ne22 b hb q.symm)
      refine z_i64 (by dsimp only; omega) ?_
      refine hag2 (k + 1, row ++ [x17], bd ++ [max 0 (x17 + x23 - x26)], p1 + 1 + 1 + 1) _ _ ⟨rfl, hkm, H, by omega, ?_, ?_, fun b hb e => ?_, by simp [lr], by simp [lb], fun x hx => ?_, fun x hx => ?_, by dsimp only; omega⟩ (by dsimp only; omega)
      · show Own w33 _ _ 1 a' (rh.2.1 + 1) c' (ints .i64 (row ++ [x17]))
        rw [← ints_add]; exact Or33
      · show Own w33 _ _ 1 a2 (dh.2.1 + 1) c2 (ints .i64 (bd ++ [_]))
        rw [← ints_add]; exact Ob33
      · rcases n33 with q | q
        · exact ne22 b hb (by rw [← q]; exact e)
        · have := q b e; have := (Or27.lt b hb).2; omega
      · rcases List.mem_append.1 hx with hx | hx
        · exact br x hx
        · simp at hx; subst hx; omega
      · rcases List.mem_append.1 hx with hx | hx
        · exact bb x hx
        · simp at hx; subst hx; omega
    dsimp only at e
    have hkm : k = m := by omega
    subst hkm
    clear hag2 again2
    refine drw_mk fun w35 h35 s35 => ?_
    replace H := H.up h35
    replace Or : OwnI w35 w13.heap.size rh row := Own.kept Or h35
    replace Ob : OwnI w35 w13.heap.size dh bd := Own.kept Ob h35
    have rB : ∀ j, blk rh.1 = some j → w13.heap.size ≤ j ∧ j < w35.heap.size := Or.lt
    have dB : ∀ j, blk dh.1 = some j → w13.heap.size ≤ j ∧ j < w35.heap.size := Ob.lt
    have lB0 : ∀ j, blk lh.1 = some j → b0 ≤ j := fun j hj => (H.T.th.lt j hj).1
    have bB0 : ∀ j, blk bh.1 = some j → b0 ≤ j := fun j hj => (H.B.th.lt j hj).1
    have hlT := H.T.hl
    have hlB := H.B.hl
    refine flExC_mk (Xb fun j => blk lh.1 = some j) (fun jj w w' => jj ≠ 3 → bel w w') (fun D w' => D 3 = false → Own w' b0 22 1 lh.1 lh.2.1 lh.2.2 (hsT.map hv))
      (fun i' _ v w' => (i' = 2 → ∃ ad : Addr, v = .slice (some ad) 1 1 ∧ Sl w' (some ad) 1 1 1 [hv rh] ∧ w35.heap.size ≤ ad.block) ∧ (i' = 7 → ∃ ad : Addr, v = .slice (some ad) 1 1 ∧ Sl w' (some ad) 1 1 1 [hv dh] ∧ w35.heap.size ≤ ad.block) ∧
        (i' = 3 → ∃ a' c', v = .slice a' (lh.2.1 + 1) c' ∧ Own w' b0 22 1 a' (lh.2.1 + 1) c' ((hsT ++ [rh]).map hv) ∧ (blk a' = blk lh.1 ∨ ∀ j, blk a' = some j → w35.heap.size ≤ j)))
      (fun w => Xb.refl _ w) (fun _ _ _ x y => Xb.trans x y) (fun i' jj ags v w w' hne hΦ hE hG => ⟨fun e => ?_, fun e => ?_, fun e => ?_⟩) (fun _ => H.T.th) ?_
    · obtain ⟨ad, q1, q2, q3⟩ := hΦ.1 e
      exact ⟨ad, q1, q2.xb hE (fun ad' ha _ q => by cases ha; have := oT _ q; omega), q3⟩
    · obtain ⟨ad, q1, q2, q3⟩ := hΦ.2.1 e
      exact ⟨ad, q1, q2.xb hE (fun ad' ha _ q => by cases ha; have := oT _ q; omega), q3⟩
    · obtain ⟨a', c', q1, q2, q3⟩ := hΦ.2.2 e
      exact ⟨a', c', q1, Own.kept q2 (hG (fun q => hne (e.trans q.symm))), q3⟩
    have xbel : ∀ {w w' : World}, bel w w' → Xb (fun j => blk lh.1 = some j) w w' := fun hb => Xb.of (grown_of_bel hb none) (fun k hk => by cases hk)
    refine flcC_mk (fun D w' hD hE hS _ => ?_) (fun (x45 : Hdr) => ?_)
    · refine wr_lit tyT #[hv rh] (fill_one 1 (hv rh) _ rfl (by simp)) (by omega) (by omega) rfl (by unfold maxLen; omega) fun ad w'' O' hb hbl _ => ?_
      exact ⟨xbel hb, fun _ => hb, fun q => Own.kept (hS (by rw [setD_ne (by decide)] at q; exact q)) hb, ⟨fun _ => ⟨ad, rfl, (O' w'.heap.size (Nat.le_refl _)).sl, by have := hE.size; omega⟩, fun e => by omega, fun e => by omega⟩⟩
    refine flcC_mk (fun D w' hD hE hS hf => ?_) (fun (x51 : Hdr) => ?_)
    · obtain ⟨ad, ev, Sr, _⟩ := hf.1.1 rfl
      have ev : x45 = (some ad, 1, 1) := sl_inj ev
      subst ev
      have OR' := hS hD
      refine wr_app tyT OR' Sr (by have := hE.size; omega) rfl (by omega) rfl (by omega) (by unfold maxLen; omega) fun a' c' w'' O' hg hnew _ => ?_
      refine ⟨Xb.of hg (fun k hk => hk), fun q => absurd rfl q, (fun q => by rw [setD_self] at q; cases q), ⟨fun e => by omega, fun e => by omega, fun _ => ⟨a', c', rfl, ?_, ?_⟩⟩⟩
      · rw [List.map_append]; exact O'
      · rcases hnew with q | q
        · exact .inl q
        · exact .inr fun k hk => by have := q k hk; have := hE.size; omega
    refine rdE_box (by kernel_rfl) (fun w' hE => H.X9.xb hE.1 (fun q => by have := lB0 _ q; omega)) (i := 2) rfl rfl ?_
    refine flcC_mk (fun D w' hD hE hS _ => ?_) (fun (x58 : Hdr) => ?_)
    · refine wr_lit tyT #[hv dh] (fill_one 1 (hv dh) _ rfl (by simp)) (by omega) (by omega) rfl (by unfold maxLen; omega) fun ad w'' O' hb hbl _ => ?_
      exact ⟨xbel hb, fun _ => hb, fun q => Own.kept (hS (by rw [setD_ne (by decide)] at q; exact q)) hb, ⟨fun e => by omega, fun _ => ⟨ad, rfl, (O' w'.heap.size (Nat.le_refl _)).sl, by have := hE.size; omega⟩, fun e => by omega⟩⟩
    refine flendC_mk fun w59 hE _ hf => ?_
    obtain ⟨f7, f3, _⟩ := hf
    obtain ⟨ad7, q7, S7, _⟩ := f7.2.1 rfl
    obtain ⟨aT, cT, q3, OT59, hT59⟩ := f3.2.2 rfl
    have q7 : x58 = (some ad7, 1, 1) := sl_inj q7
    have q3 : x51 = (aT, lh.2.1 + 1, cT) := sl_inj q3
    subst q7 q3
    have g59 : w35.grownBy w59 (blk lh.1) := hE.grown (fun k q _ => q)
    have s59 := g59.size
    have T59 : OT w59 b0 (aT, lh.2.1 + 1, cT) (hsT ++ [rh]) (Tl ++ [row]) := by
      have H0 : OT w59 b0 (aT, lh.2.1 + 1, cT) (hsT ++ [rh]) (Tl ++ [row]) := by
        refine ⟨OT59, by simp [H.T.len], fun i' y q hy hq => ?_⟩
        rcases snoc_at hy with ⟨z, hy⟩ | ⟨z, qy⟩
        · rw [List.getElem?_append_left (by rw [← H.T.len]; exact z)] at hq
          exact own_keep (H.T.rows i' y q hy hq) g59 (fun k hk => H.T.apart H.T.th hy hk)
        · rw [z, H.T.len] at hq
          rw [List.getElem?_append_right (Nat.le_refl _), Nat.sub_self] at hq
          cases hq
          rw [qy]
          exact own_keep (own_base Or (by omega)) g59 (fun k hk e => by have := rB k hk; have := oT k e; omega)
      exact H0
    have B59 := H.B.keptBy g59 (fun k hk e => hA k e hk) (fun i' x k hx hk => H.B.apart H.T.th hx hk)
    have Ob59 : OwnI w59 w13.heap.size dh bd := own_keep Ob g59 (fun k hk e => by have := dB k hk; have := oT k e; omega)
    refine wr_app tyT B59.th S7 (by omega) rfl (by omega) rfl (by omega) (by unfold maxLen; omega) fun aB cB w62 OB62 g62 hB62 s62 => ?_
    have X9' : Box w62 x9 (grc (none, 0, 0) (none, 0, 0) bh) := (H.X9.grown g59 (fun e => by have := lB0 _ e.symm; omega)).grown g62 (fun e => by have := bB0 _ e.symm; omega)
    refine wu_boxi X9' (by kernel_rfl) (show 2 < 3 by omega) rfl fun w63 X63 g63 _ => ?_
    refine z_i64 (by dsimp only; omega) ?_
    have T62 := T59.keptBy g62 (fun k hk e => by
      rcases hT59 with q | q
      · exact hA k (by rw [← q]; exact hk) e
      · have := q k hk; have := oB k e; omega) (fun i' x k hx hk => T59.apart B59.th hx hk)
    have B62 : OT w62 b0 (aB, bh.2.1 + 1, cB) (hsB ++ [dh]) (Bl ++ [bd]) := by
      refine ⟨by rw [List.map_append]; exact OB62, by simp [H.B.len], fun i' y q hy hq => ?_⟩
      rcases snoc_at hy with ⟨z, hy⟩ | ⟨z, qy⟩
      · rw [List.getElem?_append_left (by rw [← H.B.len]; exact z)] at hq
        exact own_keep (B59.rows i' y q hy hq) g62 (fun k hk => B59.apart B59.th hy hk)
      · rw [z, H.B.len] at hq
        rw [List.getElem?_append_right (Nat.le_refl _), Nat.sub_self] at hq
        cases hq
        rw [qy]
        exact own_keep (own_base Ob59 (by omega)) g62 (fun k hk e => by have := dB k hk; have := oB k e; omega)
    have s63 := g63.size
    refine hag _ _ hin ⟨(aB, bh.2.1 + 1, cB), hsT ++ [rh], hsB ++ [dh], Tl ++ [row], Bl ++ [bd], p1, ⟨?_, ?_, ?_, X63, T62.xg g63 k5, B62.xg g63 k5⟩, A.snoc oTr oBr (fun j hj => (rB j hj).1) (fun j hj => (dB j hj).1) hne, fun j hj e => ?_, by omega, by omega, by simp [lTl], by simp [lBl], fun q hq => ?_, fun q hq => ?_⟩
    · exact ((H.t.put g59 (fun j hj => by have := lB0 j hj; omega)).put g62 (fun j hj => by have := bB0 j hj; omega)).put g63 (fun j hj => by cases hj; omega)
    · exact xg_put (xg_put (xg_put H.g g59 (fun j hj => .inl (by have := lB0 j hj; omega))) g62 (fun j hj => .inl (by have := bB0 j hj; omega))) g63 (fun j hj => .inl (by cases hj; omega))
    · exact ((H.X1.grown g59 (fun e => by have := lB0 _ e.symm; omega)).grown g62 (fun e => by have := bB0 _ e.symm; omega)).xg g63 (by omega)
    · rcases hB62 with q | q
      · rcases hT59 with q' | q'
        · exact hA j (by rw [← q']; exact hj) (by rw [← q]; exact e)
        · have := q' j hj; have := oB j (by rw [← q]; exact e); omega
      · have := q j e; have := (OT59.lt j hj).2; omega
    · rcases List.mem_append.1 hq with hq | hq
      · exact pT q hq
      · simp at hq; subst hq; exact ⟨lr, br⟩
    · rcases List.mem_append.1 hq with hq | hq
      · exact pB q hq
      · simp at hq; subst hq; exact ⟨lb, bb⟩
  · dsimp only at e
    have hin : i = n := by omega
    subst hin
    clear hag again
    have oT : ∀ k, blk lh.1 = some k → k < w13.heap.size := fun k hk => (H.T.th.lt k hk).2
    have oB : ∀ k, blk bh.1 = some k → k < w13.heap.size := fun k hk => (H.B.th.lt k hk).2
    have oTr : ∀ (i : Nat) (x : Hdr) (k : Nat), hsT[i]? = some x → blk x.1 = some k → k < w13.heap.size := fun i x k hx hk => by obtain ⟨r, _, q⟩ := H.T.row hx; exact (q.lt k hk).2
    have oBr : ∀ (i : Nat) (x : Hdr) (k : Nat), hsB[i]? = some x → blk x.1 = some k → k < w13.heap.size := fun i x k hx hk => by obtain ⟨r, _, q⟩ := H.B.row hx; exact (q.lt k hk).2
    have hw0 : w.heap.size ≤ w13.heap.size := by omega
    have hT0 : Tl[0]? = some (Tl[0]'(by omega)) := List.getElem?_eq_getElem (by omega)
    have hwd : wd Tl = m := by rw [wd_at hT0]; exact (pT _ (mem_at hT0)).1
    have MO : MargOk Tl m := ⟨by omega, by omega, by omega, by omega, fun q hq => (pT q hq).1, fun q hq x hx => by have := (pT q hq).2 x hx; omega⟩
    refine call_mono (marg21O lh Tl w13 H.T.tab) ?_
    rintro (x65 : MT) w66 ⟨hMO, h66⟩
    replace H := H.up h66
    have hok : x65.2.2.1 = true := by
      cases q : x65.2.2.1 with
      | true => rfl
      | false => exact absurd (by rw [hwd]; exact MO) (hMO.2 q).1
    obtain ⟨_, OR, OC, hne⟩ := hMO.1 hok
    rw [hwd, rsums_mk, lTl] at OR
    rw [hwd, csums_mk, lTl] at OC
    have s66 := h66.size
    refine wu_box H.X9 (by kernel_rfl) (show 1 ≤ 3 by omega) rfl fun w67 X67 g67 _ => ?_
    refine wu_boxi (i := 1) X67 (by kernel_rfl) (show 1 < 3 by omega) rfl fun w68 X68 g68 _ => ?_
    have g6 : w66.grownBy w68 (some x9.block) := g67.trans g68
    replace X68 : Box w68 x9 (grc x65.1 x65.2.1 bh) := X68
    have M68 : MM w w68 b0 x1 x9 tb l L (grc x65.1 x65.2.1 bh) lh bh hsT hsB Tl Bl p := by
      refine ⟨H.t.put g6 (fun j hj => by cases hj; omega), xg_put H.g g6 (fun j hj => .inl (by cases hj; omega)), H.X1.xg g6 (by omega), X68, H.T.xg g6 k5, H.B.xg g6 k5⟩
    replace OR : OwnI w68 w13.heap.size x65.1 _ := Own.xg OR g6 (by omega)
    replace OC : OwnI w68 w13.heap.size x65.2.1 _ := Own.xg OC g6 (by omega)
    have s68 := g6.size
    have bc : ∀ j k, 0 ≤ g2 Tl j k ∧ g2 Tl j k ≤ 4 := fun j k => by
      unfold g2 g1
      rw [List.getD_eq_getElem?_getD, List.getD_eq_getElem?_getD]
      cases hj : Tl[j]? with
      | none => simp
      | some q =>
        simp only [Option.getD_some]
        cases hk : q[k]? with
        | none => simp
        | some x => exact (pT q (mem_at hj)).2 x (mem_at hk)
    have b1 : ∀ j, 0 ≤ S m (g2 Tl j) ∧ S m (g2 Tl j) ≤ 20 := fun j => by
      have q1 := S_nonneg (n := m) (f := g2 Tl j) fun k _ => (bc j k).1
      have q2 := S_bound (n := m) (f := g2 Tl j) (b := 4) fun k _ => (bc j k).2
      omega
    have b2 : ∀ k, 0 ≤ (S i fun j => g2 Tl j k) ∧ (S i fun j => g2 Tl j k) ≤ 20 := fun k => by
      have q1 := S_nonneg (n := i) (f := fun j => g2 Tl j k) fun j _ => (bc j k).1
      have q2 := S_bound (n := i) (f := fun j => g2 Tl j k) (b := 4) fun j _ => (bc j k).2
      omega
    refine join_mk (fun _ w' => ∃ f p, MM w w' b0 x1 x9 tb l L (grc x65.1 x65.2.1 bh) lh bh hsT hsB Tl Bl p ∧ OwnI w' w13.heap.size x65.1 (Go.Proofs.Ytphgmfjinihgaaa.mk i f) ∧ OwnI w' w13.heap.size x65.2.1 (Go.Proofs.Ytphgmfjinihgaaa.mk m fun k => S i fun j => g2 Tl j k) ∧ (∀ j, j < i → 0 ≤ f j ∧ f j ≤ 30) ∧ (S i f = S i fun j => S m (g2 Tl j)) ∧ p ≤ p0 + 150) (fun K hK => ?_) (fun _ w71 hJ _ => ?_)
    · refine call_mono (nextF 6 M68.t (by omega) (by omega)) ?_
      rintro (x75 : Int) w76 ⟨hx75, t76, g76⟩
      have M76 := M68.next k1 k2 k3 t76 g76
      have OR76 : OwnI w76 w13.heap.size x65.1 _ := Own.xg OR g76 (by omega)
      have OC76 : OwnI w76 w13.heap.size x65.2.1 _ := Own.xg OC g76 (by omega)
      have s76 := g76.size
      refine br_eq (fun _ => ?_) (fun _ => hK () _ ⟨_, _, M76, OR76, OC76, fun j _ => by have := b1 j; omega, rfl, by omega⟩)
      refine call_mono (nextF (i : Int) t76 (by omega) (by omega)) ?_
      rintro (x77 : Int) w78 ⟨hx77, t78, g78⟩
      refine call_mono (nextF (i : Int) t78 (by omega) (by omega)) ?_
      rintro (x79 : Int) w80 ⟨hx79, t80, g80⟩
      have M80 := (M76.next k1 k2 k3 t78 g78).next k1 k2 k3 t80 g80
      have OR80 : OwnI w80 w13.heap.size x65.1 _ := Own.xg (Own.xg OR76 g78 (by omega)) g80 (by omega)
      have OC80 : OwnI w80 w13.heap.size x65.2.1 _ := Own.xg (Own.xg OC76 g78 (by omega)) g80 (by omega)
      obtain ⟨a, ha⟩ : ∃ a : Nat, x77 = (a : Int) := ⟨x77.toNat, by omega⟩
      obtain ⟨b, hb⟩ : ∃ b : Nat, x79 = (b : Int) := ⟨x79.toNat, by omega⟩
      have hai : a < i := by omega
      have hbi : b < i := by omega
      have lOR := OR80.len
      rw [mk_len] at lOR
      refine rd_box0 (by kernel_rfl) M80.X9 rfl rfl ?_
      refine int_mk OR80.sl ha (by rw [mk_len]; omega) ?_
      rw [mk_g1 hai]
      refine br_dec (fun ep => ?_) (fun _ => hK () _ ⟨_, _, M80, OR80, OC80, fun j _ => by have := b1 j; omega, rfl, by omega⟩)
      refine rd_box0 (by kernel_rfl) M80.X9 rfl rfl ?_
      refine int_mk OR80.sl ha (by rw [mk_len]; omega) ?_
      rw [mk_g1 hai]
      have ba := b1 a
      refine z_i64 (by omega) ?_
      refine set_mk tyI OR80 ha (show a < x65.1.2.1 by omega) rfl fun w89 O89 g89 _ => ?_
      rw [ints_set, mk_set] at O89
      have lnR : ∀ k, blk x65.1.1 = some k → w13.heap.size ≤ k := fun k hk => (OR80.lt k hk).1
      have M89 := M80.new g89 lnR hw0 (by omega) (by omega) (by omega) oT oB oTr oBr
      have OC89 : OwnI w89 w13.heap.size x65.2.1 _ := own_keep OC80 g89 (fun k hk e => hne k e hk)
      replace O89 : OwnI w89 w13.heap.size x65.1 (Go.Proofs.Ytphgmfjinihgaaa.mk i (up1 (fun j => S m (g2 Tl j)) a (S m (g2 Tl a) - 1))) := O89
      refine rd_box0 (by kernel_rfl) M89.X9 rfl rfl ?_
      refine int_mk O89.sl hb (by rw [mk_len]; omega) ?_
      rw [mk_g1 hbi]
      have bf : ∀ j, 0 ≤ up1 (fun j => S m (g2 Tl j)) a (S m (g2 Tl a) - 1) j ∧ up1 (fun j => S m (g2 Tl j)) a (S m (g2 Tl a) - 1) j ≤ 20 := fun j => by
        unfold up1
        have := b1 j
        split <;> omega
      have bfb := bf b
      refine z_i64 (by omega) ?_
      refine set_mk tyI O89 hb (show b < x65.1.2.1 by omega) rfl fun w95 O95 g95 _ => ?_
      rw [ints_set, mk_set] at O95
      have M95 := M89.new g95 lnR hw0 (by omega) (by omega) (by omega) oT oB oTr oBr
      have OC95 : OwnI w95 w13.heap.size x65.2.1 _ := own_keep OC89 g95 (fun k hk e => hne k e hk)
      refine hK () _ ⟨up1 (up1 (fun j => S m (g2 Tl j)) a (S m (g2 Tl a) - 1)) b (up1 (fun j => S m (g2 Tl j)) a (S m (g2 Tl a) - 1) b + 1), _, M95, O95, OC95, fun j _ => ?_, ?_, by omega⟩
      · have := bf j
        unfold up1 at bfb this ⊢
        split <;> omega
      · rw [S_up1 hbi, S_up1 hai]; omega
    · obtain ⟨f, p, M, OR, OC, bf, hs, hp⟩ := hJ
      refine rd_boxN M.X9 (by kernel_rfl) rfl ?_
      refine wu_box M.X1 (by kernel_rfl) (Nat.le_refl 3) rfl fun w73 X73 g73 _ => ?_
      rw [putAt_full (by rfl)] at X73
      refine rd_boxV X73 (by kernel_rfl) rfl ?_
      refine ⟨((x65.1, x65.2.1, bh, ()), lh, ()), rfl, Go.Proofs.Ytphgmfjinihgaaa.mk i f, _, Bl, Tl, hsT, hsB, p, ⟨by rw [mk_len]; omega, by rw [mk_len]; omega, by rw [mk_len]; omega, by rw [mk_len]; omega, by rw [mk_len]; exact lTl, by rw [mk_len]; exact lBl, fun q hq => by rw [mk_len]; exact (pT q hq).1, fun q hq => by rw [mk_len]; exact (pB q hq).1, fun x hx => ?_, fun x hx => ?_, fun q hq => (pT q hq).2, fun q hq => (pB q hq).2, ?_⟩, own_base (Own.xg OR g73 (by omega)) hw0, own_base (Own.xg OC g73 (by omega)) hw0, (M.B.xg g73 k4).base k6, (M.T.xg g73 k4).base k6, A, M.t.put g73 (fun j hj => by cases hj; omega), by omega, xg_put M.g g73 (fun j hj => .inl (by cases hj; omega))⟩
      · obtain ⟨j, hj, rfl⟩ := List.mem_map.1 hx
        exact bf j (List.mem_range.1 hj)
      · obtain ⟨j, hj, rfl⟩ := List.mem_map.1 hx
        have := b2 j; omega
      · rw [mk_len, mk_len, S_congr (g := f) fun j hj => mk_g1 hj, S_congr (f := g1 (Go.Proofs.Ytphgmfjinihgaaa.mk m _)) (g := fun k => S i fun j => g2 Tl j k) fun j hj => mk_g1 hj, hs]
        exact S_swap2
end Go.Proofs.Ytphgmfjinihgaaa

/- The walk of CorrelationSolves. -/

namespace Go.Proofs.Ytphgmfjinihgaaa
open Go.RowKit Go.Q Go.V

set_option maxHeartbeats 3200000 in
theorem corSolves (l : Hdr) (L : List Int) (w : World) (HL : SlI w l L) (hI : ∀ x ∈ L, I64 x) :
    Calls Try.prog 4 #[.slice l.1 l.2.1 l.2.2] w (fun e w' => e = .returned (.bool true) ∧ Below w.heap.size w w') := by
  refine Calls.mono (S4_calls l.1 l.2.1 l.2.2 w (fun v w' => v = .bool true ∧ bel w w') ?_) (by rintro e w' ⟨v, rfl, rfl, hb⟩; exact ⟨rfl, hb⟩)
  unfold S4
  refine wr_box fun x1 w2 TB h2 hx1 _ => ?_
  have ht := tape_new HL hI TB h2 hx1
  refine call_mono (madeF ht (by omega)) ?_
  rintro (x3 : MD) w4 ⟨R, C, B, T, hsT, hsB, p, MP, OR, OC, OB, _, _, _, _, g4⟩
  have h : bel w w4 := h2.grownAt g4 (by omega)
  refine var_mk (v := grv x3.1.1 x3.1.2.1 x3.1.2.2.1) (z := .agg #[.slice none 0 0, .slice none 0 0, .slice none 0 0]) (by kernel_rfl) (by kernel_rfl) rfl rfl fun x5 w7 X h' _ => ?_
  replace X : Box w7 x5 (grc x3.1.1 x3.1.2.1 x3.1.2.2.1) := X
  have H : Grid w7 x3.1.1 x3.1.2.1 x3.1.2.2.1 R C B := Grid.up ⟨OR.sl, OC.sl, OB.tab⟩ h'
  replace h := h.trans h'
  have V := MP.valid
  have v0 := validG_iff.2 V
  refine rd_boxN X (by kernel_rfl) rfl ?_
  refine call_mono (solveF x3.1.1 x3.1.2.1 x3.1.2.2.1 R C B w7 H) ?_
  rintro (x9 : ST) w10 ⟨hS, h'⟩
  replace h := h.trans h'; replace X := X.up h'; replace H := H.up h'; clear h'
  refine var_mk (v := cutv x9.2.1.1 x9.2.1.2.1) (z := .agg #[.slice none 0 0, .slice none 0 0]) (by kernel_rfl) (by kernel_rfl) rfl rfl fun x11 w13 Y h' _ => ?_
  replace Y : Box w13 x11 (cutc x9.2.1.1 x9.2.1.2.1) := Y
  replace hS := hS.up h'
  replace h := h.trans h'; replace X := X.up h'; replace H := H.up h'; clear h'
  rcases hS with ⟨q, _⟩ | ⟨_, q, _⟩ | ⟨_, _, e2, e3, cr, cc, S1, S2, hC⟩ | ⟨_, _, e2, e3, T', hT, hP⟩
  · exact absurd v0 q
  · exact absurd MP.sum q
  · refine br_eq (fun _ => ?_) (fun q => absurd e2 q)
    refine rd_boxN X (by kernel_rfl) rfl ?_
    refine rd_boxN Y (by kernel_rfl) rfl ?_
    refine call_mono (cut21 x3.1.1 x3.1.2.1 x3.1.2.2.1 x9.2.1.1 x9.2.1.2.1 R C B cr cc w13 H S1 S2) ?_
    rintro (x16 : Bool) w17 ⟨hx, h17⟩
    refine br_t (hx.2 hC) ⟨?_, h.trans h17⟩
    rw [e3]; rfl
  · refine br_eq (fun q => absurd (e2.symm.trans q) (by decide)) (fun _ => ?_)
    refine br_eq (fun _ => ?_) (fun q => absurd e2 q)
    refine rd_boxN X (by kernel_rfl) rfl ?_
    refine call_mono (tab21 x3.1.1 x3.1.2.1 x3.1.2.2.1 x9.1 R C B T' w13 H hT) ?_
    rintro (x19 : Bool) w20 ⟨hx, h20⟩
    refine br_t (hx.2 hP) ?_
    rw [e3] at Y
    have Y := Y.up h20
    refine rd_box0 (by kernel_rfl) Y rfl rfl ?_
    refine br_eq (fun _ => ?_) (fun q => absurd rfl q)
    refine rd_box (by kernel_rfl) Y (i := 1) rfl rfl ?_
    exact ⟨rfl, h.trans h20⟩
end Go.Proofs.Ytphgmfjinihgaaa
