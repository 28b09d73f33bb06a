import Derived.KernelRfl
import Derived.Test.YtcfghfmlfgaeaaaGreatDoorPackTopPrivate1

/- The conditions of functions, printed by our tool; each is checked against the code by the kernel. -/



namespace Go.Proofs
open Go Go.V Go.RowKit
open Tryz (prog)
set_option maxRecDepth 100000
def S15 (t_ : OA) (n_ : Int) (w0 : World) (R : KR) : Prop :=
 br (decide (n_ < 1)) (R (ji 0) w0)
 (join (T := (Int × Unit)) (fun (s2 : Int × Unit) w3 => ∀ _ : NV,
 nn t_ fun (a4 : Addr) =>
 rd prog (jL 3 (Addr.add a4 1)) oI w3 fun (x5 : Int) =>
 z (IntKind.wrap .i64 (x5 + 1)) fun (z6 : Int) =>
 nn t_ fun (a7 : Addr) =>
 wu prog (jS 3 (Addr.add a7 1) (ji z6)) w3 fun w8 =>
 R (ji s2.1) w8)
  fun (K1 : Int × Unit → World → Prop) =>
 drw w0 fun w9 =>
 nn t_ fun (a10 : Addr) =>
 rd prog (jL 3 (Addr.add a10 1)) oI w9 fun (x11 : Int) =>
 nn t_ fun (a12 : Addr) =>
 rd prog (jL 22 a12) oS w9 fun (x13 : Hd3) =>
 br (decide (x11 < ((x13.2.1 : Nat) : Int))) (drw w9 fun w14 =>
 nn t_ fun (a15 : Addr) =>
 rd prog (jL 22 a15) oS w14 fun (x16 : Hd3) =>
 nn t_ fun (a17 : Addr) =>
 rd prog (jL 3 (Addr.add a17 1)) oI w14 fun (x18 : Int) =>
 rdp prog (jI 22 x16 x18) oA fun (x19 : Addr) =>
 rd prog (jL 3 x19) oI w14 fun (x20 : Int) =>
 rdp prog (cmpS .rem 3 (.tmp 27) (.tmp 28) (ji x20) (ji n_)) oI fun (x21 : Int) =>
 br (decide (x21 < 0)) (z (IntKind.wrap .i64 (x21 + n_)) fun (z22 : Int) =>
 K1 (z22, ()) w14)
 (K1 (x21, ()) w14))
 (K1 (0, ()) w9))
def H15 : Hints := ⟨[(0, 17, [(5, (.one (.int .i64)))])], [(4, 9), (5, 11)], [], []⟩
theorem S15_calls (t_ : OA) (n_ : Int) (w0 : World) (R : KR) (h : S15 t_ n_ w0 R) : Calls prog 15 #[.pointer t_, ji n_] w0 (ret R) :=
 vcFn_sound (H := H15) follows_ Tryz.func15 (Eq.mpr (by kernel_rfl) h)
def S43 (k_ : Int) (w0 : World) (R : KR) : Prop :=
 wr prog (Instr.buildSlice 56 1 #[(0, (.agg #[ji 0, ji 0, .string ByteArray.empty]))]) oS w0 fun (x1 : Hd3) w2 =>
 br (k_ == 1) (wr prog (Instr.buildSlice 117 12 #[(0, (ji 0)), (1, (ji 1)), (2, (ji 2)), (3, (ji (-1))), (4, (ji 5)), (5, (ji 7)), (6, (ji (-7))), (7, (ji 100)), (8, (ji 1000000000000)), (9, (ji (-1000000000000))), (10, (ji 999999999999)), (11, (ji 1000000))]) oS w2 fun (x3 : Hd3) w4 =>
 loop (T := (Hd3 × Int × Unit)) ((x1.1, x1.2.1, x1.2.2), 0, ()) w4 fun (g5 : Hd3 × Int × Unit → World → Prop) (s6 : Hd3 × Int × Unit) w7 => ∀ _ : NV,
 br (decide (s6.2.1 < ((x3.2.1 : Nat) : Int))) (rdp prog (jI 117 x3 s6.2.1) oA fun (x8 : Addr) =>
 rd prog (jL 2 x8) oI w7 fun (x9 : Int) =>
 wr prog (Instr.buildSlice 56 1 #[(0, (.agg #[ji 1, ji x9, .string ByteArray.empty]))]) oS w7 fun (x10 : Hd3) w11 =>
 wr prog (Builtin.append_ #[56, 56] 56 #[.slice s6.1.1 s6.1.2.1 s6.1.2.2, .slice x10.1 x10.2.1 x10.2.2]) oS w11 fun (x12 : Hd3) w13 =>
 z (IntKind.wrap .i64 (s6.2.1 + 1)) fun (z14 : Int) =>
 g5 ((x12.1, x12.2.1, x12.2.2), z14, ()) w13)
 (R (jw s6.1) w7))
 (br (k_ == 2) (call prog 83 [ji 0] (.one (.agg [.int .i64, .int .i64, .str])) w2 fun (x15 : Int × Int × ByteArray × Unit) w16 =>
 call prog 83 [ji 1] (.one (.agg [.int .i64, .int .i64, .str])) w16 fun (x17 : Int × Int × ByteArray × Unit) w18 =>
 wr prog (Instr.buildSlice 56 2 #[(0, (.agg #[ji x15.1, ji x15.2.1, .string x15.2.2.1])), (1, (.agg #[ji x17.1, ji x17.2.1, .string x17.2.2.1]))]) oS w18 fun (x19 : Hd3) w20 =>
 wr prog (Builtin.append_ #[56, 56] 56 #[.slice x1.1 x1.2.1 x1.2.2, .slice x19.1 x19.2.1 x19.2.2]) oS w20 fun (x21 : Hd3) w22 =>
 R (jw x21) w22)
 (br (k_ == 3) (wr prog (Instr.buildSlice 146 7 #[(0, (.string ByteArray.empty)), (1, (.string ⟨#[97]⟩)), (2, (.string ⟨#[98]⟩)), (3, (.string ⟨#[97, 98]⟩)), (4, (.string ⟨#[48]⟩)), (5, (.string ⟨#[32]⟩)), (6, (.string ⟨#[97, 98, 99, 100, 101, 102, 103, 104, 105, 106, 107, 108, 109, 110, 111, 112, 113, 114, 115, 116, 117, 118, 119, 120]⟩))]) oS w2 fun (x23 : Hd3) w24 =>
 loop (T := (Hd3 × Int × Unit)) ((x1.1, x1.2.1, x1.2.2), 0, ()) w24 fun (g25 : Hd3 × Int × Unit → World → Prop) (s26 : Hd3 × Int × Unit) w27 => ∀ _ : NV,
 br (decide (s26.2.1 < ((x23.2.1 : Nat) : Int))) (rdp prog (jI 146 x23 s26.2.1) oA fun (x28 : Addr) =>
 rd prog (jL 9 x28) (.one .str) w27 fun (x29 : ByteArray) =>
 wr prog (Instr.buildSlice 56 1 #[(0, (.agg #[ji 3, ji 0, .string x29]))]) oS w27 fun (x30 : Hd3) w31 =>
 wr prog (Builtin.append_ #[56, 56] 56 #[.slice s26.1.1 s26.1.2.1 s26.1.2.2, .slice x30.1 x30.2.1 x30.2.2]) oS w31 fun (x32 : Hd3) w33 =>
 z (IntKind.wrap .i64 (s26.2.1 + 1)) fun (z34 : Int) =>
 g25 ((x32.1, x32.2.1, x32.2.2), z34, ()) w33)
 (R (jw s26.1) w27))
 (R (jw x1) w2)))
def H43 : Hints := ⟨[(2, 1, [(3, (.one .slice)), (5, (.one (.int .i64)))]), (2, 3, [(3, (.one .slice)), (7, (.one (.int .i64)))])], [], [], []⟩
theorem S43_calls (k_ : Int) (w0 : World) (R : KR) (h : S43 k_ w0 R) : Calls prog 43 #[ji k_] w0 (ret R) :=
 vcFn_sound (H := H43) follows_ Tryz.func43 (Eq.mpr (by kernel_rfl) h)
def S21 (t_ : OA) (k_ : Int) (null_ : Bool) (w0 : World) (R : KR) : Prop :=
 wr prog (Instr.alloc 55 true (.tuple #[])) oA w0 fun (x1 : Addr) w2 =>
 call prog 43 [ji k_] (.one oS) w2 fun (x3 : Hd3) w4 =>
 z (if 4 < ((x3.2.1 : Nat) : Int) then 4 else ((x3.2.1 : Nat) : Int)) fun (z5 : Int) =>
 br null_ (call prog 15 [.pointer t_, ji z5] (.one oI) w4 fun (x6 : Int) w7 =>
 rdp prog (jI 56 x3 x6) oA fun (x8 : Addr) =>
 rd prog (jL 55 x8) (.agg [.int .i64, .int .i64, .str]) w7 fun (x9 : Int × Int × ByteArray × Unit) =>
 wu prog (jS 55 x1 (.agg #[ji x9.1, ji x9.2.1, .string x9.2.2.1])) w7 fun w10 =>
 rd prog (loadVar 55 x1) (.agg [.int .i64, .int .i64, .str]) w10 fun (x11 : Int × Int × ByteArray × Unit) =>
 R (.agg #[ji x11.1, ji x11.2.1, .string x11.2.2.1]) w10)
 (z (IntKind.wrap .i64 (z5 - 1)) fun (z12 : Int) =>
 call prog 15 [.pointer t_, ji z12] (.one oI) w4 fun (x13 : Int) w14 =>
 z (IntKind.wrap .i64 (1 + x13)) fun (z15 : Int) =>
 rdp prog (jI 56 x3 z15) oA fun (x16 : Addr) =>
 rd prog (jL 55 x16) (.agg [.int .i64, .int .i64, .str]) w14 fun (x17 : Int × Int × ByteArray × Unit) =>
 wu prog (jS 55 x1 (.agg #[ji x17.1, ji x17.2.1, .string x17.2.2.1])) w14 fun w18 =>
 rd prog (loadVar 55 x1) (.agg [.int .i64, .int .i64, .str]) w18 fun (x19 : Int × Int × ByteArray × Unit) =>
 R (.agg #[ji x19.1, ji x19.2.1, .string x19.2.2.1]) w18)
def H21 : Hints := ⟨[], [], [], []⟩
theorem S21_calls (t_ : OA) (k_ : Int) (null_ : Bool) (w0 : World) (R : KR) (h : S21 t_ k_ null_ w0 R) : Calls prog 21 #[.pointer t_, ji k_, .bool null_] w0 (ret R) :=
 vcFn_sound (H := H21) follows_ Tryz.func21 (Eq.mpr (by kernel_rfl) h)
def S18 (t_ : OA) (x_0 : ByteArray) (x_1a : OA) (x_1n x_1c : Nat) (x_2a : OA) (x_2n x_2c : Nat) (x_3a : OA) (x_3n x_3c : Nat) (x_4a : OA) (x_4n x_4c : Nat) (x_5a : OA) (x_5n x_5c : Nat) (w0 : World) (R : KR) : Prop :=
 wr prog (Instr.box 41 (.agg #[.string x_0, .slice x_1a x_1n x_1c, .slice x_2a x_2n x_2c, .slice x_3a x_3n x_3c, .slice x_4a x_4n x_4c, .slice x_5a x_5n x_5c])) oA w0 fun (x1 : Addr) w2 =>
 wr prog (Instr.alloc 69 true (.tuple #[])) oA w2 fun (x3 : Addr) w4 =>
 loop (T := (Hd3 × Int × Unit)) ((none, 0, 0), 0, ()) w4 fun (g5 : Hd3 × Int × Unit → World → Prop) (s6 : Hd3 × Int × Unit) w7 => ∀ _ : NV,
 rd prog (jL 37 (Addr.add x1 1)) oS w7 fun (x8 : Hd3) =>
 br (decide (s6.2.1 < ((x8.2.1 : Nat) : Int))) (join (T := (Hd3 × Unit)) (fun (s10 : Hd3 × Unit) w11 => ∀ _ : NV,
 z (IntKind.wrap .i64 (s6.2.1 + 1)) fun (z12 : Int) =>
 g5 ((s10.1.1, s10.1.2.1, s10.1.2.2), z12, ()) w11)
  fun (K9 : Hd3 × Unit → World → Prop) =>
 rd prog (jL 41 x1) (.agg [.str, .slice, .slice, .slice, .slice, .slice]) w7 fun (x13 : ByteArray × Hd3 × Hd3 × TS) =>
 call prog 7 [.agg #[.string x13.1, jw x13.2.1, jw x13.2.2.1, jw x13.2.2.2.1, jw x13.2.2.2.2.1, jw x13.2.2.2.2.2.1], ji s6.2.1] (.one oB) w7 fun (x14 : Bool) w15 =>
 br (!x14) (wr prog (Instr.buildSlice 22 1 #[(0, (ji s6.2.1))]) oS w15 fun (x16 : Hd3) w17 =>
 wr prog (Builtin.append_ #[22, 22] 22 #[.slice s6.1.1 s6.1.2.1 s6.1.2.2, .slice x16.1 x16.2.1 x16.2.2]) oS w17 fun (x18 : Hd3) w19 =>
 K9 ((x18.1, x18.2.1, x18.2.2), ()) w19)
 (K9 ((s6.1.1, s6.1.2.1, s6.1.2.2), ()) w15))
 (call prog 15 [.pointer t_, (ji ((s6.1.2.1 : Nat) : Int))] (.one oI) w7 fun (x20 : Int) w21 =>
 rdp prog (jI 22 s6.1 x20) oA fun (x22 : Addr) =>
 rd prog (jL 3 x22) oI w21 fun (x23 : Int) =>
 wr prog (Instr.alloc 69 true (.tuple #[])) oA w21 fun (x24 : Addr) w25 =>
 wu prog (jS 69 x24 (.agg #[ji x23, ji 0, ji 0, ji 0, .string ByteArray.empty])) w25 fun w26 =>
 rd prog (jL 37 (Addr.add x1 1)) oS w26 fun (x27 : Hd3) =>
 rd prog (jL 3 x24) oI w26 fun (x28 : Int) =>
 rdp prog (jI 37 x27 x28) oA fun (x29 : Addr) =>
 rd prog (jL 3 (Addr.add x29 1)) oI w26 fun (x30 : Int) =>
 join (T := Unit) (fun (_s32 : Unit) w33 => ∀ _ : NV,
 rd prog (jL 69 x24) (.agg [.int .i64, .int .i64, .int .i64, .int .i64, .str]) w33 fun (x34 : Int × Int × Int × Int × ByteArray × Unit) =>
 wu prog (jS 69 x3 (.agg #[ji x34.1, ji x34.2.1, ji x34.2.2.1, ji x34.2.2.2.1, .string x34.2.2.2.2.1])) w33 fun w35 =>
 rd prog (loadVar 69 x3) (.agg [.int .i64, .int .i64, .int .i64, .int .i64, .str]) w35 fun (x36 : Int × Int × Int × Int × ByteArray × Unit) =>
 R (.agg #[ji x36.1, ji x36.2.1, ji x36.2.2.1, ji x36.2.2.2.1, .string x36.2.2.2.2.1]) w35)
  fun (K31 : Unit → World → Prop) =>
 call prog 15 [.pointer t_, ji 6] (.one oI) w26 fun (x37 : Int) w38 =>
 br (x37 == 0) (wu prog (jS 3 (Addr.add x24 1) (ji 21)) w38 fun w39 =>
 K31 (()) w39)
 (br (x30 == 1) (call prog 15 [.pointer t_, ji 6] (.one oI) w38 fun (x40 : Int) w41 =>
 z (IntKind.wrap .i64 (14 + x40)) fun (z42 : Int) =>
 call prog 21 [.pointer t_, ji x30, .bool false] (.one (.agg [.int .i64, .int .i64, .str])) w41 fun (x43 : Int × Int × ByteArray × Unit) w44 =>
 wu prog (jS 3 (Addr.add x24 1) (ji z42)) w44 fun w45 =>
 wu prog (jS 55 (Addr.add x24 2) (.agg #[ji x43.1, ji x43.2.1, .string x43.2.2.1])) w45 fun w46 =>
 K31 (()) w46)
 (br (x30 == 2) (call prog 15 [.pointer t_, ji 2] (.one oI) w38 fun (x47 : Int) w48 =>
 br (x47 == 0) (wu prog (jS 3 (Addr.add x24 1) (ji 5)) w48 fun w49 =>
 K31 (()) w49)
 (call prog 15 [.pointer t_, ji 2] (.one oI) w48 fun (x50 : Int) w51 =>
 z (IntKind.wrap .i64 (14 + x50)) fun (z52 : Int) =>
 call prog 21 [.pointer t_, ji x30, .bool false] (.one (.agg [.int .i64, .int .i64, .str])) w51 fun (x53 : Int × Int × ByteArray × Unit) w54 =>
 wu prog (jS 3 (Addr.add x24 1) (ji z52)) w54 fun w55 =>
 wu prog (jS 55 (Addr.add x24 2) (.agg #[ji x53.1, ji x53.2.1, .string x53.2.2.1])) w55 fun w56 =>
 K31 (()) w56))
 (call prog 15 [.pointer t_, ji 2] (.one oI) w38 fun (x57 : Int) w58 =>
 z (IntKind.wrap .i64 (14 + x57)) fun (z59 : Int) =>
 call prog 21 [.pointer t_, ji x30, .bool false] (.one (.agg [.int .i64, .int .i64, .str])) w58 fun (x60 : Int × Int × ByteArray × Unit) w61 =>
 wu prog (jS 3 (Addr.add x24 1) (ji z59)) w61 fun w62 =>
 wu prog (jS 55 (Addr.add x24 2) (.agg #[ji x60.1, ji x60.2.1, .string x60.2.2.1])) w62 fun w63 =>
 K31 (()) w63))))
def H18 : Hints := ⟨[(2, 0, [(5, (.one .slice)), (6, (.one (.int .i64)))]), (1, 1, [(5, (.one .slice))]), (1, 2, [])], [], [], []⟩
theorem S18_calls (t_ : OA) (x_0 : ByteArray) (x_1a : OA) (x_1n x_1c : Nat) (x_2a : OA) (x_2n x_2c : Nat) (x_3a : OA) (x_3n x_3c : Nat) (x_4a : OA) (x_4n x_4c : Nat) (x_5a : OA) (x_5n x_5c : Nat) (w0 : World) (R : KR) (h : S18 t_ x_0 x_1a x_1n x_1c x_2a x_2n x_2c x_3a x_3n x_3c x_4a x_4n x_4c x_5a x_5n x_5c w0 R) : Calls prog 18 #[.pointer t_, .agg #[.string x_0, .slice x_1a x_1n x_1c, .slice x_2a x_2n x_2c, .slice x_3a x_3n x_3c, .slice x_4a x_4n x_4c, .slice x_5a x_5n x_5c]] w0 (ret R) :=
 vcFn_sound (H := H18) follows_ Tryz.func18 (Eq.mpr (by kernel_rfl) h)
def S4 (s_0a : OA) (s_0n s_0c : Nat) (w0 : World) (R : KR) : Prop :=
 wr prog (Instr.box 29 (.agg #[.slice s_0a s_0n s_0c])) oA w0 fun (x1 : Addr) w2 =>
 wr prog (Instr.alloc 29 true (.tuple #[])) oA w2 fun (x3 : Addr) w4 =>
 wr prog (Instr.alloc 29 true (.tuple #[])) oA w4 fun (x5 : Addr) w6 =>
 loop (T := (Int × Unit)) (0, ()) w6 fun (g7 : Int × Unit → World → Prop) (s8 : Int × Unit) w9 => ∀ _ : NV,
 rd prog (jL 27 x1) oS w9 fun (x10 : Hd3) =>
 br (decide (s8.1 < ((x10.2.1 : Nat) : Int))) (rd prog (jL 27 x1) oS w9 fun (x11 : Hd3) =>
 rdp prog (jI 27 x11 s8.1) oA fun (x12 : Addr) =>
 rd prog (jL 41 x12) (.agg [.str, .slice, .slice, .slice, .slice, .slice]) w9 fun (x13 : ByteArray × Hd3 × Hd3 × TS) =>
 wr prog (Instr.alloc 41 true (.tuple #[])) oA w9 fun (x14 : Addr) w15 =>
 wu prog (jS 41 x14 (.agg #[.string x13.1, jw x13.2.1, jw x13.2.2.1, jw x13.2.2.2.1, jw x13.2.2.2.2.1, jw x13.2.2.2.2.2.1])) w15 fun w16 =>
 wu prog (jS 39 (Addr.add x14 5) (.slice none 0 0)) w16 fun w17 =>
 rd prog (jL 27 x5) oS w17 fun (x18 : Hd3) =>
 rd prog (jL 41 x14) (.agg [.str, .slice, .slice, .slice, .slice, .slice]) w17 fun (x19 : ByteArray × Hd3 × Hd3 × TS) =>
 wr prog (Instr.buildSlice 27 1 #[(0, (.agg #[.string x19.1, jw x19.2.1, jw x19.2.2.1, jw x19.2.2.2.1, jw x19.2.2.2.2.1, jw x19.2.2.2.2.2.1]))]) oS w17 fun (x20 : Hd3) w21 =>
 wr prog (Builtin.append_ #[27, 27] 27 #[.slice x18.1 x18.2.1 x18.2.2, .slice x20.1 x20.2.1 x20.2.2]) oS w21 fun (x22 : Hd3) w23 =>
 wu prog (jS 27 x5 (jw x22)) w23 fun w24 =>
 z (IntKind.wrap .i64 (s8.1 + 1)) fun (z25 : Int) =>
 g7 (z25, ()) w24)
 (rd prog (jL 29 x5) (.agg [.slice]) w9 fun (x26 : Hd3 × Unit) =>
 wu prog (jS 29 x3 (.agg #[jw x26.1])) w9 fun w27 =>
 rd prog (loadVar 29 x3) (.agg [.slice]) w27 fun (x28 : Hd3 × Unit) =>
 R (.agg #[jw x28.1]) w27)
def H4 : Hints := ⟨[(2, 0, [(4, (.one (.int .i64)))])], [], [], []⟩
theorem S4_calls (s_0a : OA) (s_0n s_0c : Nat) (w0 : World) (R : KR) (h : S4 s_0a s_0n s_0c w0 R) : Calls prog 4 #[.agg #[.slice s_0a s_0n s_0c]] w0 (ret R) :=
 vcFn_sound (H := H4) follows_ Tryz.func4 (Eq.mpr (by kernel_rfl) h)
def S13 (t_ s_0a : OA) (s_0n s_0c : Nat) (i_0a : OA) (i_0n i_0c : Nat) (views_ : Int) (w0 : World) (R : KR) : Prop :=
 wr prog (Instr.box 29 (.agg #[.slice s_0a s_0n s_0c])) oA w0 fun (x1 : Addr) w2 =>
 wr prog (Instr.box 34 (.agg #[.slice i_0a i_0n i_0c])) oA w2 fun (x3 : Addr) w4 =>
 loop (T := (Hd3 × Int × Unit)) ((none, 0, 0), 0, ()) w4 fun (g5 : Hd3 × Int × Unit → World → Prop) (s6 : Hd3 × Int × Unit) w7 => ∀ _ : NV,
 rd prog (jL 27 x1) oS w7 fun (x8 : Hd3) =>
 br (decide (s6.2.1 < ((x8.2.1 : Nat) : Int))) (drw w7 fun w9 =>
 rd prog (jL 27 x1) oS w9 fun (x10 : Hd3) =>
 rdp prog (jI 27 x10 s6.2.1) oA fun (x11 : Addr) =>
 rd prog (jL 9 x11) (.one .str) w9 fun (x12 : ByteArray) =>
 rd prog (jL 32 x3) oS w9 fun (x13 : Hd3) =>
 rdp prog (jI 32 x13 s6.2.1) oA fun (x14 : Addr) =>
 rd prog (jL 53 x14) oS w9 fun (x15 : Hd3) =>
 wr prog (Instr.buildSlice 51 1 #[(0, (.agg #[.string x12, .slice none 0 0, .slice none 0 0, (ji ((x15.2.1 : Nat) : Int))]))]) oS w9 fun (x16 : Hd3) w17 =>
 wr prog (Builtin.append_ #[51, 51] 51 #[.slice s6.1.1 s6.1.2.1 s6.1.2.2, .slice x16.1 x16.2.1 x16.2.2]) oS w17 fun (x18 : Hd3) w19 =>
 z (IntKind.wrap .i64 (s6.2.1 + 1)) fun (z20 : Int) =>
 g5 ((x18.1, x18.2.1, x18.2.2), z20, ()) w19)
 (z (IntKind.wrap .i64 (views_ + 1)) fun (z21 : Int) =>
 call prog 15 [.pointer t_, ji z21] (.one oI) w7 fun (x22 : Int) w23 =>
 loop (T := (Hd3 × Int × Unit)) ((s6.1.1, s6.1.2.1, s6.1.2.2), x22, ()) w23 fun (g24 : Hd3 × Int × Unit → World → Prop) (s25 : Hd3 × Int × Unit) w26 => ∀ _ : NV,
 br (decide (s25.2.1 > 0)) (rd prog (jL 29 x1) (.agg [.slice]) w26 fun (x27 : Hd3 × Unit) =>
 call prog 38 [.pointer t_, .agg #[jw x27.1]] (.one (.agg [.str, .slice, .slice])) w26 fun (x28 : ByteArray × Hd3 × Hd3 × Unit) w29 =>
 wr prog (Instr.alloc 96 true (.tuple #[])) oA w29 fun (x30 : Addr) w31 =>
 wu prog (jS 96 x30 (.agg #[.string x28.1, jw x28.2.1, jw x28.2.2.1])) w31 fun w32 =>
 rd prog (jL 29 x1) (.agg [.slice]) w32 fun (x33 : Hd3 × Unit) =>
 rd prog (jL 34 x3) (.agg [.slice]) w32 fun (x34 : Hd3 × Unit) =>
 rd prog (jL 96 x30) (.agg [.str, .slice, .slice]) w32 fun (x35 : ByteArray × Hd3 × Hd3 × Unit) =>
 call prog 39 [.agg #[jw x33.1], .agg #[jw x34.1], .agg #[.string x35.1, jw x35.2.1, jw x35.2.2.1]] (.many [oI, oI]) w32 fun (x36 : TF) w37 =>
 rd prog (jL 96 x30) (.agg [.str, .slice, .slice]) w37 fun (x38 : ByteArray × Hd3 × Hd3 × Unit) =>
 wr prog (Instr.buildSlice 51 1 #[(0, (.agg #[.string x38.1, jw x38.2.1, jw x38.2.2.1, ji x36.1]))]) oS w37 fun (x39 : Hd3) w40 =>
 wr prog (Builtin.append_ #[51, 51] 51 #[.slice s25.1.1 s25.1.2.1 s25.1.2.2, .slice x39.1 x39.2.1 x39.2.2]) oS w40 fun (x41 : Hd3) w42 =>
 z (IntKind.wrap .i64 (s25.2.1 - 1)) fun (z43 : Int) =>
 g24 ((x41.1, x41.2.1, x41.2.2), z43, ()) w42)
 (R (jw s25.1) w26))
def H13 : Hints := ⟨[(2, 0, [(9, (.one .slice)), (10, (.one (.int .i64)))]), (2, 2, [(9, (.one .slice)), (11, (.one (.int .i64)))])], [(5, 14)], [], []⟩
theorem S13_calls (t_ s_0a : OA) (s_0n s_0c : Nat) (i_0a : OA) (i_0n i_0c : Nat) (views_ : Int) (w0 : World) (R : KR) (h : S13 t_ s_0a s_0n s_0c i_0a i_0n i_0c views_ w0 R) : Calls prog 13 #[.pointer t_, .agg #[.slice s_0a s_0n s_0c], .agg #[.slice i_0a i_0n i_0c], ji views_] w0 (ret R) :=
 vcFn_sound (H := H13) follows_ Tryz.func13 (Eq.mpr (by kernel_rfl) h)
def S83 (n_ : Int) (w0 : World) (R : KR) : Prop :=
 wr prog (Instr.alloc 55 true (.tuple #[])) oA w0 fun (x1 : Addr) w2 =>
 join (T := Unit) (fun (_s4 : Unit) w5 => ∀ _ : NV,
 wu prog (jS 55 x1 (.agg #[ji 2, ji n_, .string ByteArray.empty])) w5 fun w6 =>
 rd prog (loadVar 55 x1) (.agg [.int .i64, .int .i64, .str]) w6 fun (x7 : Int × Int × ByteArray × Unit) =>
 R (.agg #[ji x7.1, ji x7.2.1, .string x7.2.2.1]) w6)
  fun (K3 : Unit → World → Prop) =>
 br (n_ != 0) (br (n_ != 1) (wu prog (jS 55 x1 (.agg #[ji 0, ji 0, .string ByteArray.empty])) w2 fun w8 =>
 rd prog (loadVar 55 x1) (.agg [.int .i64, .int .i64, .str]) w8 fun (x9 : Int × Int × ByteArray × Unit) =>
 R (.agg #[ji x9.1, ji x9.2.1, .string x9.2.2.1]) w8)
 (K3 (()) w2))
 (K3 (()) w2)
def H83 : Hints := ⟨[(0, 8, [])], [], [], []⟩
theorem S83_calls (n_ : Int) (w0 : World) (R : KR) (h : S83 n_ w0 R) : Calls prog 83 #[ji n_] w0 (ret R) :=
 vcFn_sound (H := H83) follows_ Tryz.func83 (Eq.mpr (by kernel_rfl) h)
def S127 (v_0 v_1 : Int) (v_2 : ByteArray) (w0 : World) (R : KR) : Prop :=
 wr prog (Instr.box 55 (.agg #[ji v_0, ji v_1, .string v_2])) oA w0 fun (x1 : Addr) w2 =>
 rd prog (jL 3 x1) oI w2 fun (x3 : Int) =>
 br (x3 == 0) (rd prog (jL 2 (Addr.add x1 1)) oI w2 fun (x4 : Int) =>
 br (x4 == 0) (rd prog (jL 9 (Addr.add x1 2)) (.one .str) w2 fun (x5 : ByteArray) =>
 rd prog (cmpS .eql 9 (.tmp 13) (.const (.string ByteArray.empty)) (.string x5) (.string ByteArray.empty)) oB w2 fun (x6 : Bool) =>
 R (.bool x6) w2)
 (R (.bool false) w2))
 (br (x3 == 1) (rd prog (jL 2 (Addr.add x1 1)) oI w2 fun (x7 : Int) =>
 br (decide (x7 ≥ (-1000000000000))) (rd prog (jL 2 (Addr.add x1 1)) oI w2 fun (x8 : Int) =>
 br (decide (x8 ≤ 1000000000000)) (rd prog (jL 9 (Addr.add x1 2)) (.one .str) w2 fun (x9 : ByteArray) =>
 rd prog (cmpS .eql 9 (.tmp 28) (.const (.string ByteArray.empty)) (.string x9) (.string ByteArray.empty)) oB w2 fun (x10 : Bool) =>
 R (.bool x10) w2)
 (R (.bool false) w2))
 (R (.bool false) w2))
 (br (x3 == 2) (rd prog (jL 2 (Addr.add x1 1)) oI w2 fun (x11 : Int) =>
 br (x11 == 0) (rd prog (jL 9 (Addr.add x1 2)) (.one .str) w2 fun (x12 : ByteArray) =>
 rd prog (cmpS .eql 9 (.tmp 43) (.const (.string ByteArray.empty)) (.string x12) (.string ByteArray.empty)) oB w2 fun (x13 : Bool) =>
 R (.bool x13) w2)
 (rd prog (jL 2 (Addr.add x1 1)) oI w2 fun (x14 : Int) =>
 br (x14 == 1) (rd prog (jL 9 (Addr.add x1 2)) (.one .str) w2 fun (x15 : ByteArray) =>
 rd prog (cmpS .eql 9 (.tmp 43) (.const (.string ByteArray.empty)) (.string x15) (.string ByteArray.empty)) oB w2 fun (x16 : Bool) =>
 R (.bool x16) w2)
 (R (.bool false) w2)))
 (br (x3 == 3) (rd prog (jL 2 (Addr.add x1 1)) oI w2 fun (x17 : Int) =>
 br (x17 != 0) (R (.bool false) w2)
 (rd prog (jL 9 (Addr.add x1 2)) (.one .str) w2 fun (x18 : ByteArray) =>
 br (decide (((x18.size : Nat) : Int) > 24)) (R (.bool false) w2)
 (loop (T := (Int × Unit)) (0, ()) w2 fun (g19 : Int × Unit → World → Prop) (s20 : Int × Unit) w21 => ∀ _ : NV,
 rd prog (jL 9 (Addr.add x1 2)) (.one .str) w21 fun (x22 : ByteArray) =>
 br (decide (s20.1 < ((x22.size : Nat) : Int))) (rd prog (jL 9 (Addr.add x1 2)) (.one .str) w21 fun (x23 : ByteArray) =>
 rd prog (Instr.index 9 (.string x23) (ji s20.1)) (.one (.int .u8)) w21 fun (x24 : Int) =>
 br (decide (x24 < 32)) (R (.bool false) w21)
 (rd prog (jL 9 (Addr.add x1 2)) (.one .str) w21 fun (x25 : ByteArray) =>
 rd prog (Instr.index 9 (.string x25) (ji s20.1)) (.one (.int .u8)) w21 fun (x26 : Int) =>
 br (decide (x26 > 126)) (R (.bool false) w21)
 (rd prog (jL 9 (Addr.add x1 2)) (.one .str) w21 fun (x27 : ByteArray) =>
 rd prog (Instr.index 9 (.string x27) (ji s20.1)) (.one (.int .u8)) w21 fun (x28 : Int) =>
 br (x28 == 39) (R (.bool false) w21)
 (z (IntKind.wrap .i64 (s20.1 + 1)) fun (z29 : Int) =>
 g19 (z29, ()) w21))))
 (R (.bool true) w21))))
 (R (.bool false) w2))))
def H127 : Hints := ⟨[(2, 1, [(3, (.one (.int .i64)))])], [], [], []⟩
theorem S127_calls (v_0 v_1 : Int) (v_2 : ByteArray) (w0 : World) (R : KR) (h : S127 v_0 v_1 v_2 w0 R) : Calls prog 127 #[.agg #[ji v_0, ji v_1, .string v_2]] w0 (ret R) :=
 vcFn_sound (H := H127) follows_ Tryz.func127 (Eq.mpr (by kernel_rfl) h)
def S40 (a_0 a_1 : Int) (a_2 : ByteArray) (b_0 b_1 : Int) (b_2 : ByteArray) (w0 : World) (R : KR) : Prop :=
 wr prog (Instr.box 55 (.agg #[ji a_0, ji a_1, .string a_2])) oA w0 fun (x1 : Addr) w2 =>
 wr prog (Instr.box 55 (.agg #[ji b_0, ji b_1, .string b_2])) oA w2 fun (x3 : Addr) w4 =>
 rd prog (jL 3 x1) oI w4 fun (x5 : Int) =>
 rd prog (jL 3 x3) oI w4 fun (x6 : Int) =>
 br (decide (x5 < x6)) (R (ji (-1)) w4)
 (rd prog (jL 3 x1) oI w4 fun (x7 : Int) =>
 rd prog (jL 3 x3) oI w4 fun (x8 : Int) =>
 br (decide (x7 > x8)) (R (ji 1) w4)
 (rd prog (jL 2 (Addr.add x1 1)) oI w4 fun (x9 : Int) =>
 rd prog (jL 2 (Addr.add x3 1)) oI w4 fun (x10 : Int) =>
 br (decide (x9 < x10)) (R (ji (-1)) w4)
 (rd prog (jL 2 (Addr.add x1 1)) oI w4 fun (x11 : Int) =>
 rd prog (jL 2 (Addr.add x3 1)) oI w4 fun (x12 : Int) =>
 br (decide (x11 > x12)) (R (ji 1) w4)
 (rd prog (jL 9 (Addr.add x1 2)) (.one .str) w4 fun (x13 : ByteArray) =>
 rd prog (jL 9 (Addr.add x3 2)) (.one .str) w4 fun (x14 : ByteArray) =>
 rdp prog (cmpS .lss 9 (.tmp 31) (.tmp 33) (.string x13) (.string x14)) oB fun (x15 : Bool) =>
 br x15 (R (ji (-1)) w4)
 (rd prog (jL 9 (Addr.add x1 2)) (.one .str) w4 fun (x16 : ByteArray) =>
 rd prog (jL 9 (Addr.add x3 2)) (.one .str) w4 fun (x17 : ByteArray) =>
 rdp prog (cmpS .gtr 9 (.tmp 37) (.tmp 39) (.string x16) (.string x17)) oB fun (x18 : Bool) =>
 br x18 (R (ji 1) w4)
 (R (ji 0) w4))))))
def H40 : Hints := ⟨[], [], [], []⟩
theorem S40_calls (a_0 a_1 : Int) (a_2 : ByteArray) (b_0 b_1 : Int) (b_2 : ByteArray) (w0 : World) (R : KR) (h : S40 a_0 a_1 a_2 b_0 b_1 b_2 w0 R) : Calls prog 40 #[.agg #[ji a_0, ji a_1, .string a_2], .agg #[ji b_0, ji b_1, .string b_2]] w0 (ret R) :=
 vcFn_sound (H := H40) follows_ Tryz.func40 (Eq.mpr (by kernel_rfl) h)
def S132 (a_a : OA) (a_n a_c : Nat) (b_a : OA) (b_n b_c : Nat) (w0 : World) (R : KR) : Prop :=
 join (T := Unit) (fun (_s2 : Unit) w3 => ∀ _ : NV,
 br (decide (((a_n : Nat) : Int) < ((b_n : Nat) : Int))) (R (ji (-1)) w3)
 (br (decide (((a_n : Nat) : Int) > ((b_n : Nat) : Int))) (R (ji 1) w3)
 (R (ji 0) w3)))
  fun (K1 : Unit → World → Prop) =>
 loop (T := (Int × Unit)) (0, ()) w0 fun (g4 : Int × Unit → World → Prop) (s5 : Int × Unit) w6 => ∀ _ : NV,
 br (decide (s5.1 < ((a_n : Nat) : Int))) (br (decide (s5.1 < ((b_n : Nat) : Int))) (drw w6 fun w7 =>
 rdp prog (Instr.indexAt 56 (.slice a_a a_n a_c) (ji s5.1)) oA fun (x8 : Addr) =>
 rd prog (jL 55 x8) (.agg [.int .i64, .int .i64, .str]) w7 fun (x9 : Int × Int × ByteArray × Unit) =>
 rdp prog (Instr.indexAt 56 (.slice b_a b_n b_c) (ji s5.1)) oA fun (x10 : Addr) =>
 rd prog (jL 55 x10) (.agg [.int .i64, .int .i64, .str]) w7 fun (x11 : Int × Int × ByteArray × Unit) =>
 call prog 40 [.agg #[ji x9.1, ji x9.2.1, .string x9.2.2.1], .agg #[ji x11.1, ji x11.2.1, .string x11.2.2.1]] (.one oI) w7 fun (x12 : Int) w13 =>
 br (x12 != 0) (R (ji x12) w13)
 (z (IntKind.wrap .i64 (s5.1 + 1)) fun (z14 : Int) =>
 g4 (z14, ()) w13))
 (K1 (()) w6))
 (K1 (()) w6)
def H132 : Hints := ⟨[(2, 0, [(5, (.one (.int .i64)))]), (1, 0, [])], [(4, 8)], [], []⟩
theorem S132_calls (a_a : OA) (a_n a_c : Nat) (b_a : OA) (b_n b_c : Nat) (w0 : World) (R : KR) (h : S132 a_a a_n a_c b_a b_n b_c w0 R) : Calls prog 132 #[.slice a_a a_n a_c, .slice b_a b_n b_c] w0 (ret R) :=
 vcFn_sound (H := H132) follows_ Tryz.func132 (Eq.mpr (by kernel_rfl) h)
def S14 (a_0 a_1 : Int) (a_2 : ByteArray) (b_0 b_1 : Int) (b_2 : ByteArray) (w0 : World) (R : KR) : Prop :=
 wr prog (Instr.box 55 (.agg #[ji a_0, ji a_1, .string a_2])) oA w0 fun (x1 : Addr) w2 =>
 wr prog (Instr.box 55 (.agg #[ji b_0, ji b_1, .string b_2])) oA w2 fun (x3 : Addr) w4 =>
 rd prog (jL 55 x1) (.agg [.int .i64, .int .i64, .str]) w4 fun (x5 : Int × Int × ByteArray × Unit) =>
 rd prog (jL 55 x3) (.agg [.int .i64, .int .i64, .str]) w4 fun (x6 : Int × Int × ByteArray × Unit) =>
 call prog 40 [.agg #[ji x5.1, ji x5.2.1, .string x5.2.2.1], .agg #[ji x6.1, ji x6.2.1, .string x6.2.2.1]] (.one oI) w4 fun (x7 : Int) w8 =>
 R (.bool (x7 == 0)) w8
def H14 : Hints := ⟨[], [], [], []⟩
theorem S14_calls (a_0 a_1 : Int) (a_2 : ByteArray) (b_0 b_1 : Int) (b_2 : ByteArray) (w0 : World) (R : KR) (h : S14 a_0 a_1 a_2 b_0 b_1 b_2 w0 R) : Calls prog 14 #[.agg #[ji a_0, ji a_1, .string a_2], .agg #[ji b_0, ji b_1, .string b_2]] w0 (ret R) :=
 vcFn_sound (H := H14) follows_ Tryz.func14 (Eq.mpr (by kernel_rfl) h)
def S41 (v_0 v_1 : Int) (v_2 : ByteArray) (t_ : Int) (w0 : World) (R : KR) : Prop :=
 wr prog (Instr.box 55 (.agg #[ji v_0, ji v_1, .string v_2])) oA w0 fun (x1 : Addr) w2 =>
 wr prog (Instr.alloc 66 true (.tuple #[])) oA w2 fun (x3 : Addr) w4 =>
 rd prog (jL 3 x1) oI w4 fun (x5 : Int) =>
 br (x5 == 1) (rd prog (jL 2 (Addr.add x1 1)) oI w4 fun (x6 : Int) =>
 wu prog (jS 66 x3 (.agg #[ji 2, ji 0, ji x6, .string ByteArray.empty, ji 0, .slice none 0 0])) w4 fun w7 =>
 rd prog (loadVar 66 x3) (.agg [.int .i64, .int .i64, .int .i64, .str, .int .i64, .slice]) w7 fun (x8 : Int × Int × Int × ByteArray × Int × Hd3 × Unit) =>
 R (.agg #[ji x8.1, ji x8.2.1, ji x8.2.2.1, .string x8.2.2.2.1, ji x8.2.2.2.2.1, jw x8.2.2.2.2.2.1]) w7)
 (br (x5 == 2) (rd prog (jL 2 (Addr.add x1 1)) oI w4 fun (x9 : Int) =>
 wu prog (jS 66 x3 (.agg #[ji 3, ji 0, ji x9, .string ByteArray.empty, ji 0, .slice none 0 0])) w4 fun w10 =>
 rd prog (loadVar 66 x3) (.agg [.int .i64, .int .i64, .int .i64, .str, .int .i64, .slice]) w10 fun (x11 : Int × Int × Int × ByteArray × Int × Hd3 × Unit) =>
 R (.agg #[ji x11.1, ji x11.2.1, ji x11.2.2.1, .string x11.2.2.2.1, ji x11.2.2.2.2.1, jw x11.2.2.2.2.2.1]) w10)
 (br (x5 == 3) (rd prog (jL 9 (Addr.add x1 2)) (.one .str) w4 fun (x12 : ByteArray) =>
 wu prog (jS 66 x3 (.agg #[ji 4, ji 0, ji 0, .string x12, ji 0, .slice none 0 0])) w4 fun w13 =>
 rd prog (loadVar 66 x3) (.agg [.int .i64, .int .i64, .int .i64, .str, .int .i64, .slice]) w13 fun (x14 : Int × Int × Int × ByteArray × Int × Hd3 × Unit) =>
 R (.agg #[ji x14.1, ji x14.2.1, ji x14.2.2.1, .string x14.2.2.2.1, ji x14.2.2.2.2.1, jw x14.2.2.2.2.2.1]) w13)
 (wu prog (jS 66 x3 (.agg #[ji 1, ji t_, ji 0, .string ByteArray.empty, ji 0, .slice none 0 0])) w4 fun w15 =>
 rd prog (loadVar 66 x3) (.agg [.int .i64, .int .i64, .int .i64, .str, .int .i64, .slice]) w15 fun (x16 : Int × Int × Int × ByteArray × Int × Hd3 × Unit) =>
 R (.agg #[ji x16.1, ji x16.2.1, ji x16.2.2.1, .string x16.2.2.2.1, ji x16.2.2.2.2.1, jw x16.2.2.2.2.2.1]) w15)))
def H41 : Hints := ⟨[], [], [], []⟩
theorem S41_calls (v_0 v_1 : Int) (v_2 : ByteArray) (t_ : Int) (w0 : World) (R : KR) (h : S41 v_0 v_1 v_2 t_ w0 R) : Calls prog 41 #[.agg #[ji v_0, ji v_1, .string v_2], ji t_] w0 (ret R) :=
 vcFn_sound (H := H41) follows_ Tryz.func41 (Eq.mpr (by kernel_rfl) h)
def S192  (w0 : World) (R : KR) : Prop :=
 wr prog (Instr.buildSlice 146 52 #[(0, (.string ⟨#[115, 101, 108, 101, 99, 116]⟩)), (1, (.string ⟨#[100, 105, 115, 116, 105, 110, 99, 116]⟩)), (2, (.string ⟨#[97, 108, 108]⟩)), (3, (.string ⟨#[102, 114, 111, 109]⟩)), (4, (.string ⟨#[119, 104, 101, 114, 101]⟩)), (5, (.string ⟨#[103, 114, 111, 117, 112]⟩)), (6, (.string ⟨#[98, 121]⟩)), (7, (.string ⟨#[104, 97, 118, 105, 110, 103]⟩)), (8, (.string ⟨#[97, 115]⟩)), (9, (.string ⟨#[111, 110]⟩)), (10, (.string ⟨#[117, 110, 105, 111, 110]⟩)), (11, (.string ⟨#[101, 120, 99, 101, 112, 116]⟩)), (12, (.string ⟨#[105, 110, 116, 101, 114, 115, 101, 99, 116]⟩)), (13, (.string ⟨#[106, 111, 105, 110]⟩)), (14, (.string ⟨#[105, 110, 110, 101, 114]⟩)), (15, (.string ⟨#[108, 101, 102, 116]⟩)), (16, (.string ⟨#[114, 105, 103, 104, 116]⟩)), (17, (.string ⟨#[102, 117, 108, 108]⟩)), (18, (.string ⟨#[99, 114, 111, 115, 115]⟩)), (19, (.string ⟨#[115, 101, 109, 105]⟩)), (20, (.string ⟨#[97, 110, 116, 105]⟩)), (21, (.string ⟨#[97, 110, 100]⟩)), (22, (.string ⟨#[111, 114]⟩)), (23, (.string ⟨#[110, 111, 116]⟩)), (24, (.string ⟨#[105, 115]⟩)), (25, (.string ⟨#[110, 117, 108, 108]⟩)), (26, (.string ⟨#[116, 114, 117, 101]⟩)), (27, (.string ⟨#[102, 97, 108, 115, 101]⟩)), (28, (.string ⟨#[105, 110]⟩)), (29, (.string ⟨#[99, 97, 115, 101]⟩)), (30, (.string ⟨#[119, 104, 101, 110]⟩)), (31, (.string ⟨#[116, 104, 101, 110]⟩)), (32, (.string ⟨#[101, 108, 115, 101]⟩)), (33, (.string ⟨#[101, 110, 100]⟩)), (34, (.string ⟨#[118, 97, 108, 117, 101, 115]⟩)), (35, (.string ⟨#[116, 97, 98, 108, 101]⟩)), (36, (.string ⟨#[112, 114, 105, 109, 97, 114, 121]⟩)), (37, (.string ⟨#[117, 110, 105, 113, 117, 101]⟩)), (38, (.string ⟨#[102, 111, 114, 101, 105, 103, 110]⟩)), (39, (.string ⟨#[114, 101, 102, 101, 114, 101, 110, 99, 101, 115]⟩)), (40, (.string ⟨#[99, 104, 101, 99, 107]⟩)), (41, (.string ⟨#[105, 110, 116]⟩)), (42, (.string ⟨#[98, 111, 111, 108]⟩)), (43, (.string ⟨#[116, 101, 120, 116]⟩)), (44, (.string ⟨#[99, 111, 117, 110, 116]⟩)), (45, (.string ⟨#[115, 117, 109]⟩)), (46, (.string ⟨#[109, 105, 110]⟩)), (47, (.string ⟨#[109, 97, 120]⟩)), (48, (.string ⟨#[99, 111, 97, 108, 101, 115, 99, 101]⟩)), (49, (.string ⟨#[108, 101, 110, 103, 116, 104]⟩)), (50, (.string ⟨#[115, 97, 109, 101]⟩)), (51, (.string ⟨#[109, 111, 100]⟩))]) oS w0 fun (x1 : Hd3) w2 =>
 R (jw x1) w2
def H192 : Hints := ⟨[], [], [], []⟩
theorem S192_calls  (w0 : World) (R : KR) (h : S192  w0 R) : Calls prog 192 #[] w0 (ret R) :=
 vcFn_sound (H := H192) follows_ Tryz.func192 (Eq.mpr (by kernel_rfl) h)
def S125 (s_ : ByteArray) (w0 : World) (R : KR) : Prop :=
 br (decide (((s_.size : Nat) : Int) < 1)) (R (.bool false) w0)
 (br (decide (((s_.size : Nat) : Int) > 16)) (R (.bool false) w0)
 (rd prog (Instr.index 9 (.string s_) (ji 0)) (.one (.int .u8)) w0 fun (x1 : Int) =>
 br (decide (x1 < 97)) (R (.bool false) w0)
 (rd prog (Instr.index 9 (.string s_) (ji 0)) (.one (.int .u8)) w0 fun (x2 : Int) =>
 br (decide (x2 > 122)) (R (.bool false) w0)
 (loop (T := (Int × Unit)) (0, ()) w0 fun (g3 : Int × Unit → World → Prop) (s4 : Int × Unit) w5 => ∀ _ : NV,
 br (decide (s4.1 < ((s_.size : Nat) : Int))) (join (T := Unit) (fun (_s7 : Unit) w8 => ∀ _ : NV,
 z (IntKind.wrap .i64 (s4.1 + 1)) fun (z9 : Int) =>
 g3 (z9, ()) w8)
  fun (K6 : Unit → World → Prop) =>
 rd prog (Instr.index 9 (.string s_) (ji s4.1)) (.one (.int .u8)) w5 fun (x10 : Int) =>
 br (decide (x10 < 97)) (rd prog (Instr.index 9 (.string s_) (ji s4.1)) (.one (.int .u8)) w5 fun (x11 : Int) =>
 br (decide (x11 < 48)) (rd prog (Instr.index 9 (.string s_) (ji s4.1)) (.one (.int .u8)) w5 fun (x12 : Int) =>
 br (x12 != 95) (R (.bool false) w5)
 (K6 (()) w5))
 (rd prog (Instr.index 9 (.string s_) (ji s4.1)) (.one (.int .u8)) w5 fun (x13 : Int) =>
 br (decide (x13 > 57)) (rd prog (Instr.index 9 (.string s_) (ji s4.1)) (.one (.int .u8)) w5 fun (x14 : Int) =>
 br (x14 != 95) (R (.bool false) w5)
 (K6 (()) w5))
 (K6 (()) w5)))
 (rd prog (Instr.index 9 (.string s_) (ji s4.1)) (.one (.int .u8)) w5 fun (x15 : Int) =>
 br (decide (x15 > 122)) (rd prog (Instr.index 9 (.string s_) (ji s4.1)) (.one (.int .u8)) w5 fun (x16 : Int) =>
 br (decide (x16 < 48)) (rd prog (Instr.index 9 (.string s_) (ji s4.1)) (.one (.int .u8)) w5 fun (x17 : Int) =>
 br (x17 != 95) (R (.bool false) w5)
 (K6 (()) w5))
 (rd prog (Instr.index 9 (.string s_) (ji s4.1)) (.one (.int .u8)) w5 fun (x18 : Int) =>
 br (decide (x18 > 57)) (rd prog (Instr.index 9 (.string s_) (ji s4.1)) (.one (.int .u8)) w5 fun (x19 : Int) =>
 br (x19 != 95) (R (.bool false) w5)
 (K6 (()) w5))
 (K6 (()) w5)))
 (K6 (()) w5)))
 (call prog 192 [] (.one oS) w5 fun (x20 : Hd3) w21 =>
 loop (T := (Int × Unit)) (0, ()) w21 fun (g22 : Int × Unit → World → Prop) (s23 : Int × Unit) w24 => ∀ _ : NV,
 br (decide (s23.1 < ((x20.2.1 : Nat) : Int))) (rdp prog (jI 146 x20 s23.1) oA fun (x25 : Addr) =>
 rd prog (jL 9 x25) (.one .str) w24 fun (x26 : ByteArray) =>
 rd prog (cmpS .eql 9 (.tmp 68) (.tmp 69) (.string x26) (.string s_)) oB w24 fun (x27 : Bool) =>
 br x27 (R (.bool false) w24)
 (z (IntKind.wrap .i64 (s23.1 + 1)) fun (z28 : Int) =>
 g22 (z28, ()) w24))
 (R (.bool true) w24))))))
def H125 : Hints := ⟨[(2, 0, [(3, (.one (.int .i64)))]), (1, 1, []), (2, 2, [(5, (.one (.int .i64)))])], [], [], []⟩
theorem S125_calls (s_ : ByteArray) (w0 : World) (R : KR) (h : S125 s_ w0 R) : Calls prog 125 #[.string s_] w0 (ret R) :=
 vcFn_sound (H := H125) follows_ Tryz.func125 (Eq.mpr (by kernel_rfl) h)
def S42 (s_0a : OA) (s_0n s_0c : Nat) (table_ : ByteArray) (w0 : World) (R : KR) : Prop :=
 wr prog (Instr.box 29 (.agg #[.slice s_0a s_0n s_0c])) oA w0 fun (x1 : Addr) w2 =>
 loop (T := (Int × Unit)) (0, ()) w2 fun (g3 : Int × Unit → World → Prop) (s4 : Int × Unit) w5 => ∀ _ : NV,
 rd prog (jL 27 x1) oS w5 fun (x6 : Hd3) =>
 br (decide (s4.1 < ((x6.2.1 : Nat) : Int))) (rd prog (jL 27 x1) oS w5 fun (x7 : Hd3) =>
 rdp prog (jI 27 x7 s4.1) oA fun (x8 : Addr) =>
 rd prog (jL 9 x8) (.one .str) w5 fun (x9 : ByteArray) =>
 rd prog (cmpS .eql 9 (.tmp 19) (.tmp 20) (.string x9) (.string table_)) oB w5 fun (x10 : Bool) =>
 br x10 (R (.tuple #[ji s4.1, .bool true]) w5)
 (z (IntKind.wrap .i64 (s4.1 + 1)) fun (z11 : Int) =>
 g3 (z11, ()) w5))
 (R (.tuple #[ji 0, .bool false]) w5)
def H42 : Hints := ⟨[(2, 0, [(6, (.one (.int .i64)))])], [], [], []⟩
theorem S42_calls (s_0a : OA) (s_0n s_0c : Nat) (table_ : ByteArray) (w0 : World) (R : KR) (h : S42 s_0a s_0n s_0c table_ w0 R) : Calls prog 42 #[.agg #[.slice s_0a s_0n s_0c], .string table_] w0 (ret R) :=
 vcFn_sound (H := H42) follows_ Tryz.func42 (Eq.mpr (by kernel_rfl) h)
def S193 (t_0 : ByteArray) (t_1a : OA) (t_1n t_1c : Nat) (t_2a : OA) (t_2n t_2c : Nat) (t_3a : OA) (t_3n t_3c : Nat) (t_4a : OA) (t_4n t_4c : Nat) (t_5a : OA) (t_5n t_5c : Nat) (name_ : ByteArray) (w0 : World) (R : KR) : Prop :=
 wr prog (Instr.box 41 (.agg #[.string t_0, .slice t_1a t_1n t_1c, .slice t_2a t_2n t_2c, .slice t_3a t_3n t_3c, .slice t_4a t_4n t_4c, .slice t_5a t_5n t_5c])) oA w0 fun (x1 : Addr) w2 =>
 loop (T := (Int × Unit)) (0, ()) w2 fun (g3 : Int × Unit → World → Prop) (s4 : Int × Unit) w5 => ∀ _ : NV,
 rd prog (jL 37 (Addr.add x1 1)) oS w5 fun (x6 : Hd3) =>
 br (decide (s4.1 < ((x6.2.1 : Nat) : Int))) (rd prog (jL 37 (Addr.add x1 1)) oS w5 fun (x7 : Hd3) =>
 rdp prog (jI 37 x7 s4.1) oA fun (x8 : Addr) =>
 rd prog (jL 9 x8) (.one .str) w5 fun (x9 : ByteArray) =>
 rd prog (cmpS .eql 9 (.tmp 19) (.tmp 20) (.string x9) (.string name_)) oB w5 fun (x10 : Bool) =>
 br x10 (R (.tuple #[ji s4.1, .bool true]) w5)
 (z (IntKind.wrap .i64 (s4.1 + 1)) fun (z11 : Int) =>
 g3 (z11, ()) w5))
 (R (.tuple #[ji 0, .bool false]) w5)
def H193 : Hints := ⟨[(2, 0, [(6, (.one (.int .i64)))])], [], [], []⟩
theorem S193_calls (t_0 : ByteArray) (t_1a : OA) (t_1n t_1c : Nat) (t_2a : OA) (t_2n t_2c : Nat) (t_3a : OA) (t_3n t_3c : Nat) (t_4a : OA) (t_4n t_4c : Nat) (t_5a : OA) (t_5n t_5c : Nat) (name_ : ByteArray) (w0 : World) (R : KR) (h : S193 t_0 t_1a t_1n t_1c t_2a t_2n t_2c t_3a t_3n t_3c t_4a t_4n t_4c t_5a t_5n t_5c name_ w0 R) : Calls prog 193 #[.agg #[.string t_0, .slice t_1a t_1n t_1c, .slice t_2a t_2n t_2c, .slice t_3a t_3n t_3c, .slice t_4a t_4n t_4c, .slice t_5a t_5n t_5c], .string name_] w0 (ret R) :=
 vcFn_sound (H := H193) follows_ Tryz.func193 (Eq.mpr (by kernel_rfl) h)
def S20 (s_0a : OA) (s_0n s_0c : Nat) (table_ foreign_ : Int) (w0 : World) (R : KR) : Prop :=
 wr prog (Instr.box 29 (.agg #[.slice s_0a s_0n s_0c])) oA w0 fun (x1 : Addr) w2 =>
 br (decide (table_ < 0)) (R (.tuple #[ji 0, .bool false]) w2)
 (rd prog (jL 27 x1) oS w2 fun (x3 : Hd3) =>
 br (decide (table_ ≥ ((x3.2.1 : Nat) : Int))) (R (.tuple #[ji 0, .bool false]) w2)
 (br (decide (foreign_ < 0)) (R (.tuple #[ji 0, .bool false]) w2)
 (rd prog (jL 27 x1) oS w2 fun (x4 : Hd3) =>
 rdp prog (jI 27 x4 table_) oA fun (x5 : Addr) =>
 rd prog (jL 38 (Addr.add x5 4)) oS w2 fun (x6 : Hd3) =>
 br (decide (foreign_ ≥ ((x6.2.1 : Nat) : Int))) (R (.tuple #[ji 0, .bool false]) w2)
 (drw w2 fun w7 =>
 rd prog (jL 29 x1) (.agg [.slice]) w7 fun (x8 : Hd3 × Unit) =>
 rd prog (jL 27 x1) oS w7 fun (x9 : Hd3) =>
 rdp prog (jI 27 x9 table_) oA fun (x10 : Addr) =>
 rd prog (jL 38 (Addr.add x10 4)) oS w7 fun (x11 : Hd3) =>
 rdp prog (jI 38 x11 foreign_) oA fun (x12 : Addr) =>
 rd prog (jL 9 (Addr.add x12 1)) (.one .str) w7 fun (x13 : ByteArray) =>
 call prog 42 [.agg #[jw x8.1], .string x13] (.many [oI, oB]) w7 fun (x14 : Int × Bool × Unit) w15 =>
 R (.tuple #[ji x14.1, .bool x14.2.1]) w15))))
def H20 : Hints := ⟨[], [(3, 11)], [], []⟩
theorem S20_calls (s_0a : OA) (s_0n s_0c : Nat) (table_ foreign_ : Int) (w0 : World) (R : KR) (h : S20 s_0a s_0n s_0c table_ foreign_ w0 R) : Calls prog 20 #[.agg #[.slice s_0a s_0n s_0c], ji table_, ji foreign_] w0 (ret R) :=
 vcFn_sound (H := H20) follows_ Tryz.func20 (Eq.mpr (by kernel_rfl) h)
def S19 (s_0a : OA) (s_0n s_0c : Nat) (w0 : World) (R : KR) : Prop :=
 wr prog (Instr.box 29 (.agg #[.slice s_0a s_0n s_0c])) oA w0 fun (x1 : Addr) w2 =>
 loop (T := (Int × Unit)) (0, ()) w2 fun (g3 : Int × Unit → World → Prop) (s4 : Int × Unit) w5 => ∀ _ : NV,
 rd prog (jL 27 x1) oS w5 fun (x6 : Hd3) =>
 br (decide (s4.1 < ((x6.2.1 : Nat) : Int))) (loop (T := (Int × Unit)) (0, ()) w5 fun (g7 : Int × Unit → World → Prop) (s8 : Int × Unit) w9 => ∀ _ : NV,
 rd prog (jL 27 x1) oS w9 fun (x10 : Hd3) =>
 rdp prog (jI 27 x10 s4.1) oA fun (x11 : Addr) =>
 rd prog (jL 38 (Addr.add x11 4)) oS w9 fun (x12 : Hd3) =>
 br (decide (s8.1 < ((x12.2.1 : Nat) : Int))) (rd prog (jL 29 x1) (.agg [.slice]) w9 fun (x13 : Hd3 × Unit) =>
 call prog 20 [.agg #[jw x13.1], ji s4.1, ji s8.1] (.many [oI, oB]) w9 fun (x14 : Int × Bool × Unit) w15 =>
 br (!x14.2.1) (R (.tuple #[.slice none 0 0, ji 11]) w15)
 (z (IntKind.wrap .i64 (s8.1 + 1)) fun (z16 : Int) =>
 g7 (z16, ()) w15))
 (z (IntKind.wrap .i64 (s4.1 + 1)) fun (z17 : Int) =>
 g3 (z17, ()) w9))
 (rd prog (jL 27 x1) oS w5 fun (x18 : Hd3) =>
 wr prog (Instr.makeSlice 106 (ji ((x18.2.1 : Nat) : Int)) (ji ((x18.2.1 : Nat) : Int))) oS w5 fun (x19 : Hd3) w20 =>
 loop (T := (Hd3 × Unit)) ((none, 0, 0), ()) w20 fun (g21 : Hd3 × Unit → World → Prop) (s22 : Hd3 × Unit) w23 => ∀ _ : NV,
 rd prog (jL 27 x1) oS w23 fun (x24 : Hd3) =>
 br (decide (((s22.1.2.1 : Nat) : Int) < ((x24.2.1 : Nat) : Int))) (join (T := (Int × Unit)) (fun (s26 : Int × Unit) w27 => ∀ _ : NV,
 br (decide (s26.1 < 0)) (R (.tuple #[.slice none 0 0, ji 7]) w27)
 (rdp prog (jI 106 x19 s26.1) oA fun (x28 : Addr) =>
 wu prog (jS 4 x28 (.bool true)) w27 fun w29 =>
 wr prog (Instr.buildSlice 22 1 #[(0, (ji s26.1))]) oS w29 fun (x30 : Hd3) w31 =>
 wr prog (Builtin.append_ #[22, 22] 22 #[.slice s22.1.1 s22.1.2.1 s22.1.2.2, .slice x30.1 x30.2.1 x30.2.2]) oS w31 fun (x32 : Hd3) w33 =>
 g21 ((x32.1, x32.2.1, x32.2.2), ()) w33))
  fun (K25 : Int × Unit → World → Prop) =>
 loop (T := TF) ((-1), 0, ()) w23 fun (g34 : TF → World → Prop) (s35 : TF) w36 => ∀ _ : NV,
 rd prog (jL 27 x1) oS w36 fun (x37 : Hd3) =>
 br (decide (s35.2.1 < ((x37.2.1 : Nat) : Int))) (br (decide (s35.1 < 0)) (join (T := (Int × Unit)) (fun (s39 : Int × Unit) w40 => ∀ _ : NV,
 z (IntKind.wrap .i64 (s35.2.1 + 1)) fun (z41 : Int) =>
 g34 (s39.1, z41, ()) w40)
  fun (K38 : Int × Unit → World → Prop) =>
 rdp prog (jI 106 x19 s35.2.1) oA fun (x42 : Addr) =>
 rd prog (jL 4 x42) oB w36 fun (x43 : Bool) =>
 loop (T := (Bool × Int × Unit)) ((!x43), 0, ()) w36 fun (g44 : Bool × Int × Unit → World → Prop) (s45 : Bool × Int × Unit) w46 => ∀ _ : NV,
 rd prog (jL 27 x1) oS w46 fun (x47 : Hd3) =>
 rdp prog (jI 27 x47 s35.2.1) oA fun (x48 : Addr) =>
 rd prog (jL 38 (Addr.add x48 4)) oS w46 fun (x49 : Hd3) =>
 br (decide (s45.2.1 < ((x49.2.1 : Nat) : Int))) (rd prog (jL 29 x1) (.agg [.slice]) w46 fun (x50 : Hd3 × Unit) =>
 call prog 20 [.agg #[jw x50.1], ji s35.2.1, ji s45.2.1] (.many [oI, oB]) w46 fun (x51 : Int × Bool × Unit) w52 =>
 br s45.1 (rdp prog (jI 106 x19 x51.1) oA fun (x53 : Addr) =>
 rd prog (jL 4 x53) oB w52 fun (x54 : Bool) =>
 z (IntKind.wrap .i64 (s45.2.1 + 1)) fun (z55 : Int) =>
 g44 (x54, z55, ()) w52)
 (z (IntKind.wrap .i64 (s45.2.1 + 1)) fun (z56 : Int) =>
 g44 (false, z56, ()) w52))
 (br s45.1 (K38 (s35.2.1, ()) w46)
 (K38 (s35.1, ()) w46)))
 (K25 (s35.1, ()) w36))
 (K25 (s35.1, ()) w36))
 (R (.tuple #[jw s22.1, ji 0]) w23))
def H19 : Hints := ⟨[(2, 0, [(4, (.one (.int .i64)))]), (2, 2, [(5, (.one (.int .i64)))]), (2, 4, [(9, (.one .slice))]), (2, 6, [(10, (.one (.int .i64))), (11, (.one (.int .i64)))]), (2, 8, [(12, (.one .bool)), (13, (.one (.int .i64)))]), (1, 7, [(10, (.one (.int .i64)))]), (1, 6, [(10, (.one (.int .i64)))])], [], [], []⟩
theorem S19_calls (s_0a : OA) (s_0n s_0c : Nat) (w0 : World) (R : KR) (h : S19 s_0a s_0n s_0c w0 R) : Calls prog 19 #[.agg #[.slice s_0a s_0n s_0c]] w0 (ret R) :=
 vcFn_sound (H := H19) follows_ Tryz.func19 (Eq.mpr (by kernel_rfl) h)
def S194 (t_0 : ByteArray) (t_1a : OA) (t_1n t_1c : Nat) (t_2a : OA) (t_2n t_2c : Nat) (t_3a : OA) (t_3n t_3c : Nat) (t_4a : OA) (t_4n t_4c : Nat) (t_5a : OA) (t_5n t_5c : Nat) (l_a : OA) (l_n l_c : Nat) (w0 : World) (R : KR) : Prop :=
 wr prog (Instr.box 41 (.agg #[.string t_0, .slice t_1a t_1n t_1c, .slice t_2a t_2n t_2c, .slice t_3a t_3n t_3c, .slice t_4a t_4n t_4c, .slice t_5a t_5n t_5c])) oA w0 fun (x1 : Addr) w2 =>
 loop (T := (Int × Unit)) (0, ()) w2 fun (g3 : Int × Unit → World → Prop) (s4 : Int × Unit) w5 => ∀ _ : NV,
 br (decide (s4.1 < ((l_n : Nat) : Int))) (drw w5 fun w6 =>
 rdp prog (Instr.indexAt 22 (.slice l_a l_n l_c) (ji s4.1)) oA fun (x7 : Addr) =>
 rd prog (jL 3 x7) oI w6 fun (x8 : Int) =>
 br (decide (x8 < 0)) (R (.bool false) w6)
 (rdp prog (Instr.indexAt 22 (.slice l_a l_n l_c) (ji s4.1)) oA fun (x9 : Addr) =>
 rd prog (jL 3 x9) oI w6 fun (x10 : Int) =>
 rd prog (jL 37 (Addr.add x1 1)) oS w6 fun (x11 : Hd3) =>
 br (decide (x10 ≥ ((x11.2.1 : Nat) : Int))) (R (.bool false) w6)
 (loop (T := (Int × Unit)) (0, ()) w6 fun (g12 : Int × Unit → World → Prop) (s13 : Int × Unit) w14 => ∀ _ : NV,
 br (decide (s13.1 < s4.1)) (drw w14 fun w15 =>
 rdp prog (Instr.indexAt 22 (.slice l_a l_n l_c) (ji s13.1)) oA fun (x16 : Addr) =>
 rd prog (jL 3 x16) oI w15 fun (x17 : Int) =>
 rdp prog (Instr.indexAt 22 (.slice l_a l_n l_c) (ji s4.1)) oA fun (x18 : Addr) =>
 rd prog (jL 3 x18) oI w15 fun (x19 : Int) =>
 br (x17 == x19) (R (.bool false) w15)
 (z (IntKind.wrap .i64 (s13.1 + 1)) fun (z20 : Int) =>
 g12 (z20, ()) w15))
 (z (IntKind.wrap .i64 (s4.1 + 1)) fun (z21 : Int) =>
 g3 (z21, ()) w14))))
 (R (.bool (decide (((l_n : Nat) : Int) > 0))) w5)
def H194 : Hints := ⟨[(2, 0, [(5, (.one (.int .i64)))]), (2, 2, [(6, (.one (.int .i64)))])], [(4, 13), (9, 8)], [], []⟩
theorem S194_calls (t_0 : ByteArray) (t_1a : OA) (t_1n t_1c : Nat) (t_2a : OA) (t_2n t_2c : Nat) (t_3a : OA) (t_3n t_3c : Nat) (t_4a : OA) (t_4n t_4c : Nat) (t_5a : OA) (t_5n t_5c : Nat) (l_a : OA) (l_n l_c : Nat) (w0 : World) (R : KR) (h : S194 t_0 t_1a t_1n t_1c t_2a t_2n t_2c t_3a t_3n t_3c t_4a t_4n t_4c t_5a t_5n t_5c l_a l_n l_c w0 R) : Calls prog 194 #[.agg #[.string t_0, .slice t_1a t_1n t_1c, .slice t_2a t_2n t_2c, .slice t_3a t_3n t_3c, .slice t_4a t_4n t_4c, .slice t_5a t_5n t_5c], .slice l_a l_n l_c] w0 (ret R) :=
 vcFn_sound (H := H194) follows_ Tryz.func194 (Eq.mpr (by kernel_rfl) h)
def S126 (t_0 : ByteArray) (t_1a : OA) (t_1n t_1c : Nat) (t_2a : OA) (t_2n t_2c : Nat) (t_3a : OA) (t_3n t_3c : Nat) (t_4a : OA) (t_4n t_4c : Nat) (t_5a : OA) (t_5n t_5c : Nat) (w0 : World) (R : KR) : Prop :=
 wr prog (Instr.box 41 (.agg #[.string t_0, .slice t_1a t_1n t_1c, .slice t_2a t_2n t_2c, .slice t_3a t_3n t_3c, .slice t_4a t_4n t_4c, .slice t_5a t_5n t_5c])) oA w0 fun (x1 : Addr) w2 =>
 rd prog (jL 37 (Addr.add x1 1)) oS w2 fun (x3 : Hd3) =>
 br (decide (((x3.2.1 : Nat) : Int) > 8)) (R (ji 8) w2)
 (rd prog (jL 36 (Addr.add x1 3)) oS w2 fun (x4 : Hd3) =>
 br (decide (((x4.2.1 : Nat) : Int) > 3)) (R (ji 8) w2)
 (rd prog (jL 38 (Addr.add x1 4)) oS w2 fun (x5 : Hd3) =>
 br (decide (((x5.2.1 : Nat) : Int) > 3)) (R (ji 8) w2)
 (rd prog (jL 39 (Addr.add x1 5)) oS w2 fun (x6 : Hd3) =>
 br (decide (((x6.2.1 : Nat) : Int) > 4)) (R (ji 8) w2)
 (rd prog (jL 37 (Addr.add x1 1)) oS w2 fun (x7 : Hd3) =>
 br (((x7.2.1 : Nat) : Int) == 0) (R (ji 9) w2)
 (loop (T := (Int × Unit)) (0, ()) w2 fun (g8 : Int × Unit → World → Prop) (s9 : Int × Unit) w10 => ∀ _ : NV,
 rd prog (jL 37 (Addr.add x1 1)) oS w10 fun (x11 : Hd3) =>
 br (decide (s9.1 < ((x11.2.1 : Nat) : Int))) (rd prog (jL 37 (Addr.add x1 1)) oS w10 fun (x12 : Hd3) =>
 rdp prog (jI 37 x12 s9.1) oA fun (x13 : Addr) =>
 rd prog (jL 62 x13) (.agg [.str, .int .i64, .bool]) w10 fun (x14 : ByteArray × Int × Bool × Unit) =>
 wr prog (Instr.alloc 62 true (.tuple #[])) oA w10 fun (x15 : Addr) w16 =>
 wu prog (jS 62 x15 (.agg #[.string x14.1, ji x14.2.1, .bool x14.2.2.1])) w16 fun w17 =>
 rd prog (jL 9 x15) (.one .str) w17 fun (x18 : ByteArray) =>
 call prog 125 [.string x18] (.one oB) w17 fun (x19 : Bool) w20 =>
 br (!x19) (R (ji 3) w20)
 (rd prog (jL 41 x1) (.agg [.str, .slice, .slice, .slice, .slice, .slice]) w20 fun (x21 : ByteArray × Hd3 × Hd3 × TS) =>
 rd prog (jL 9 x15) (.one .str) w20 fun (x22 : ByteArray) =>
 call prog 193 [.agg #[.string x21.1, jw x21.2.1, jw x21.2.2.1, jw x21.2.2.2.1, jw x21.2.2.2.2.1, jw x21.2.2.2.2.2.1], .string x22] (.many [oI, oB]) w20 fun (x23 : Int × Bool × Unit) w24 =>
 br (x23.1 != s9.1) (R (ji 5) w24)
 (rd prog (jL 3 (Addr.add x15 1)) oI w24 fun (x25 : Int) =>
 br (decide (x25 < 1)) (R (ji 4) w24)
 (rd prog (jL 3 (Addr.add x15 1)) oI w24 fun (x26 : Int) =>
 br (decide (x26 > 3)) (R (ji 4) w24)
 (z (IntKind.wrap .i64 (s9.1 + 1)) fun (z27 : Int) =>
 g8 (z27, ()) w24)))))
 (rd prog (jL 41 x1) (.agg [.str, .slice, .slice, .slice, .slice, .slice]) w10 fun (x28 : ByteArray × Hd3 × Hd3 × TS) =>
 rd prog (jL 22 (Addr.add x1 2)) oS w10 fun (x29 : Hd3) =>
 call prog 194 [.agg #[.string x28.1, jw x28.2.1, jw x28.2.2.1, jw x28.2.2.2.1, jw x28.2.2.2.2.1, jw x28.2.2.2.2.2.1], jw x29] (.one oB) w10 fun (x30 : Bool) w31 =>
 br (!x30) (R (ji 6) w31)
 (loop (T := (Int × Unit)) (0, ()) w31 fun (g32 : Int × Unit → World → Prop) (s33 : Int × Unit) w34 => ∀ _ : NV,
 rd prog (jL 22 (Addr.add x1 2)) oS w34 fun (x35 : Hd3) =>
 br (decide (s33.1 < ((x35.2.1 : Nat) : Int))) (drw w34 fun w36 =>
 rd prog (jL 37 (Addr.add x1 1)) oS w36 fun (x37 : Hd3) =>
 rd prog (jL 22 (Addr.add x1 2)) oS w36 fun (x38 : Hd3) =>
 rdp prog (jI 22 x38 s33.1) oA fun (x39 : Addr) =>
 rd prog (jL 3 x39) oI w36 fun (x40 : Int) =>
 rdp prog (jI 37 x37 x40) oA fun (x41 : Addr) =>
 rd prog (jL 4 (Addr.add x41 2)) oB w36 fun (x42 : Bool) =>
 br x42 (R (ji 4) w36)
 (z (IntKind.wrap .i64 (s33.1 + 1)) fun (z43 : Int) =>
 g32 (z43, ()) w36))
 (loop (T := (Int × Unit)) (0, ()) w34 fun (g44 : Int × Unit → World → Prop) (s45 : Int × Unit) w46 => ∀ _ : NV,
 rd prog (jL 36 (Addr.add x1 3)) oS w46 fun (x47 : Hd3) =>
 br (decide (s45.1 < ((x47.2.1 : Nat) : Int))) (drw w46 fun w48 =>
 rd prog (jL 41 x1) (.agg [.str, .slice, .slice, .slice, .slice, .slice]) w48 fun (x49 : ByteArray × Hd3 × Hd3 × TS) =>
 rd prog (jL 36 (Addr.add x1 3)) oS w48 fun (x50 : Hd3) =>
 rdp prog (jI 36 x50 s45.1) oA fun (x51 : Addr) =>
 rd prog (jL 22 x51) oS w48 fun (x52 : Hd3) =>
 call prog 194 [.agg #[.string x49.1, jw x49.2.1, jw x49.2.2.1, jw x49.2.2.2.1, jw x49.2.2.2.2.1, jw x49.2.2.2.2.2.1], jw x52] (.one oB) w48 fun (x53 : Bool) w54 =>
 br (!x53) (R (ji 6) w54)
 (z (IntKind.wrap .i64 (s45.1 + 1)) fun (z55 : Int) =>
 g44 (z55, ()) w54))
 (loop (T := (Int × Unit)) (0, ()) w46 fun (g56 : Int × Unit → World → Prop) (s57 : Int × Unit) w58 => ∀ _ : NV,
 rd prog (jL 38 (Addr.add x1 4)) oS w58 fun (x59 : Hd3) =>
 br (decide (s57.1 < ((x59.2.1 : Nat) : Int))) (drw w58 fun w60 =>
 rd prog (jL 41 x1) (.agg [.str, .slice, .slice, .slice, .slice, .slice]) w60 fun (x61 : ByteArray × Hd3 × Hd3 × TS) =>
 rd prog (jL 38 (Addr.add x1 4)) oS w60 fun (x62 : Hd3) =>
 rdp prog (jI 38 x62 s57.1) oA fun (x63 : Addr) =>
 rd prog (jL 22 x63) oS w60 fun (x64 : Hd3) =>
 call prog 194 [.agg #[.string x61.1, jw x61.2.1, jw x61.2.2.1, jw x61.2.2.2.1, jw x61.2.2.2.2.1, jw x61.2.2.2.2.2.1], jw x64] (.one oB) w60 fun (x65 : Bool) w66 =>
 br (!x65) (R (ji 6) w66)
 (z (IntKind.wrap .i64 (s57.1 + 1)) fun (z67 : Int) =>
 g56 (z67, ()) w66))
 (loop (T := (Int × Unit)) (0, ()) w58 fun (g68 : Int × Unit → World → Prop) (s69 : Int × Unit) w70 => ∀ _ : NV,
 rd prog (jL 39 (Addr.add x1 5)) oS w70 fun (x71 : Hd3) =>
 br (decide (s69.1 < ((x71.2.1 : Nat) : Int))) (drw w70 fun w72 => flEx fun F73 =>
 rd prog (jL 41 x1) (.agg [.str, .slice, .slice, .slice, .slice, .slice]) w72 fun (x74 : ByteArray × Hd3 × Hd3 × TS) =>
 flc bel w72 (fun _w76 => True) (fun w75 =>
   call prog 195 [.agg #[.string x74.1, jw x74.2.1, jw x74.2.2.1, jw x74.2.2.2.1, jw x74.2.2.2.2.1, jw x74.2.2.2.2.2.1]] (.one oS) w75 fun (x77 : Hd3) w78 =>
 (bel w75 w78 ∧ F73 1 [.agg #[.string x74.1, jw x74.2.1, jw x74.2.2.1, jw x74.2.2.2.1, jw x74.2.2.2.2.1, jw x74.2.2.2.2.2.1]] (jw x77) w78))
  fun (x79 : Hd3) =>
 rd prog (jL 39 (Addr.add x1 5)) oS w72 fun (x80 : Hd3) =>
 rdp prog (jI 39 x80 s69.1) oA fun (x81 : Addr) =>
 rd prog (jL 66 x81) (.agg [.int .i64, .int .i64, .int .i64, .str, .int .i64, .slice]) w72 fun (x82 : Int × Int × Int × ByteArray × Int × Hd3 × Unit) =>
 flend bel w72 (fun w84 => F73 1 [.agg #[.string x74.1, jw x74.2.1, jw x74.2.2.1, jw x74.2.2.2.1, jw x74.2.2.2.2.1, jw x74.2.2.2.2.2.1]] (jw x79) w84 ∧ True) fun w83 =>
 call prog 145 [jw x79, .agg #[ji x82.1, ji x82.2.1, ji x82.2.2.1, .string x82.2.2.2.1, ji x82.2.2.2.2.1, jw x82.2.2.2.2.2.1]] (.many [oI, oI]) w83 fun (x85 : TF) w86 =>
 br (x85.2.1 != 0) (R (ji x85.2.1) w86)
 (br (x85.1 != 2) (R (ji 4) w86)
 (z (IntKind.wrap .i64 (s69.1 + 1)) fun (z87 : Int) =>
 g68 (z87, ()) w86)))
 (R (ji 0) w70)))))))))))
def H126 : Hints := ⟨[(2, 0, [(3, (.one (.int .i64)))]), (2, 2, [(7, (.one (.int .i64)))]), (2, 4, [(8, (.one (.int .i64)))]), (2, 6, [(9, (.one (.int .i64)))]), (2, 8, [(10, (.one (.int .i64)))])], [(21, 7), (26, 6), (31, 7), (36, 7)], [], []⟩
theorem S126_calls (t_0 : ByteArray) (t_1a : OA) (t_1n t_1c : Nat) (t_2a : OA) (t_2n t_2c : Nat) (t_3a : OA) (t_3n t_3c : Nat) (t_4a : OA) (t_4n t_4c : Nat) (t_5a : OA) (t_5n t_5c : Nat) (w0 : World) (R : KR) (h : S126 t_0 t_1a t_1n t_1c t_2a t_2n t_2c t_3a t_3n t_3c t_4a t_4n t_4c t_5a t_5n t_5c w0 R) : Calls prog 126 #[.agg #[.string t_0, .slice t_1a t_1n t_1c, .slice t_2a t_2n t_2c, .slice t_3a t_3n t_3c, .slice t_4a t_4n t_4c, .slice t_5a t_5n t_5c]] w0 (ret R) :=
 vcFn_sound (H := H126) follows_ Tryz.func126 (Eq.mpr (by kernel_rfl) h)
def S71 (s_0a : OA) (s_0n s_0c : Nat) (w0 : World) (R : KR) : Prop :=
 wr prog (Instr.box 29 (.agg #[.slice s_0a s_0n s_0c])) oA w0 fun (x1 : Addr) w2 =>
 rd prog (jL 27 x1) oS w2 fun (x3 : Hd3) =>
 br (decide (((x3.2.1 : Nat) : Int) > 6)) (R (ji 8) w2)
 (loop (T := (Int × Unit)) (0, ()) w2 fun (g4 : Int × Unit → World → Prop) (s5 : Int × Unit) w6 => ∀ _ : NV,
 rd prog (jL 27 x1) oS w6 fun (x7 : Hd3) =>
 br (decide (s5.1 < ((x7.2.1 : Nat) : Int))) (rd prog (jL 27 x1) oS w6 fun (x8 : Hd3) =>
 rdp prog (jI 27 x8 s5.1) oA fun (x9 : Addr) =>
 rd prog (jL 9 x9) (.one .str) w6 fun (x10 : ByteArray) =>
 call prog 125 [.string x10] (.one oB) w6 fun (x11 : Bool) w12 =>
 br (!x11) (R (ji 3) w12)
 (drw w12 fun w13 =>
 rd prog (jL 29 x1) (.agg [.slice]) w13 fun (x14 : Hd3 × Unit) =>
 rd prog (jL 27 x1) oS w13 fun (x15 : Hd3) =>
 rdp prog (jI 27 x15 s5.1) oA fun (x16 : Addr) =>
 rd prog (jL 9 x16) (.one .str) w13 fun (x17 : ByteArray) =>
 call prog 42 [.agg #[jw x14.1], .string x17] (.many [oI, oB]) w13 fun (x18 : Int × Bool × Unit) w19 =>
 br (x18.1 != s5.1) (R (ji 5) w19)
 (rd prog (jL 27 x1) oS w19 fun (x20 : Hd3) =>
 rdp prog (jI 27 x20 s5.1) oA fun (x21 : Addr) =>
 rd prog (jL 41 x21) (.agg [.str, .slice, .slice, .slice, .slice, .slice]) w19 fun (x22 : ByteArray × Hd3 × Hd3 × TS) =>
 call prog 126 [.agg #[.string x22.1, jw x22.2.1, jw x22.2.2.1, jw x22.2.2.2.1, jw x22.2.2.2.2.1, jw x22.2.2.2.2.2.1]] (.one oI) w19 fun (x23 : Int) w24 =>
 br (x23 != 0) (R (ji x23) w24)
 (z (IntKind.wrap .i64 (s5.1 + 1)) fun (z25 : Int) =>
 g4 (z25, ()) w24))))
 (loop (T := (Int × Unit)) (0, ()) w6 fun (g26 : Int × Unit → World → Prop) (s27 : Int × Unit) w28 => ∀ _ : NV,
 rd prog (jL 27 x1) oS w28 fun (x29 : Hd3) =>
 br (decide (s27.1 < ((x29.2.1 : Nat) : Int))) (loop (T := (Int × Unit)) (0, ()) w28 fun (g30 : Int × Unit → World → Prop) (s31 : Int × Unit) w32 => ∀ _ : NV,
 rd prog (jL 27 x1) oS w32 fun (x33 : Hd3) =>
 rdp prog (jI 27 x33 s27.1) oA fun (x34 : Addr) =>
 rd prog (jL 38 (Addr.add x34 4)) oS w32 fun (x35 : Hd3) =>
 br (decide (s31.1 < ((x35.2.1 : Nat) : Int))) (rd prog (jL 29 x1) (.agg [.slice]) w32 fun (x36 : Hd3 × Unit) =>
 call prog 20 [.agg #[jw x36.1], ji s27.1, ji s31.1] (.many [oI, oB]) w32 fun (x37 : Int × Bool × Unit) w38 =>
 br (!x37.2.1) (R (ji 11) w38)
 (drw w38 fun w39 =>
 rd prog (jL 27 x1) oS w39 fun (x40 : Hd3) =>
 rdp prog (jI 27 x40 s27.1) oA fun (x41 : Addr) =>
 rd prog (jL 38 (Addr.add x41 4)) oS w39 fun (x42 : Hd3) =>
 rdp prog (jI 38 x42 s31.1) oA fun (x43 : Addr) =>
 rd prog (jL 22 x43) oS w39 fun (x44 : Hd3) =>
 rd prog (jL 27 x1) oS w39 fun (x45 : Hd3) =>
 rdp prog (jI 27 x45 x37.1) oA fun (x46 : Addr) =>
 rd prog (jL 22 (Addr.add x46 2)) oS w39 fun (x47 : Hd3) =>
 br (((x44.2.1 : Nat) : Int) != ((x47.2.1 : Nat) : Int)) (R (ji 6) w39)
 (loop (T := (Int × Unit)) (0, ()) w39 fun (g48 : Int × Unit → World → Prop) (s49 : Int × Unit) w50 => ∀ _ : NV,
 br (decide (s49.1 < ((x44.2.1 : Nat) : Int))) (drw w50 fun w51 =>
 rd prog (jL 27 x1) oS w51 fun (x52 : Hd3) =>
 rdp prog (jI 27 x52 s27.1) oA fun (x53 : Addr) =>
 rd prog (jL 37 (Addr.add x53 1)) oS w51 fun (x54 : Hd3) =>
 rdp prog (jI 22 x44 s49.1) oA fun (x55 : Addr) =>
 rd prog (jL 3 x55) oI w51 fun (x56 : Int) =>
 rdp prog (jI 37 x54 x56) oA fun (x57 : Addr) =>
 rd prog (jL 3 (Addr.add x57 1)) oI w51 fun (x58 : Int) =>
 rd prog (jL 27 x1) oS w51 fun (x59 : Hd3) =>
 rdp prog (jI 27 x59 x37.1) oA fun (x60 : Addr) =>
 rd prog (jL 37 (Addr.add x60 1)) oS w51 fun (x61 : Hd3) =>
 rdp prog (jI 22 x47 s49.1) oA fun (x62 : Addr) =>
 rd prog (jL 3 x62) oI w51 fun (x63 : Int) =>
 rdp prog (jI 37 x61 x63) oA fun (x64 : Addr) =>
 rd prog (jL 3 (Addr.add x64 1)) oI w51 fun (x65 : Int) =>
 br (x58 != x65) (R (ji 6) w51)
 (z (IntKind.wrap .i64 (s49.1 + 1)) fun (z66 : Int) =>
 g48 (z66, ()) w51))
 (z (IntKind.wrap .i64 (s31.1 + 1)) fun (z67 : Int) =>
 g30 (z67, ()) w50))))
 (z (IntKind.wrap .i64 (s27.1 + 1)) fun (z68 : Int) =>
 g26 (z68, ()) w32))
 (rd prog (jL 29 x1) (.agg [.slice]) w28 fun (x69 : Hd3 × Unit) =>
 call prog 19 [.agg #[jw x69.1]] (.many [oS, oI]) w28 fun (x70 : Hd3 × Int × Unit) w71 =>
 R (ji x70.2.1) w71)))
def H71 : Hints := ⟨[(2, 0, [(3, (.one (.int .i64)))]), (2, 2, [(7, (.one (.int .i64)))]), (2, 4, [(8, (.one (.int .i64)))]), (2, 6, [(13, (.one (.int .i64)))])], [(8, 7), (23, 17), (29, 26)], [], []⟩
theorem S71_calls (s_0a : OA) (s_0n s_0c : Nat) (w0 : World) (R : KR) (h : S71 s_0a s_0n s_0c w0 R) : Calls prog 71 #[.agg #[.slice s_0a s_0n s_0c]] w0 (ret R) :=
 vcFn_sound (H := H71) follows_ Tryz.func71 (Eq.mpr (by kernel_rfl) h)
def S128 (l_a : OA) (l_n l_c : Nat) (n_ : Int) (w0 : World) (R : KR) : Prop :=
 loop (T := (Int × Unit)) (0, ()) w0 fun (g1 : Int × Unit → World → Prop) (s2 : Int × Unit) w3 => ∀ _ : NV,
 br (decide (s2.1 < ((l_n : Nat) : Int))) (rdp prog (Instr.indexAt 22 (.slice l_a l_n l_c) (ji s2.1)) oA fun (x4 : Addr) =>
 rd prog (jL 3 x4) oI w3 fun (x5 : Int) =>
 br (x5 == n_) (R (.bool true) w3)
 (z (IntKind.wrap .i64 (s2.1 + 1)) fun (z6 : Int) =>
 g1 (z6, ()) w3))
 (R (.bool false) w3)
def H128 : Hints := ⟨[(2, 0, [(5, (.one (.int .i64)))])], [], [], []⟩
theorem S128_calls (l_a : OA) (l_n l_c : Nat) (n_ : Int) (w0 : World) (R : KR) (h : S128 l_a l_n l_c n_ w0 R) : Calls prog 128 #[.slice l_a l_n l_c, ji n_] w0 (ret R) :=
 vcFn_sound (H := H128) follows_ Tryz.func128 (Eq.mpr (by kernel_rfl) h)
def S130 (row_a : OA) (row_n row_c : Nat) (columns_a : OA) (columns_n columns_c : Nat) (w0 : World) (R : KR) : Prop :=
 loop (T := (Hd3 × Int × Unit)) ((none, 0, 0), 0, ()) w0 fun (g1 : Hd3 × Int × Unit → World → Prop) (s2 : Hd3 × Int × Unit) w3 => ∀ _ : NV,
 br (decide (s2.2.1 < ((columns_n : Nat) : Int))) (rdp prog (Instr.indexAt 22 (.slice columns_a columns_n columns_c) (ji s2.2.1)) oA fun (x4 : Addr) =>
 rd prog (jL 3 x4) oI w3 fun (x5 : Int) =>
 rdp prog (Instr.indexAt 56 (.slice row_a row_n row_c) (ji x5)) oA fun (x6 : Addr) =>
 rd prog (jL 55 x6) (.agg [.int .i64, .int .i64, .str]) w3 fun (x7 : Int × Int × ByteArray × Unit) =>
 wr prog (Instr.buildSlice 56 1 #[(0, (.agg #[ji x7.1, ji x7.2.1, .string x7.2.2.1]))]) oS w3 fun (x8 : Hd3) w9 =>
 wr prog (Builtin.append_ #[56, 56] 56 #[.slice s2.1.1 s2.1.2.1 s2.1.2.2, .slice x8.1 x8.2.1 x8.2.2]) oS w9 fun (x10 : Hd3) w11 =>
 z (IntKind.wrap .i64 (s2.2.1 + 1)) fun (z12 : Int) =>
 g1 ((x10.1, x10.2.1, x10.2.2), z12, ()) w11)
 (R (jw s2.1) w3)
def H130 : Hints := ⟨[(2, 0, [(5, (.one .slice)), (6, (.one (.int .i64)))])], [], [], []⟩
theorem S130_calls (row_a : OA) (row_n row_c : Nat) (columns_a : OA) (columns_n columns_c : Nat) (w0 : World) (R : KR) (h : S130 row_a row_n row_c columns_a columns_n columns_c w0 R) : Calls prog 130 #[.slice row_a row_n row_c, .slice columns_a columns_n columns_c] w0 (ret R) :=
 vcFn_sound (H := H130) follows_ Tryz.func130 (Eq.mpr (by kernel_rfl) h)
def S131 (l_a : OA) (l_n l_c : Nat) (w0 : World) (R : KR) : Prop :=
 loop (T := (Int × Unit)) (0, ()) w0 fun (g1 : Int × Unit → World → Prop) (s2 : Int × Unit) w3 => ∀ _ : NV,
 br (decide (s2.1 < ((l_n : Nat) : Int))) (rdp prog (Instr.indexAt 56 (.slice l_a l_n l_c) (ji s2.1)) oA fun (x4 : Addr) =>
 rd prog (jL 3 x4) oI w3 fun (x5 : Int) =>
 br (x5 == 0) (R (.bool true) w3)
 (z (IntKind.wrap .i64 (s2.1 + 1)) fun (z6 : Int) =>
 g1 (z6, ()) w3))
 (R (.bool false) w3)
def H131 : Hints := ⟨[(2, 0, [(3, (.one (.int .i64)))])], [], [], []⟩
theorem S131_calls (l_a : OA) (l_n l_c : Nat) (w0 : World) (R : KR) (h : S131 l_a l_n l_c w0 R) : Calls prog 131 #[.slice l_a l_n l_c] w0 (ret R) :=
 vcFn_sound (H := H131) follows_ Tryz.func131 (Eq.mpr (by kernel_rfl) h)
def S72 (t_0 : ByteArray) (t_1a : OA) (t_1n t_1c : Nat) (t_2a : OA) (t_2n t_2c : Nat) (t_3a : OA) (t_3n t_3c : Nat) (t_4a : OA) (t_4n t_4c : Nat) (t_5a : OA) (t_5n t_5c : Nat) (n_ : Int) (l_a : OA) (l_n l_c : Nat) (w0 : World) (R : KR) : Prop :=
 wr prog (Instr.box 41 (.agg #[.string t_0, .slice t_1a t_1n t_1c, .slice t_2a t_2n t_2c, .slice t_3a t_3n t_3c, .slice t_4a t_4n t_4c, .slice t_5a t_5n t_5c])) oA w0 fun (x1 : Addr) w2 =>
 loop (T := (Hd3 × Bool × Int × Unit)) ((none, 0, 0), true, 0, ()) w2 fun (g3 : Hd3 × Bool × Int × Unit → World → Prop) (s4 : Hd3 × Bool × Int × Unit) w5 => ∀ _ : NV,
 br (decide (s4.2.2.1 < ((l_n : Nat) : Int))) (join (T := (Hd3 × Bool × Unit)) (fun (s7 : Hd3 × Bool × Unit) w8 => ∀ _ : NV,
 z (IntKind.wrap .i64 (s4.2.2.1 + 1)) fun (z9 : Int) =>
 g3 ((s7.1.1, s7.1.2.1, s7.1.2.2), s7.2.1, z9, ()) w8)
  fun (K6 : Hd3 × Bool × Unit → World → Prop) =>
 drw w5 fun w10 =>
 rdp prog (Instr.indexAt 53 (.slice l_a l_n l_c) (ji s4.2.2.1)) oA fun (x11 : Addr) =>
 rd prog (jL 56 x11) oS w10 fun (x12 : Hd3) =>
 rd prog (jL 37 (Addr.add x1 1)) oS w10 fun (x13 : Hd3) =>
 br (((x12.2.1 : Nat) : Int) != ((x13.2.1 : Nat) : Int)) (wr prog (Instr.buildSlice 91 1 #[(0, (.agg #[ji 1, ji n_, ji 0, ji s4.2.2.1, ji 0]))]) oS w10 fun (x14 : Hd3) w15 =>
 wr prog (Builtin.append_ #[91, 91] 91 #[.slice s4.1.1 s4.1.2.1 s4.1.2.2, .slice x14.1 x14.2.1 x14.2.2]) oS w15 fun (x16 : Hd3) w17 =>
 K6 ((x16.1, x16.2.1, x16.2.2), false, ()) w17)
 (loop (T := (Hd3 × Bool × Int × Unit)) ((s4.1.1, s4.1.2.1, s4.1.2.2), s4.2.1, 0, ()) w10 fun (g18 : Hd3 × Bool × Int × Unit → World → Prop) (s19 : Hd3 × Bool × Int × Unit) w20 => ∀ _ : NV,
 rd prog (jL 37 (Addr.add x1 1)) oS w20 fun (x21 : Hd3) =>
 br (decide (s19.2.2.1 < ((x21.2.1 : Nat) : Int))) (join (T := (Hd3 × Bool × Unit)) (fun (s23 : Hd3 × Bool × Unit) w24 => ∀ _ : NV,
 z (IntKind.wrap .i64 (s19.2.2.1 + 1)) fun (z25 : Int) =>
 g18 ((s23.1.1, s23.1.2.1, s23.1.2.2), s23.2.1, z25, ()) w24)
  fun (K22 : Hd3 × Bool × Unit → World → Prop) =>
 rdp prog (Instr.indexAt 53 (.slice l_a l_n l_c) (ji s4.2.2.1)) oA fun (x26 : Addr) =>
 rd prog (jL 56 x26) oS w20 fun (x27 : Hd3) =>
 rdp prog (jI 56 x27 s19.2.2.1) oA fun (x28 : Addr) =>
 rd prog (jL 55 x28) (.agg [.int .i64, .int .i64, .str]) w20 fun (x29 : Int × Int × ByteArray × Unit) =>
 wr prog (Instr.alloc 55 true (.tuple #[])) oA w20 fun (x30 : Addr) w31 =>
 wu prog (jS 55 x30 (.agg #[ji x29.1, ji x29.2.1, .string x29.2.2.1])) w31 fun w32 =>
 join (T := (Bool × Unit)) (fun (s34 : Bool × Unit) w35 => ∀ _ : NV,
 br s34.1 (wr prog (Instr.buildSlice 91 1 #[(0, (.agg #[ji 2, ji n_, ji s19.2.2.1, ji s4.2.2.1, ji 0]))]) oS w35 fun (x36 : Hd3) w37 =>
 wr prog (Builtin.append_ #[91, 91] 91 #[.slice s19.1.1 s19.1.2.1 s19.1.2.2, .slice x36.1 x36.2.1 x36.2.2]) oS w37 fun (x38 : Hd3) w39 =>
 K22 ((x38.1, x38.2.1, x38.2.2), false, ()) w39)
 (rd prog (jL 3 x30) oI w35 fun (x40 : Int) =>
 br (x40 == 0) (rd prog (jL 37 (Addr.add x1 1)) oS w35 fun (x41 : Hd3) =>
 rdp prog (jI 37 x41 s19.2.2.1) oA fun (x42 : Addr) =>
 rd prog (jL 4 (Addr.add x42 2)) oB w35 fun (x43 : Bool) =>
 br (!x43) (wr prog (Instr.buildSlice 91 1 #[(0, (.agg #[ji 3, ji n_, ji s19.2.2.1, ji s4.2.2.1, ji 0]))]) oS w35 fun (x44 : Hd3) w45 =>
 wr prog (Builtin.append_ #[91, 91] 91 #[.slice s19.1.1 s19.1.2.1 s19.1.2.2, .slice x44.1 x44.2.1 x44.2.2]) oS w45 fun (x46 : Hd3) w47 =>
 K22 ((x46.1, x46.2.1, x46.2.2), s19.2.1, ()) w47)
 (rd prog (jL 22 (Addr.add x1 2)) oS w35 fun (x48 : Hd3) =>
 call prog 128 [jw x48, ji s19.2.2.1] (.one oB) w35 fun (x49 : Bool) w50 =>
 br x49 (wr prog (Instr.buildSlice 91 1 #[(0, (.agg #[ji 3, ji n_, ji s19.2.2.1, ji s4.2.2.1, ji 0]))]) oS w50 fun (x51 : Hd3) w52 =>
 wr prog (Builtin.append_ #[91, 91] 91 #[.slice s19.1.1 s19.1.2.1 s19.1.2.2, .slice x51.1 x51.2.1 x51.2.2]) oS w52 fun (x53 : Hd3) w54 =>
 K22 ((x53.1, x53.2.1, x53.2.2), s19.2.1, ()) w54)
 (K22 ((s19.1.1, s19.1.2.1, s19.1.2.2), s19.2.1, ()) w50)))
 (K22 ((s19.1.1, s19.1.2.1, s19.1.2.2), s19.2.1, ()) w35)))
  fun (K33 : Bool × Unit → World → Prop) =>
 drw w32 fun w55 => flEx fun F56 =>
 rd prog (jL 55 x30) (.agg [.int .i64, .int .i64, .str]) w55 fun (x57 : Int × Int × ByteArray × Unit) =>
 flc bel w55 (fun _w59 => True) (fun w58 =>
   call prog 127 [.agg #[ji x57.1, ji x57.2.1, .string x57.2.2.1]] (.one oB) w58 fun (x60 : Bool) w61 =>
 (bel w58 w61 ∧ F56 1 [.agg #[ji x57.1, ji x57.2.1, .string x57.2.2.1]] (.bool x60) w61))
  fun (x62 : Bool) =>
 br (!x62) (flend bel w55 (fun w64 => F56 1 [.agg #[ji x57.1, ji x57.2.1, .string x57.2.2.1]] (.bool x62) w64 ∧ True) fun w63 =>
 K33 (true, ()) w63)
 (rd prog (jL 3 x30) oI w55 fun (x65 : Int) =>
 br (x65 != 0) (rd prog (jL 3 x30) oI w55 fun (x66 : Int) =>
 rd prog (jL 37 (Addr.add x1 1)) oS w55 fun (x67 : Hd3) =>
 rdp prog (jI 37 x67 s19.2.2.1) oA fun (x68 : Addr) =>
 rd prog (jL 3 (Addr.add x68 1)) oI w55 fun (x69 : Int) =>
 flend bel w55 (fun w71 => F56 1 [.agg #[ji x57.1, ji x57.2.1, .string x57.2.2.1]] (.bool x62) w71 ∧ True) fun w70 =>
 K33 ((x66 != x69), ()) w70)
 (flend bel w55 (fun w73 => F56 1 [.agg #[ji x57.1, ji x57.2.1, .string x57.2.2.1]] (.bool x62) w73 ∧ True) fun w72 =>
 K33 (false, ()) w72)))
 (K6 ((s19.1.1, s19.1.2.1, s19.1.2.2), s19.2.1, ()) w20)))
 (R (.tuple #[jw s4.1, .bool s4.2.1]) w5)
def H72 : Hints := ⟨[(2, 0, [(8, (.one .slice)), (9, (.one .bool)), (10, (.one (.int .i64)))]), (2, 2, [(8, (.one .slice)), (9, (.one .bool)), (11, (.one (.int .i64)))]), (3, 12, [(66, (.one .bool))]), (1, 3, [(8, (.one .slice)), (9, (.one .bool))]), (1, 1, [(8, (.one .slice)), (9, (.one .bool))])], [(6, 8), (12, 16)], [], []⟩
theorem S72_calls (t_0 : ByteArray) (t_1a : OA) (t_1n t_1c : Nat) (t_2a : OA) (t_2n t_2c : Nat) (t_3a : OA) (t_3n t_3c : Nat) (t_4a : OA) (t_4n t_4c : Nat) (t_5a : OA) (t_5n t_5c : Nat) (n_ : Int) (l_a : OA) (l_n l_c : Nat) (w0 : World) (R : KR) (h : S72 t_0 t_1a t_1n t_1c t_2a t_2n t_2c t_3a t_3n t_3c t_4a t_4n t_4c t_5a t_5n t_5c n_ l_a l_n l_c w0 R) : Calls prog 72 #[.agg #[.string t_0, .slice t_1a t_1n t_1c, .slice t_2a t_2n t_2c, .slice t_3a t_3n t_3c, .slice t_4a t_4n t_4c, .slice t_5a t_5n t_5c], ji n_, .slice l_a l_n l_c] w0 (ret R) :=
 vcFn_sound (H := H72) follows_ Tryz.func72 (Eq.mpr (by kernel_rfl) h)
def S129 (kind_ n_ index_ : Int) (columns_a : OA) (columns_n columns_c : Nat) (l_a : OA) (l_n l_c : Nat) (nulls_ : Bool) (w0 : World) (R : KR) : Prop :=
 loop (T := (Hd3 × Int × Unit)) ((none, 0, 0), 0, ()) w0 fun (g1 : Hd3 × Int × Unit → World → Prop) (s2 : Hd3 × Int × Unit) w3 => ∀ _ : NV,
 br (decide (s2.2.1 < ((l_n : Nat) : Int))) (join (T := (Hd3 × Unit)) (fun (s5 : Hd3 × Unit) w6 => ∀ _ : NV,
 z (IntKind.wrap .i64 (s2.2.1 + 1)) fun (z7 : Int) =>
 g1 ((s5.1.1, s5.1.2.1, s5.1.2.2), z7, ()) w6)
  fun (K4 : Hd3 × Unit → World → Prop) =>
 rdp prog (Instr.indexAt 53 (.slice l_a l_n l_c) (ji s2.2.1)) oA fun (x8 : Addr) =>
 rd prog (jL 56 x8) oS w3 fun (x9 : Hd3) =>
 call prog 130 [jw x9, .slice columns_a columns_n columns_c] (.one oS) w3 fun (x10 : Hd3) w11 =>
 join (T := Unit) (fun (_s13 : Unit) w14 => ∀ _ : NV,
 loop (T := (Hd3 × Int × Unit)) ((s2.1.1, s2.1.2.1, s2.1.2.2), 0, ()) w14 fun (g15 : Hd3 × Int × Unit → World → Prop) (s16 : Hd3 × Int × Unit) w17 => ∀ _ : NV,
 br (decide (s16.2.1 < s2.2.1)) (rdp prog (Instr.indexAt 53 (.slice l_a l_n l_c) (ji s16.2.1)) oA fun (x18 : Addr) =>
 rd prog (jL 56 x18) oS w17 fun (x19 : Hd3) =>
 call prog 130 [jw x19, .slice columns_a columns_n columns_c] (.one oS) w17 fun (x20 : Hd3) w21 =>
 call prog 132 [jw x20, jw x10] (.one oI) w21 fun (x22 : Int) w23 =>
 br (x22 == 0) (wr prog (Instr.buildSlice 91 1 #[(0, (.agg #[ji kind_, ji n_, ji index_, ji s2.2.1, ji s16.2.1]))]) oS w23 fun (x24 : Hd3) w25 =>
 wr prog (Builtin.append_ #[91, 91] 91 #[.slice s16.1.1 s16.1.2.1 s16.1.2.2, .slice x24.1 x24.2.1 x24.2.2]) oS w25 fun (x26 : Hd3) w27 =>
 K4 ((x26.1, x26.2.1, x26.2.2), ()) w27)
 (z (IntKind.wrap .i64 (s16.2.1 + 1)) fun (z28 : Int) =>
 g15 ((s16.1.1, s16.1.2.1, s16.1.2.2), z28, ()) w23))
 (K4 ((s16.1.1, s16.1.2.1, s16.1.2.2), ()) w17))
  fun (K12 : Unit → World → Prop) =>
 call prog 131 [jw x10] (.one oB) w11 fun (x29 : Bool) w30 =>
 br x29 (br (!nulls_) (K4 ((s2.1.1, s2.1.2.1, s2.1.2.2), ()) w30)
 (K12 (()) w30))
 (K12 (()) w30))
 (R (jw s2.1) w3)
def H129 : Hints := ⟨[(2, 0, [(13, (.one .slice)), (14, (.one (.int .i64)))]), (0, 34, []), (2, 2, [(13, (.one .slice)), (16, (.one (.int .i64)))]), (1, 1, [(13, (.one .slice))])], [], [], []⟩
theorem S129_calls (kind_ n_ index_ : Int) (columns_a : OA) (columns_n columns_c : Nat) (l_a : OA) (l_n l_c : Nat) (nulls_ : Bool) (w0 : World) (R : KR) (h : S129 kind_ n_ index_ columns_a columns_n columns_c l_a l_n l_c nulls_ w0 R) : Calls prog 129 #[ji kind_, ji n_, ji index_, .slice columns_a columns_n columns_c, .slice l_a l_n l_c, .bool nulls_] w0 (ret R) :=
 vcFn_sound (H := H129) follows_ Tryz.func129 (Eq.mpr (by kernel_rfl) h)
def S34 (s_0a : OA) (s_0n s_0c : Nat) (i_0a : OA) (i_0n i_0c : Nat) (w0 : World) (R : KR) : Prop :=
 wr prog (Instr.box 29 (.agg #[.slice s_0a s_0n s_0c])) oA w0 fun (x1 : Addr) w2 =>
 wr prog (Instr.box 34 (.agg #[.slice i_0a i_0n i_0c])) oA w2 fun (x3 : Addr) w4 =>
 rd prog (jL 29 x1) (.agg [.slice]) w4 fun (x5 : Hd3 × Unit) =>
 call prog 71 [.agg #[jw x5.1]] (.one oI) w4 fun (x6 : Int) w7 =>
 br (x6 != 0) (R (.tuple #[.slice none 0 0, ji x6]) w7)
 (rd prog (jL 32 x3) oS w7 fun (x8 : Hd3) =>
 rd prog (jL 27 x1) oS w7 fun (x9 : Hd3) =>
 br (((x8.2.1 : Nat) : Int) != ((x9.2.1 : Nat) : Int)) (R (.tuple #[.slice none 0 0, ji 9]) w7)
 (loop (T := (Hd3 × Int × Unit)) ((none, 0, 0), 0, ()) w7 fun (g10 : Hd3 × Int × Unit → World → Prop) (s11 : Hd3 × Int × Unit) w12 => ∀ _ : NV,
 rd prog (jL 27 x1) oS w12 fun (x13 : Hd3) =>
 br (decide (s11.2.1 < ((x13.2.1 : Nat) : Int))) (drw w12 fun w14 =>
 rd prog (jL 27 x1) oS w14 fun (x15 : Hd3) =>
 rdp prog (jI 27 x15 s11.2.1) oA fun (x16 : Addr) =>
 rd prog (jL 41 x16) (.agg [.str, .slice, .slice, .slice, .slice, .slice]) w14 fun (x17 : ByteArray × Hd3 × Hd3 × TS) =>
 rd prog (jL 32 x3) oS w14 fun (x18 : Hd3) =>
 rdp prog (jI 32 x18 s11.2.1) oA fun (x19 : Addr) =>
 rd prog (jL 53 x19) oS w14 fun (x20 : Hd3) =>
 call prog 72 [.agg #[.string x17.1, jw x17.2.1, jw x17.2.2.1, jw x17.2.2.2.1, jw x17.2.2.2.2.1, jw x17.2.2.2.2.2.1], ji s11.2.1, jw x20] (.many [oS, oB]) w14 fun (x21 : Hd3 × Bool × Unit) w22 =>
 wr prog (Instr.buildSlice 106 1 #[(0, (.bool x21.2.1))]) oS w22 fun (x23 : Hd3) w24 =>
 wr prog (Builtin.append_ #[106, 106] 106 #[.slice s11.1.1 s11.1.2.1 s11.1.2.2, .slice x23.1 x23.2.1 x23.2.2]) oS w24 fun (x25 : Hd3) w26 =>
 z (IntKind.wrap .i64 (s11.2.1 + 1)) fun (z27 : Int) =>
 g10 ((x25.1, x25.2.1, x25.2.2), z27, ()) w26)
 (loop (T := (Hd3 × Int × Unit)) ((none, 0, 0), 0, ()) w12 fun (g28 : Hd3 × Int × Unit → World → Prop) (s29 : Hd3 × Int × Unit) w30 => ∀ _ : NV,
 rd prog (jL 27 x1) oS w30 fun (x31 : Hd3) =>
 br (decide (s29.2.1 < ((x31.2.1 : Nat) : Int))) (join (T := (Hd3 × Unit)) (fun (s33 : Hd3 × Unit) w34 => ∀ _ : NV,
 z (IntKind.wrap .i64 (s29.2.1 + 1)) fun (z35 : Int) =>
 g28 ((s33.1.1, s33.1.2.1, s33.1.2.2), z35, ()) w34)
  fun (K32 : Hd3 × Unit → World → Prop) =>
 drw w30 fun w36 =>
 rd prog (jL 27 x1) oS w36 fun (x37 : Hd3) =>
 rdp prog (jI 27 x37 s29.2.1) oA fun (x38 : Addr) =>
 rd prog (jL 41 x38) (.agg [.str, .slice, .slice, .slice, .slice, .slice]) w36 fun (x39 : ByteArray × Hd3 × Hd3 × TS) =>
 rd prog (jL 32 x3) oS w36 fun (x40 : Hd3) =>
 rdp prog (jI 32 x40 s29.2.1) oA fun (x41 : Addr) =>
 rd prog (jL 53 x41) oS w36 fun (x42 : Hd3) =>
 call prog 72 [.agg #[.string x39.1, jw x39.2.1, jw x39.2.2.1, jw x39.2.2.2.1, jw x39.2.2.2.2.1, jw x39.2.2.2.2.2.1], ji s29.2.1, jw x42] (.many [oS, oB]) w36 fun (x43 : Hd3 × Bool × Unit) w44 =>
 wr prog (Builtin.append_ #[91, 91] 91 #[.slice s29.1.1 s29.1.2.1 s29.1.2.2, .slice x43.1.1 x43.1.2.1 x43.1.2.2]) oS w44 fun (x45 : Hd3) w46 =>
 rdp prog (jI 106 s11.1 s29.2.1) oA fun (x47 : Addr) =>
 rd prog (jL 4 x47) oB w46 fun (x48 : Bool) =>
 br x48 (rd prog (jL 29 x1) (.agg [.slice]) w46 fun (x49 : Hd3 × Unit) =>
 rd prog (jL 34 x3) (.agg [.slice]) w46 fun (x50 : Hd3 × Unit) =>
 call prog 73 [.agg #[jw x49.1], .agg #[jw x50.1], ji s29.2.1, jw s11.1] (.one oS) w46 fun (x51 : Hd3) w52 =>
 wr prog (Builtin.append_ #[91, 91] 91 #[.slice x45.1 x45.2.1 x45.2.2, .slice x51.1 x51.2.1 x51.2.2]) oS w52 fun (x53 : Hd3) w54 =>
 K32 ((x53.1, x53.2.1, x53.2.2), ()) w54)
 (K32 ((x45.1, x45.2.1, x45.2.2), ()) w46))
 (R (.tuple #[jw s29.1, ji 0]) w30))))
def H34 : Hints := ⟨[(2, 0, [(7, (.one .slice)), (8, (.one (.int .i64)))]), (2, 2, [(11, (.one .slice)), (12, (.one (.int .i64)))]), (1, 3, [(11, (.one .slice))])], [(10, 11), (16, 11)], [], []⟩
theorem S34_calls (s_0a : OA) (s_0n s_0c : Nat) (i_0a : OA) (i_0n i_0c : Nat) (w0 : World) (R : KR) (h : S34 s_0a s_0n s_0c i_0a i_0n i_0c w0 R) : Calls prog 34 #[.agg #[.slice s_0a s_0n s_0c], .agg #[.slice i_0a i_0n i_0c]] w0 (ret R) :=
 vcFn_sound (H := H34) follows_ Tryz.func34 (Eq.mpr (by kernel_rfl) h)
def S11 (s_0a : OA) (s_0n s_0c : Nat) (i_0a : OA) (i_0n i_0c : Nat) (w0 : World) (R : KR) : Prop :=
 wr prog (Instr.box 29 (.agg #[.slice s_0a s_0n s_0c])) oA w0 fun (x1 : Addr) w2 =>
 wr prog (Instr.box 34 (.agg #[.slice i_0a i_0n i_0c])) oA w2 fun (x3 : Addr) w4 =>
 rd prog (jL 29 x1) (.agg [.slice]) w4 fun (x5 : Hd3 × Unit) =>
 rd prog (jL 34 x3) (.agg [.slice]) w4 fun (x6 : Hd3 × Unit) =>
 call prog 34 [.agg #[jw x5.1], .agg #[jw x6.1]] (.many [oS, oI]) w4 fun (x7 : Hd3 × Int × Unit) w8 =>
 br (x7.2.1 == 0) (R (.bool (((x7.1.2.1 : Nat) : Int) == 0)) w8)
 (R (.bool false) w8)
def H11 : Hints := ⟨[], [], [], []⟩
theorem S11_calls (s_0a : OA) (s_0n s_0c : Nat) (i_0a : OA) (i_0n i_0c : Nat) (w0 : World) (R : KR) (h : S11 s_0a s_0n s_0c i_0a i_0n i_0c w0 R) : Calls prog 11 #[.agg #[.slice s_0a s_0n s_0c], .agg #[.slice i_0a i_0n i_0c]] w0 (ret R) :=
 vcFn_sound (H := H11) follows_ Tryz.func11 (Eq.mpr (by kernel_rfl) h)
def S7 (t_0 : ByteArray) (t_1a : OA) (t_1n t_1c : Nat) (t_2a : OA) (t_2n t_2c : Nat) (t_3a : OA) (t_3n t_3c : Nat) (t_4a : OA) (t_4n t_4c : Nat) (t_5a : OA) (t_5n t_5c : Nat) (c_ : Int) (w0 : World) (R : KR) : Prop :=
 wr prog (Instr.box 41 (.agg #[.string t_0, .slice t_1a t_1n t_1c, .slice t_2a t_2n t_2c, .slice t_3a t_3n t_3c, .slice t_4a t_4n t_4c, .slice t_5a t_5n t_5c])) oA w0 fun (x1 : Addr) w2 =>
 loop (T := (Int × Unit)) (0, ()) w2 fun (g3 : Int × Unit → World → Prop) (s4 : Int × Unit) w5 => ∀ _ : NV,
 rd prog (jL 22 (Addr.add x1 2)) oS w5 fun (x6 : Hd3) =>
 br (decide (s4.1 < ((x6.2.1 : Nat) : Int))) (rd prog (jL 22 (Addr.add x1 2)) oS w5 fun (x7 : Hd3) =>
 rdp prog (jI 22 x7 s4.1) oA fun (x8 : Addr) =>
 rd prog (jL 3 x8) oI w5 fun (x9 : Int) =>
 br (x9 == c_) (R (.bool true) w5)
 (z (IntKind.wrap .i64 (s4.1 + 1)) fun (z10 : Int) =>
 g3 (z10, ()) w5))
 (loop (T := (Int × Unit)) (0, ()) w5 fun (g11 : Int × Unit → World → Prop) (s12 : Int × Unit) w13 => ∀ _ : NV,
 rd prog (jL 38 (Addr.add x1 4)) oS w13 fun (x14 : Hd3) =>
 br (decide (s12.1 < ((x14.2.1 : Nat) : Int))) (loop (T := (Int × Unit)) (0, ()) w13 fun (g15 : Int × Unit → World → Prop) (s16 : Int × Unit) w17 => ∀ _ : NV,
 rd prog (jL 38 (Addr.add x1 4)) oS w17 fun (x18 : Hd3) =>
 rdp prog (jI 38 x18 s12.1) oA fun (x19 : Addr) =>
 rd prog (jL 22 x19) oS w17 fun (x20 : Hd3) =>
 br (decide (s16.1 < ((x20.2.1 : Nat) : Int))) (rd prog (jL 38 (Addr.add x1 4)) oS w17 fun (x21 : Hd3) =>
 rdp prog (jI 38 x21 s12.1) oA fun (x22 : Addr) =>
 rd prog (jL 22 x22) oS w17 fun (x23 : Hd3) =>
 rdp prog (jI 22 x23 s16.1) oA fun (x24 : Addr) =>
 rd prog (jL 3 x24) oI w17 fun (x25 : Int) =>
 br (x25 == c_) (R (.bool true) w17)
 (z (IntKind.wrap .i64 (s16.1 + 1)) fun (z26 : Int) =>
 g15 (z26, ()) w17))
 (z (IntKind.wrap .i64 (s12.1 + 1)) fun (z27 : Int) =>
 g11 (z27, ()) w17))
 (R (.bool false) w13))
def H7 : Hints := ⟨[(2, 0, [(5, (.one (.int .i64)))]), (2, 2, [(6, (.one (.int .i64)))]), (2, 4, [(7, (.one (.int .i64)))])], [], [], []⟩
theorem S7_calls (t_0 : ByteArray) (t_1a : OA) (t_1n t_1c : Nat) (t_2a : OA) (t_2n t_2c : Nat) (t_3a : OA) (t_3n t_3c : Nat) (t_4a : OA) (t_4n t_4c : Nat) (t_5a : OA) (t_5n t_5c : Nat) (c_ : Int) (w0 : World) (R : KR) (h : S7 t_0 t_1a t_1n t_1c t_2a t_2n t_2c t_3a t_3n t_3c t_4a t_4n t_4c t_5a t_5n t_5c c_ w0 R) : Calls prog 7 #[.agg #[.string t_0, .slice t_1a t_1n t_1c, .slice t_2a t_2n t_2c, .slice t_3a t_3n t_3c, .slice t_4a t_4n t_4c, .slice t_5a t_5n t_5c], ji c_] w0 (ret R) :=
 vcFn_sound (H := H7) follows_ Tryz.func7 (Eq.mpr (by kernel_rfl) h)
def S17 (a_0 a_1 a_2 a_3 : Int) (a_4 : ByteArray) (w0 : World) (R : KR) : Prop :=
 wr prog (Instr.box 69 (.agg #[ji a_0, ji a_1, ji a_2, ji a_3, .string a_4])) oA w0 fun (x1 : Addr) w2 =>
 wr prog (Instr.alloc 66 true (.tuple #[])) oA w2 fun (x3 : Addr) w4 =>
 rd prog (jL 3 x1) oI w4 fun (x5 : Int) =>
 wr prog (Instr.alloc 66 true (.tuple #[])) oA w4 fun (x6 : Addr) w7 =>
 wu prog (jS 66 x6 (.agg #[ji 5, ji 0, ji 0, .string ByteArray.empty, ji x5, .slice none 0 0])) w7 fun w8 =>
 rd prog (jL 3 (Addr.add x1 1)) oI w8 fun (x9 : Int) =>
 br (x9 == 5) (rd prog (jL 66 x6) (.agg [.int .i64, .int .i64, .int .i64, .str, .int .i64, .slice]) w8 fun (x10 : Int × Int × Int × ByteArray × Int × Hd3 × Unit) =>
 wu prog (jS 66 x3 (.agg #[ji x10.1, ji x10.2.1, ji x10.2.2.1, .string x10.2.2.2.1, ji x10.2.2.2.2.1, jw x10.2.2.2.2.2.1])) w8 fun w11 =>
 rd prog (loadVar 66 x3) (.agg [.int .i64, .int .i64, .int .i64, .str, .int .i64, .slice]) w11 fun (x12 : Int × Int × Int × ByteArray × Int × Hd3 × Unit) =>
 R (.agg #[ji x12.1, ji x12.2.1, ji x12.2.2.1, .string x12.2.2.2.1, ji x12.2.2.2.2.1, jw x12.2.2.2.2.2.1]) w11)
 (br (x9 == 21) (rd prog (jL 66 x6) (.agg [.int .i64, .int .i64, .int .i64, .str, .int .i64, .slice]) w8 fun (x13 : Int × Int × Int × ByteArray × Int × Hd3 × Unit) =>
 wr prog (Instr.buildSlice 39 1 #[(0, (.agg #[ji x13.1, ji x13.2.1, ji x13.2.2.1, .string x13.2.2.2.1, ji x13.2.2.2.2.1, jw x13.2.2.2.2.2.1]))]) oS w8 fun (x14 : Hd3) w15 =>
 wu prog (jS 66 x3 (.agg #[ji 21, ji 0, ji 0, .string ByteArray.empty, ji 0, jw x14])) w15 fun w16 =>
 rd prog (loadVar 66 x3) (.agg [.int .i64, .int .i64, .int .i64, .str, .int .i64, .slice]) w16 fun (x17 : Int × Int × Int × ByteArray × Int × Hd3 × Unit) =>
 R (.agg #[ji x17.1, ji x17.2.1, ji x17.2.2.1, .string x17.2.2.2.1, ji x17.2.2.2.2.1, jw x17.2.2.2.2.2.1]) w16)
 (drw w8 fun w18 => flEx fun F19 =>
 rd prog (jL 3 (Addr.add x1 1)) oI w18 fun (x20 : Int) =>
 rd prog (jL 66 x6) (.agg [.int .i64, .int .i64, .int .i64, .str, .int .i64, .slice]) w18 fun (x21 : Int × Int × Int × ByteArray × Int × Hd3 × Unit) =>
 rd prog (jL 55 (Addr.add x1 2)) (.agg [.int .i64, .int .i64, .str]) w18 fun (x22 : Int × Int × ByteArray × Unit) =>
 flc bel w18 (fun _w24 => True) (fun w23 =>
   call prog 41 [.agg #[ji x22.1, ji x22.2.1, .string x22.2.2.1], ji 0] (.one (.agg [.int .i64, .int .i64, .int .i64, .str, .int .i64, .slice])) w23 fun (x25 : Int × Int × Int × ByteArray × Int × Hd3 × Unit) w26 =>
 (bel w23 w26 ∧ F19 5 [.agg #[ji x22.1, ji x22.2.1, .string x22.2.2.1], ji 0] (.agg #[ji x25.1, ji x25.2.1, ji x25.2.2.1, .string x25.2.2.2.1, ji x25.2.2.2.2.1, jw x25.2.2.2.2.2.1]) w26))
  fun (x27 : Int × Int × Int × ByteArray × Int × Hd3 × Unit) =>
 flc bel w18 (fun w29 => F19 5 [.agg #[ji x22.1, ji x22.2.1, .string x22.2.2.1], ji 0] (.agg #[ji x27.1, ji x27.2.1, ji x27.2.2.1, .string x27.2.2.2.1, ji x27.2.2.2.2.1, jw x27.2.2.2.2.2.1]) w29 ∧ True) (fun w28 =>
   wr prog (Instr.buildSlice 39 2 #[(0, (.agg #[ji x21.1, ji x21.2.1, ji x21.2.2.1, .string x21.2.2.2.1, ji x21.2.2.2.2.1, jw x21.2.2.2.2.2.1])), (1, (.agg #[ji x27.1, ji x27.2.1, ji x27.2.2.1, .string x27.2.2.2.1, ji x27.2.2.2.2.1, jw x27.2.2.2.2.2.1]))]) oS w28 fun (x30 : Hd3) w31 =>
 (bel w28 w31 ∧ F19 6 [.agg #[ji x21.1, ji x21.2.1, ji x21.2.2.1, .string x21.2.2.2.1, ji x21.2.2.2.2.1, jw x21.2.2.2.2.2.1], .agg #[ji x27.1, ji x27.2.1, ji x27.2.2.1, .string x27.2.2.2.1, ji x27.2.2.2.2.1, jw x27.2.2.2.2.2.1]] (jw x30) w31))
  fun (x32 : Hd3) =>
 flend bel w18 (fun w34 => F19 6 [.agg #[ji x21.1, ji x21.2.1, ji x21.2.2.1, .string x21.2.2.2.1, ji x21.2.2.2.2.1, jw x21.2.2.2.2.2.1], .agg #[ji x27.1, ji x27.2.1, ji x27.2.2.1, .string x27.2.2.2.1, ji x27.2.2.2.2.1, jw x27.2.2.2.2.2.1]] (jw x32) w34 ∧ F19 5 [.agg #[ji x22.1, ji x22.2.1, .string x22.2.2.1], ji 0] (.agg #[ji x27.1, ji x27.2.1, ji x27.2.2.1, .string x27.2.2.2.1, ji x27.2.2.2.2.1, jw x27.2.2.2.2.2.1]) w34 ∧ True) fun w33 =>
 wu prog (jS 66 x3 (.agg #[ji x20, ji 0, ji 0, .string ByteArray.empty, ji 0, jw x32])) w33 fun w35 =>
 rd prog (loadVar 66 x3) (.agg [.int .i64, .int .i64, .int .i64, .str, .int .i64, .slice]) w35 fun (x36 : Int × Int × Int × ByteArray × Int × Hd3 × Unit) =>
 R (.agg #[ji x36.1, ji x36.2.1, ji x36.2.2.1, .string x36.2.2.2.1, ji x36.2.2.2.2.1, jw x36.2.2.2.2.2.1]) w35))
def H17 : Hints := ⟨[], [(7, 7)], [], []⟩
theorem S17_calls (a_0 a_1 a_2 a_3 : Int) (a_4 : ByteArray) (w0 : World) (R : KR) (h : S17 a_0 a_1 a_2 a_3 a_4 w0 R) : Calls prog 17 #[.agg #[ji a_0, ji a_1, ji a_2, ji a_3, .string a_4]] w0 (ret R) :=
 vcFn_sound (H := H17) follows_ Tryz.func17 (Eq.mpr (by kernel_rfl) h)
end Go.Proofs

/- The conditions of functions, printed by our tool; each is checked against the code by the kernel. -/



namespace Go.Proofs
open Go Go.V Go.RowKit
open Tryz (prog)
set_option maxRecDepth 100000
def S177 (c_ : Int) (w0 : World) (R : KR) : Prop :=
 br (decide (c_ ≥ 97)) (R (.bool (decide (c_ ≤ 122))) w0)
 (R (.bool false) w0)
def H177 : Hints := ⟨[], [], [], []⟩
theorem S177_calls (c_ : Int) (w0 : World) (R : KR) (h : S177 c_ w0 R) : Calls prog 177 #[.int .u8 c_] w0 (ret R) :=
 vcFn_sound (H := H177) follows_ Tryz.func177 (Eq.mpr (by kernel_rfl) h)
def S114 (s_ : ByteArray) (w0 : World) (R : KR) : Prop :=
 rd prog (cmpS .eql 9 (.tmp 5) (.const (.string ByteArray.empty)) (.string s_) (.string ByteArray.empty)) oB w0 fun (x1 : Bool) =>
 br x1 (R (.bool false) w0)
 (br (decide (((s_.size : Nat) : Int) > 16)) (R (.bool false) w0)
 (rd prog (Instr.index 9 (.string s_) (ji 0)) (.one (.int .u8)) w0 fun (x2 : Int) =>
 call prog 177 [.int .u8 x2] (.one oB) w0 fun (x3 : Bool) w4 =>
 br (!x3) (R (.bool false) w4)
 (rdp prog (cmpS .add 9 (.const (.string ⟨#[32]⟩)) (.tmp 19) (.string ⟨#[32]⟩) (.string s_)) (.one .str) fun (x5 : ByteArray) =>
 rdp prog (cmpS .add 9 (.tmp 20) (.const (.string ⟨#[32]⟩)) (.string x5) (.string ⟨#[32]⟩)) (.one .str) fun (x6 : ByteArray) =>
 call prog 178 [.string ⟨#[32, 115, 101, 108, 101, 99, 116, 32, 100, 105, 115, 116, 105, 110, 99, 116, 32, 97, 108, 108, 32, 102, 114, 111, 109, 32, 119, 104, 101, 114, 101, 32, 103, 114, 111, 117, 112, 32, 98, 121, 32, 104, 97, 118, 105, 110, 103, 32, 97, 115, 32, 111, 110, 32, 117, 110, 105, 111, 110, 32, 101, 120, 99, 101, 112, 116, 32, 105, 110, 116, 101, 114, 115, 101, 99, 116, 32, 106, 111, 105, 110, 32, 105, 110, 110, 101, 114, 32, 108, 101, 102, 116, 32, 114, 105, 103, 104, 116, 32, 102, 117, 108, 108, 32, 99, 114, 111, 115, 115, 32, 115, 101, 109, 105, 32, 97, 110, 116, 105, 32, 97, 110, 100, 32, 111, 114, 32, 110, 111, 116, 32, 105, 115, 32, 110, 117, 108, 108, 32, 116, 114, 117, 101, 32, 102, 97, 108, 115, 101, 32, 105, 110, 32, 99, 97, 115, 101, 32, 119, 104, 101, 110, 32, 116, 104, 101, 110, 32, 101, 108, 115, 101, 32, 101, 110, 100, 32, 118, 97, 108, 117, 101, 115, 32, 116, 97, 98, 108, 101, 32, 112, 114, 105, 109, 97, 114, 121, 32, 117, 110, 105, 113, 117, 101, 32, 102, 111, 114, 101, 105, 103, 110, 32, 114, 101, 102, 101, 114, 101, 110, 99, 101, 115, 32, 99, 104, 101, 99, 107, 32, 105, 110, 116, 32, 98, 111, 111, 108, 32, 116, 101, 120, 116, 32, 99, 111, 117, 110, 116, 32, 115, 117, 109, 32, 109, 105, 110, 32, 109, 97, 120, 32, 99, 111, 97, 108, 101, 115, 99, 101, 32, 108, 101, 110, 103, 116, 104, 32, 115, 97, 109, 101, 32, 109, 111, 100, 32]⟩, .string x6] (.one oB) w4 fun (x7 : Bool) w8 =>
 br x7 (R (.bool false) w8)
 (loop (T := (Int × Unit)) (0, ()) w8 fun (g9 : Int × Unit → World → Prop) (s10 : Int × Unit) w11 => ∀ _ : NV,
 br (decide (s10.1 < ((s_.size : Nat) : Int))) (join (T := Unit) (fun (_s13 : Unit) w14 => ∀ _ : NV,
 z (IntKind.wrap .i64 (s10.1 + 1)) fun (z15 : Int) =>
 g9 (z15, ()) w14)
  fun (K12 : Unit → World → Prop) =>
 rd prog (Instr.index 9 (.string s_) (ji s10.1)) (.one (.int .u8)) w11 fun (x16 : Int) =>
 call prog 177 [.int .u8 x16] (.one oB) w11 fun (x17 : Bool) w18 =>
 br (!x17) (br (decide (x16 < 48)) (br (x16 != 95) (R (.bool false) w18)
 (K12 (()) w18))
 (br (decide (x16 > 57)) (br (x16 != 95) (R (.bool false) w18)
 (K12 (()) w18))
 (K12 (()) w18)))
 (K12 (()) w18))
 (R (.bool true) w11)))))
def H114 : Hints := ⟨[(2, 0, [(26, (.one (.int .i64)))]), (1, 1, [])], [], [], []⟩
theorem S114_calls (s_ : ByteArray) (w0 : World) (R : KR) (h : S114 s_ w0 R) : Calls prog 114 #[.string s_] w0 (ret R) :=
 vcFn_sound (H := H114) follows_ Tryz.func114 (Eq.mpr (by kernel_rfl) h)
def S66 (s_0a : OA) (s_0n s_0c : Nat) (table_ : ByteArray) (w0 : World) (R : KR) : Prop :=
 wr prog (Instr.box 29 (.agg #[.slice s_0a s_0n s_0c])) oA w0 fun (x1 : Addr) w2 =>
 wr prog (Instr.box 9 (.string table_)) oA w2 fun (x3 : Addr) w4 =>
 rd prog (jL 27 x1) oS w4 fun (x5 : Hd3) =>
 call prog 100 [jw x5, (.func (.func 113) #[] #[jp x3])] (.one oI) w4 fun (x6 : Int) w7 =>
 z (if 0 > x6 then 0 else x6) fun (z8 : Int) =>
 R (.tuple #[ji z8, .bool (decide (x6 ≥ 0))]) w7
def H66 : Hints := ⟨[], [], [], []⟩
theorem S66_calls (s_0a : OA) (s_0n s_0c : Nat) (table_ : ByteArray) (w0 : World) (R : KR) (h : S66 s_0a s_0n s_0c table_ w0 R) : Calls prog 66 #[.agg #[.slice s_0a s_0n s_0c], .string table_] w0 (ret R) :=
 vcFn_sound (H := H66) follows_ Tryz.func66 (Eq.mpr (by kernel_rfl) h)
def S113 (t_0 : ByteArray) (t_1a : OA) (t_1n t_1c : Nat) (t_2a : OA) (t_2n t_2c : Nat) (t_3a : OA) (t_3n t_3c : Nat) (t_4a : OA) (t_4n t_4c : Nat) (t_5a : OA) (t_5n t_5c : Nat) (cap0 : Addr) (w0 : World) (R : KR) : Prop :=
 wr prog (Instr.box 41 (.agg #[.string t_0, .slice t_1a t_1n t_1c, .slice t_2a t_2n t_2c, .slice t_3a t_3n t_3c, .slice t_4a t_4n t_4c, .slice t_5a t_5n t_5c])) oA w0 fun (x1 : Addr) w2 =>
 rd prog (jL 9 x1) (.one .str) w2 fun (x3 : ByteArray) =>
 rd prog (jL 9 cap0) (.one .str) w2 fun (x4 : ByteArray) =>
 rd prog (cmpS .eql 9 (.tmp 5) (.tmp 6) (.string x3) (.string x4)) oB w2 fun (x5 : Bool) =>
 R (.bool x5) w2
def H113 : Hints := ⟨[], [], [], []⟩
theorem S113_calls (t_0 : ByteArray) (t_1a : OA) (t_1n t_1c : Nat) (t_2a : OA) (t_2n t_2c : Nat) (t_3a : OA) (t_3n t_3c : Nat) (t_4a : OA) (t_4n t_4c : Nat) (t_5a : OA) (t_5n t_5c : Nat) (cap0 : Addr) (w0 : World) (R : KR) (h : S113 t_0 t_1a t_1n t_1c t_2a t_2n t_2c t_3a t_3n t_3c t_4a t_4n t_4c t_5a t_5n t_5c cap0 w0 R) : Calls prog 113 #[.agg #[.string t_0, .slice t_1a t_1n t_1c, .slice t_2a t_2n t_2c, .slice t_3a t_3n t_3c, .slice t_4a t_4n t_4c, .slice t_5a t_5n t_5c], jp cap0] w0 (ret R) :=
 vcFn_sound (H := H113) follows_ Tryz.func113 (Eq.mpr (by kernel_rfl) h)
def S179 (t_0 : ByteArray) (t_1a : OA) (t_1n t_1c : Nat) (t_2a : OA) (t_2n t_2c : Nat) (t_3a : OA) (t_3n t_3c : Nat) (t_4a : OA) (t_4n t_4c : Nat) (t_5a : OA) (t_5n t_5c : Nat) (name_ : ByteArray) (w0 : World) (R : KR) : Prop :=
 wr prog (Instr.box 41 (.agg #[.string t_0, .slice t_1a t_1n t_1c, .slice t_2a t_2n t_2c, .slice t_3a t_3n t_3c, .slice t_4a t_4n t_4c, .slice t_5a t_5n t_5c])) oA w0 fun (x1 : Addr) w2 =>
 wr prog (Instr.box 9 (.string name_)) oA w2 fun (x3 : Addr) w4 =>
 rd prog (jL 37 (Addr.add x1 1)) oS w4 fun (x5 : Hd3) =>
 call prog 235 [jw x5, (.func (.func 236) #[] #[jp x3])] (.one oI) w4 fun (x6 : Int) w7 =>
 z (if 0 > x6 then 0 else x6) fun (z8 : Int) =>
 R (.tuple #[ji z8, .bool (decide (x6 ≥ 0))]) w7
def H179 : Hints := ⟨[], [], [], []⟩
theorem S179_calls (t_0 : ByteArray) (t_1a : OA) (t_1n t_1c : Nat) (t_2a : OA) (t_2n t_2c : Nat) (t_3a : OA) (t_3n t_3c : Nat) (t_4a : OA) (t_4n t_4c : Nat) (t_5a : OA) (t_5n t_5c : Nat) (name_ : ByteArray) (w0 : World) (R : KR) (h : S179 t_0 t_1a t_1n t_1c t_2a t_2n t_2c t_3a t_3n t_3c t_4a t_4n t_4c t_5a t_5n t_5c name_ w0 R) : Calls prog 179 #[.agg #[.string t_0, .slice t_1a t_1n t_1c, .slice t_2a t_2n t_2c, .slice t_3a t_3n t_3c, .slice t_4a t_4n t_4c, .slice t_5a t_5n t_5c], .string name_] w0 (ret R) :=
 vcFn_sound (H := H179) follows_ Tryz.func179 (Eq.mpr (by kernel_rfl) h)
def S236 (c_0 : ByteArray) (c_1 : Int) (c_2 : Bool) (cap0 : Addr) (w0 : World) (R : KR) : Prop :=
 wr prog (Instr.box 62 (.agg #[.string c_0, ji c_1, .bool c_2])) oA w0 fun (x1 : Addr) w2 =>
 rd prog (jL 9 x1) (.one .str) w2 fun (x3 : ByteArray) =>
 rd prog (jL 9 cap0) (.one .str) w2 fun (x4 : ByteArray) =>
 rd prog (cmpS .eql 9 (.tmp 5) (.tmp 6) (.string x3) (.string x4)) oB w2 fun (x5 : Bool) =>
 R (.bool x5) w2
def H236 : Hints := ⟨[], [], [], []⟩
theorem S236_calls (c_0 : ByteArray) (c_1 : Int) (c_2 : Bool) (cap0 : Addr) (w0 : World) (R : KR) (h : S236 c_0 c_1 c_2 cap0 w0 R) : Calls prog 236 #[.agg #[.string c_0, ji c_1, .bool c_2], jp cap0] w0 (ret R) :=
 vcFn_sound (H := H236) follows_ Tryz.func236 (Eq.mpr (by kernel_rfl) h)
def S30 (s_0a : OA) (s_0n s_0c : Nat) (table_ foreign_ : Int) (w0 : World) (R : KR) : Prop :=
 wr prog (Instr.box 29 (.agg #[.slice s_0a s_0n s_0c])) oA w0 fun (x1 : Addr) w2 =>
 br (decide (table_ < 0)) (R (.tuple #[ji 0, .bool false]) w2)
 (rd prog (jL 27 x1) oS w2 fun (x3 : Hd3) =>
 br (decide (table_ ≥ ((x3.2.1 : Nat) : Int))) (R (.tuple #[ji 0, .bool false]) w2)
 (br (decide (foreign_ < 0)) (R (.tuple #[ji 0, .bool false]) w2)
 (rd prog (jL 27 x1) oS w2 fun (x4 : Hd3) =>
 rdp prog (jI 27 x4 table_) oA fun (x5 : Addr) =>
 rd prog (jL 38 (Addr.add x5 4)) oS w2 fun (x6 : Hd3) =>
 br (decide (foreign_ ≥ ((x6.2.1 : Nat) : Int))) (R (.tuple #[ji 0, .bool false]) w2)
 (drw w2 fun w7 =>
 rd prog (jL 29 x1) (.agg [.slice]) w7 fun (x8 : Hd3 × Unit) =>
 rd prog (jL 27 x1) oS w7 fun (x9 : Hd3) =>
 rdp prog (jI 27 x9 table_) oA fun (x10 : Addr) =>
 rd prog (jL 38 (Addr.add x10 4)) oS w7 fun (x11 : Hd3) =>
 rdp prog (jI 38 x11 foreign_) oA fun (x12 : Addr) =>
 rd prog (jL 9 (Addr.add x12 1)) (.one .str) w7 fun (x13 : ByteArray) =>
 call prog 66 [.agg #[jw x8.1], .string x13] (.many [oI, oB]) w7 fun (x14 : Int × Bool × Unit) w15 =>
 R (.tuple #[ji x14.1, .bool x14.2.1]) w15))))
def H30 : Hints := ⟨[], [(3, 11)], [], []⟩
theorem S30_calls (s_0a : OA) (s_0n s_0c : Nat) (table_ foreign_ : Int) (w0 : World) (R : KR) (h : S30 s_0a s_0n s_0c table_ foreign_ w0 R) : Calls prog 30 #[.agg #[.slice s_0a s_0n s_0c], ji table_, ji foreign_] w0 (ret R) :=
 vcFn_sound (H := H30) follows_ Tryz.func30 (Eq.mpr (by kernel_rfl) h)
def S117 (s_0a : OA) (s_0n s_0c : Nat) (w0 : World) (R : KR) : Prop :=
 wr prog (Instr.box 29 (.agg #[.slice s_0a s_0n s_0c])) oA w0 fun (x1 : Addr) w2 =>
 rd prog (jL 27 x1) oS w2 fun (x3 : Hd3) =>
 wr prog (Instr.makeSlice 229 (ji ((x3.2.1 : Nat) : Int)) (ji ((x3.2.1 : Nat) : Int))) oS w2 fun (x4 : Hd3) w5 =>
 rd prog (jL 27 x1) oS w5 fun (x6 : Hd3) =>
 loop (T := (Int × Unit)) (0, ()) w5 fun (g7 : Int × Unit → World → Prop) (s8 : Int × Unit) w9 => ∀ _ : NV,
 br (decide (s8.1 < ((x6.2.1 : Nat) : Int))) (rdp prog (jI 27 x6 s8.1) oA fun (x10 : Addr) =>
 rd prog (jL 41 x10) (.agg [.str, .slice, .slice, .slice, .slice, .slice]) w9 fun (x11 : ByteArray × Hd3 × Hd3 × TS) =>
 wr prog (Instr.alloc 41 true (.tuple #[])) oA w9 fun (x12 : Addr) w13 =>
 wu prog (jS 41 x12 (.agg #[.string x11.1, jw x11.2.1, jw x11.2.2.1, jw x11.2.2.2.1, jw x11.2.2.2.2.1, jw x11.2.2.2.2.2.1])) w13 fun w14 =>
 wr prog (Instr.makeMap 230 none) (.one .map) w14 fun (x15 : Option Nat) w16 =>
 rdp prog (jI 229 x4 s8.1) oA fun (x17 : Addr) =>
 wu prog (jS 230 x17 (.map x15)) w16 fun w18 =>
 rd prog (jL 38 (Addr.add x12 4)) oS w18 fun (x19 : Hd3) =>
 loop (T := (Int × Unit)) (0, ()) w18 fun (g20 : Int × Unit → World → Prop) (s21 : Int × Unit) w22 => ∀ _ : NV,
 br (decide (s21.1 < ((x19.2.1 : Nat) : Int))) (rdp prog (jI 38 x19 s21.1) oA fun (x23 : Addr) =>
 rd prog (jL 64 x23) (.agg [.slice, .str]) w22 fun (x24 : Hd3 × ByteArray × Unit) =>
 wr prog (Instr.alloc 64 true (.tuple #[])) oA w22 fun (x25 : Addr) w26 =>
 wu prog (jS 64 x25 (.agg #[jw x24.1, .string x24.2.1])) w26 fun w27 =>
 rd prog (jL 29 x1) (.agg [.slice]) w27 fun (x28 : Hd3 × Unit) =>
 rd prog (jL 9 (Addr.add x25 1)) (.one .str) w27 fun (x29 : ByteArray) =>
 call prog 66 [.agg #[jw x28.1], .string x29] (.many [oI, oB]) w27 fun (x30 : Int × Bool × Unit) w31 =>
 br (!x30.2.1) (R (.tuple #[.slice none 0 0, ji 11]) w31)
 (rdp prog (jI 229 x4 s8.1) oA fun (x32 : Addr) =>
 rd prog (jL 230 x32) (.one .map) w31 fun (x33 : Option Nat) =>
 wu prog (Instr.mapUpdate 230 (.map x33) (ji x30.1) (.bool true)) w31 fun w34 =>
 z (IntKind.wrap .i64 (s21.1 + 1)) fun (z35 : Int) =>
 g20 (z35, ()) w34))
 (z (IntKind.wrap .i64 (s8.1 + 1)) fun (z36 : Int) =>
 g7 (z36, ()) w22))
 (rd prog (jL 27 x1) oS w9 fun (x37 : Hd3) =>
 loop (T := (Hd3 × Int × Unit)) ((none, 0, 0), 0, ()) w9 fun (g38 : Hd3 × Int × Unit → World → Prop) (s39 : Hd3 × Int × Unit) w40 => ∀ _ : NV,
 br (decide (s39.2.1 < ((x37.2.1 : Nat) : Int))) (call prog 184 [jw x4, (.func (.func 185) #[] #[])] (.one oI) w40 fun (x41 : Int) w42 =>
 br (decide (x41 < 0)) (R (.tuple #[.slice none 0 0, ji 7]) w42)
 (wr prog (Instr.buildSlice 22 1 #[(0, (ji x41))]) oS w42 fun (x43 : Hd3) w44 =>
 wr prog (Builtin.append_ #[22, 22] 22 #[.slice s39.1.1 s39.1.2.1 s39.1.2.2, .slice x43.1 x43.2.1 x43.2.2]) oS w44 fun (x45 : Hd3) w46 =>
 rdp prog (jI 229 x4 x41) oA fun (x47 : Addr) =>
 wu prog (jS 230 x47 (.map none)) w46 fun w48 =>
 loop (T := (Int × Unit)) (0, ()) w48 fun (g49 : Int × Unit → World → Prop) (s50 : Int × Unit) w51 => ∀ _ : NV,
 br (decide (s50.1 < ((x4.2.1 : Nat) : Int))) (rdp prog (jI 229 x4 s50.1) oA fun (x52 : Addr) =>
 rd prog (jL 230 x52) (.one .map) w51 fun (x53 : Option Nat) =>
 wr prog (Builtin.delete_ #[230, 3] 0 #[.map x53, ji x41]) (.one .any) w51 fun (_x54 : Value) w55 =>
 z (IntKind.wrap .i64 (s50.1 + 1)) fun (z56 : Int) =>
 g49 (z56, ()) w55)
 (z (IntKind.wrap .i64 (s39.2.1 + 1)) fun (z57 : Int) =>
 g38 ((x45.1, x45.2.1, x45.2.2), z57, ()) w51)))
 (R (.tuple #[jw s39.1, ji 0]) w40))
def H117 : Hints := ⟨[(2, 0, [(22, (.one (.int .i64)))]), (2, 2, [(34, (.one (.int .i64)))]), (2, 4, [(11, (.one .slice)), (57, (.one (.int .i64)))]), (2, 6, [(72, (.one (.int .i64)))])], [], [], []⟩
theorem S117_calls (s_0a : OA) (s_0n s_0c : Nat) (w0 : World) (R : KR) (h : S117 s_0a s_0n s_0c w0 R) : Calls prog 117 #[.agg #[.slice s_0a s_0n s_0c]] w0 (ret R) :=
 vcFn_sound (H := H117) follows_ Tryz.func117 (Eq.mpr (by kernel_rfl) h)
def S185 (m_ : Option Nat) (w0 : World) (R : KR) : Prop :=
 rd prog (cmpS .neq 230 (.tmp 3) (.const (.map none)) (.map m_) (.map none)) oB w0 fun (x1 : Bool) =>
 br x1 (rd prog (Builtin.len_ #[230] 3 #[.map m_]) oI w0 fun (x2 : Int) =>
 R (.bool (x2 == 0)) w0)
 (R (.bool false) w0)
def H185 : Hints := ⟨[], [], [], []⟩
theorem S185_calls (m_ : Option Nat) (w0 : World) (R : KR) (h : S185 m_ w0 R) : Calls prog 185 #[.map m_] w0 (ret R) :=
 vcFn_sound (H := H185) follows_ Tryz.func185 (Eq.mpr (by kernel_rfl) h)
def S237 (t_0 : ByteArray) (t_1a : OA) (t_1n t_1c : Nat) (t_2a : OA) (t_2n t_2c : Nat) (t_3a : OA) (t_3n t_3c : Nat) (t_4a : OA) (t_4n t_4c : Nat) (t_5a : OA) (t_5n t_5c : Nat) (l_a : OA) (l_n l_c : Nat) (w0 : World) (R : KR) : Prop :=
 wr prog (Instr.box 41 (.agg #[.string t_0, .slice t_1a t_1n t_1c, .slice t_2a t_2n t_2c, .slice t_3a t_3n t_3c, .slice t_4a t_4n t_4c, .slice t_5a t_5n t_5c])) oA w0 fun (x1 : Addr) w2 =>
 loop (T := (Int × Unit)) (0, ()) w2 fun (g3 : Int × Unit → World → Prop) (s4 : Int × Unit) w5 => ∀ _ : NV,
 br (decide (s4.1 < ((l_n : Nat) : Int))) (rdp prog (Instr.indexAt 22 (.slice l_a l_n l_c) (ji s4.1)) oA fun (x6 : Addr) =>
 rd prog (jL 3 x6) oI w5 fun (x7 : Int) =>
 br (decide (x7 < 0)) (R (ji 6) w5)
 (rd prog (jL 37 (Addr.add x1 1)) oS w5 fun (x8 : Hd3) =>
 br (decide (x7 ≥ ((x8.2.1 : Nat) : Int))) (R (ji 6) w5)
 (rdp prog (Instr.sliceAt 22 (.slice l_a l_n l_c) none (some (ji s4.1)) none) oS fun (x9 : Hd3) =>
 call prog 25 [jw x9, ji x7] (.one oB) w5 fun (x10 : Bool) w11 =>
 br x10 (R (ji 6) w11)
 (z (IntKind.wrap .i64 (s4.1 + 1)) fun (z12 : Int) =>
 g3 (z12, ()) w11))))
 (br (((l_n : Nat) : Int) == 0) (R (ji 6) w5)
 (R (ji 0) w5))
def H237 : Hints := ⟨[(2, 0, [(9, (.one (.int .i64)))])], [], [], []⟩
theorem S237_calls (t_0 : ByteArray) (t_1a : OA) (t_1n t_1c : Nat) (t_2a : OA) (t_2n t_2c : Nat) (t_3a : OA) (t_3n t_3c : Nat) (t_4a : OA) (t_4n t_4c : Nat) (t_5a : OA) (t_5n t_5c : Nat) (l_a : OA) (l_n l_c : Nat) (w0 : World) (R : KR) (h : S237 t_0 t_1a t_1n t_1c t_2a t_2n t_2c t_3a t_3n t_3c t_4a t_4n t_4c t_5a t_5n t_5c l_a l_n l_c w0 R) : Calls prog 237 #[.agg #[.string t_0, .slice t_1a t_1n t_1c, .slice t_2a t_2n t_2c, .slice t_3a t_3n t_3c, .slice t_4a t_4n t_4c, .slice t_5a t_5n t_5c], .slice l_a l_n l_c] w0 (ret R) :=
 vcFn_sound (H := H237) follows_ Tryz.func237 (Eq.mpr (by kernel_rfl) h)
def S115 (t_0 : ByteArray) (t_1a : OA) (t_1n t_1c : Nat) (t_2a : OA) (t_2n t_2c : Nat) (t_3a : OA) (t_3n t_3c : Nat) (t_4a : OA) (t_4n t_4c : Nat) (t_5a : OA) (t_5n t_5c : Nat) (w0 : World) (R : KR) : Prop :=
 wr prog (Instr.box 41 (.agg #[.string t_0, .slice t_1a t_1n t_1c, .slice t_2a t_2n t_2c, .slice t_3a t_3n t_3c, .slice t_4a t_4n t_4c, .slice t_5a t_5n t_5c])) oA w0 fun (x1 : Addr) w2 =>
 rd prog (jL 37 (Addr.add x1 1)) oS w2 fun (x3 : Hd3) =>
 br (decide (((x3.2.1 : Nat) : Int) > 8)) (R (ji 8) w2)
 (rd prog (jL 36 (Addr.add x1 3)) oS w2 fun (x4 : Hd3) =>
 br (decide (((x4.2.1 : Nat) : Int) > 3)) (R (ji 8) w2)
 (rd prog (jL 38 (Addr.add x1 4)) oS w2 fun (x5 : Hd3) =>
 br (decide (((x5.2.1 : Nat) : Int) > 3)) (R (ji 8) w2)
 (rd prog (jL 39 (Addr.add x1 5)) oS w2 fun (x6 : Hd3) =>
 br (decide (((x6.2.1 : Nat) : Int) > 4)) (R (ji 8) w2)
 (rd prog (jL 37 (Addr.add x1 1)) oS w2 fun (x7 : Hd3) =>
 br (((x7.2.1 : Nat) : Int) == 0) (R (ji 9) w2)
 (rd prog (jL 37 (Addr.add x1 1)) oS w2 fun (x8 : Hd3) =>
 loop (T := (Int × Unit)) (0, ()) w2 fun (g9 : Int × Unit → World → Prop) (s10 : Int × Unit) w11 => ∀ _ : NV,
 br (decide (s10.1 < ((x8.2.1 : Nat) : Int))) (join (T := Unit) (fun (_s13 : Unit) w14 => ∀ _ : NV,
 z (IntKind.wrap .i64 (s10.1 + 1)) fun (z15 : Int) =>
 g9 (z15, ()) w14)
  fun (K12 : Unit → World → Prop) =>
 rdp prog (jI 37 x8 s10.1) oA fun (x16 : Addr) =>
 rd prog (jL 62 x16) (.agg [.str, .int .i64, .bool]) w11 fun (x17 : ByteArray × Int × Bool × Unit) =>
 wr prog (Instr.alloc 62 true (.tuple #[])) oA w11 fun (x18 : Addr) w19 =>
 wu prog (jS 62 x18 (.agg #[.string x17.1, ji x17.2.1, .bool x17.2.2.1])) w19 fun w20 =>
 rd prog (jL 9 x18) (.one .str) w20 fun (x21 : ByteArray) =>
 call prog 114 [.string x21] (.one oB) w20 fun (x22 : Bool) w23 =>
 br (!x22) (R (ji 3) w23)
 (rd prog (jL 41 x1) (.agg [.str, .slice, .slice, .slice, .slice, .slice]) w23 fun (x24 : ByteArray × Hd3 × Hd3 × TS) =>
 rd prog (jL 9 x18) (.one .str) w23 fun (x25 : ByteArray) =>
 call prog 179 [.agg #[.string x24.1, jw x24.2.1, jw x24.2.2.1, jw x24.2.2.2.1, jw x24.2.2.2.2.1, jw x24.2.2.2.2.2.1], .string x25] (.many [oI, oB]) w23 fun (x26 : Int × Bool × Unit) w27 =>
 br (decide (x26.1 < s10.1)) (R (ji 5) w27)
 (rd prog (jL 3 (Addr.add x18 1)) oI w27 fun (x28 : Int) =>
 br (x28 != 1) (rd prog (jL 3 (Addr.add x18 1)) oI w27 fun (x29 : Int) =>
 br (x29 != 2) (rd prog (jL 3 (Addr.add x18 1)) oI w27 fun (x30 : Int) =>
 br (x30 != 3) (R (ji 4) w27)
 (K12 (()) w27))
 (K12 (()) w27))
 (K12 (()) w27))))
 (rd prog (jL 41 x1) (.agg [.str, .slice, .slice, .slice, .slice, .slice]) w11 fun (x31 : ByteArray × Hd3 × Hd3 × TS) =>
 call prog 180 [.agg #[.string x31.1, jw x31.2.1, jw x31.2.2.1, jw x31.2.2.2.1, jw x31.2.2.2.2.1, jw x31.2.2.2.2.2.1]] (.one oI) w11 fun (x32 : Int) w33 =>
 br (x32 != 0) (R (ji x32) w33)
 (rd prog (jL 39 (Addr.add x1 5)) oS w33 fun (x34 : Hd3) =>
 loop (T := (Int × Unit)) (0, ()) w33 fun (g35 : Int × Unit → World → Prop) (s36 : Int × Unit) w37 => ∀ _ : NV,
 br (decide (s36.1 < ((x34.2.1 : Nat) : Int))) (rdp prog (jI 39 x34 s36.1) oA fun (x38 : Addr) =>
 rd prog (jL 66 x38) (.agg [.int .i64, .int .i64, .int .i64, .str, .int .i64, .slice]) w37 fun (x39 : Int × Int × Int × ByteArray × Int × Hd3 × Unit) =>
 wr prog (Instr.alloc 66 true (.tuple #[])) oA w37 fun (x40 : Addr) w41 =>
 wu prog (jS 66 x40 (.agg #[ji x39.1, ji x39.2.1, ji x39.2.2.1, .string x39.2.2.2.1, ji x39.2.2.2.2.1, jw x39.2.2.2.2.2.1])) w41 fun w42 =>
 drw w42 fun w43 => flEx fun F44 =>
 rd prog (jL 41 x1) (.agg [.str, .slice, .slice, .slice, .slice, .slice]) w43 fun (x45 : ByteArray × Hd3 × Hd3 × TS) =>
 flc bel w43 (fun _w47 => True) (fun w46 =>
   call prog 181 [.agg #[.string x45.1, jw x45.2.1, jw x45.2.2.1, jw x45.2.2.2.1, jw x45.2.2.2.2.1, jw x45.2.2.2.2.2.1]] (.one oS) w46 fun (x48 : Hd3) w49 =>
 (bel w46 w49 ∧ F44 1 [.agg #[.string x45.1, jw x45.2.1, jw x45.2.2.1, jw x45.2.2.2.1, jw x45.2.2.2.2.1, jw x45.2.2.2.2.2.1]] (jw x48) w49))
  fun (x50 : Hd3) =>
 rd prog (jL 66 x40) (.agg [.int .i64, .int .i64, .int .i64, .str, .int .i64, .slice]) w43 fun (x51 : Int × Int × Int × ByteArray × Int × Hd3 × Unit) =>
 flend bel w43 (fun w53 => F44 1 [.agg #[.string x45.1, jw x45.2.1, jw x45.2.2.1, jw x45.2.2.2.1, jw x45.2.2.2.2.1, jw x45.2.2.2.2.2.1]] (jw x50) w53 ∧ True) fun w52 =>
 call prog 136 [jw x50, .agg #[ji x51.1, ji x51.2.1, ji x51.2.2.1, .string x51.2.2.2.1, ji x51.2.2.2.2.1, jw x51.2.2.2.2.2.1]] (.many [oI, oI]) w52 fun (x54 : TF) w55 =>
 br (x54.2.1 != 0) (R (ji x54.2.1) w55)
 (br (x54.1 != 2) (R (ji 4) w55)
 (z (IntKind.wrap .i64 (s36.1 + 1)) fun (z56 : Int) =>
 g35 (z56, ()) w55)))
 (R (ji 0) w37))))))))
def H115 : Hints := ⟨[(2, 1, [(43, (.one (.int .i64)))]), (1, 2, []), (2, 3, [(84, (.one (.int .i64)))])], [(22, 3)], [], []⟩
theorem S115_calls (t_0 : ByteArray) (t_1a : OA) (t_1n t_1c : Nat) (t_2a : OA) (t_2n t_2c : Nat) (t_3a : OA) (t_3n t_3c : Nat) (t_4a : OA) (t_4n t_4c : Nat) (t_5a : OA) (t_5n t_5c : Nat) (w0 : World) (R : KR) (h : S115 t_0 t_1a t_1n t_1c t_2a t_2n t_2c t_3a t_3n t_3c t_4a t_4n t_4c t_5a t_5n t_5c w0 R) : Calls prog 115 #[.agg #[.string t_0, .slice t_1a t_1n t_1c, .slice t_2a t_2n t_2c, .slice t_3a t_3n t_3c, .slice t_4a t_4n t_4c, .slice t_5a t_5n t_5c]] w0 (ret R) :=
 vcFn_sound (H := H115) follows_ Tryz.func115 (Eq.mpr (by kernel_rfl) h)
def S180 (t_0 : ByteArray) (t_1a : OA) (t_1n t_1c : Nat) (t_2a : OA) (t_2n t_2c : Nat) (t_3a : OA) (t_3n t_3c : Nat) (t_4a : OA) (t_4n t_4c : Nat) (t_5a : OA) (t_5n t_5c : Nat) (w0 : World) (R : KR) : Prop :=
 wr prog (Instr.box 41 (.agg #[.string t_0, .slice t_1a t_1n t_1c, .slice t_2a t_2n t_2c, .slice t_3a t_3n t_3c, .slice t_4a t_4n t_4c, .slice t_5a t_5n t_5c])) oA w0 fun (x1 : Addr) w2 =>
 rd prog (jL 41 x1) (.agg [.str, .slice, .slice, .slice, .slice, .slice]) w2 fun (x3 : ByteArray × Hd3 × Hd3 × TS) =>
 rd prog (jL 22 (Addr.add x1 2)) oS w2 fun (x4 : Hd3) =>
 call prog 237 [.agg #[.string x3.1, jw x3.2.1, jw x3.2.2.1, jw x3.2.2.2.1, jw x3.2.2.2.2.1, jw x3.2.2.2.2.2.1], jw x4] (.one oI) w2 fun (x5 : Int) w6 =>
 br (x5 != 0) (R (ji x5) w6)
 (rd prog (jL 22 (Addr.add x1 2)) oS w6 fun (x7 : Hd3) =>
 call prog 47 [jw x7, (.func (.func 238) #[] #[jp x1])] (.one oB) w6 fun (x8 : Bool) w9 =>
 br x8 (R (ji 4) w9)
 (rd prog (jL 36 (Addr.add x1 3)) oS w9 fun (x10 : Hd3) =>
 call prog 239 [jw x10] (.one oS) w9 fun (x11 : Hd3) w12 =>
 rd prog (jL 38 (Addr.add x1 4)) oS w12 fun (x13 : Hd3) =>
 loop (T := (Hd3 × Int × Unit)) ((x11.1, x11.2.1, x11.2.2), 0, ()) w12 fun (g14 : Hd3 × Int × Unit → World → Prop) (s15 : Hd3 × Int × Unit) w16 => ∀ _ : NV,
 br (decide (s15.2.1 < ((x13.2.1 : Nat) : Int))) (rdp prog (jI 38 x13 s15.2.1) oA fun (x17 : Addr) =>
 rd prog (jL 64 x17) (.agg [.slice, .str]) w16 fun (x18 : Hd3 × ByteArray × Unit) =>
 wr prog (Instr.alloc 64 true (.tuple #[])) oA w16 fun (x19 : Addr) w20 =>
 wu prog (jS 64 x19 (.agg #[jw x18.1, .string x18.2.1])) w20 fun w21 =>
 rd prog (jL 22 x19) oS w21 fun (x22 : Hd3) =>
 wr prog (Instr.buildSlice 36 1 #[(0, (jw x22))]) oS w21 fun (x23 : Hd3) w24 =>
 wr prog (Builtin.append_ #[36, 36] 36 #[.slice s15.1.1 s15.1.2.1 s15.1.2.2, .slice x23.1 x23.2.1 x23.2.2]) oS w24 fun (x25 : Hd3) w26 =>
 z (IntKind.wrap .i64 (s15.2.1 + 1)) fun (z27 : Int) =>
 g14 ((x25.1, x25.2.1, x25.2.2), z27, ()) w26)
 (loop (T := (Int × Unit)) (0, ()) w16 fun (g28 : Int × Unit → World → Prop) (s29 : Int × Unit) w30 => ∀ _ : NV,
 br (decide (s29.1 < ((s15.1.2.1 : Nat) : Int))) (rdp prog (jI 36 s15.1 s29.1) oA fun (x31 : Addr) =>
 rd prog (jL 22 x31) oS w30 fun (x32 : Hd3) =>
 rd prog (jL 41 x1) (.agg [.str, .slice, .slice, .slice, .slice, .slice]) w30 fun (x33 : ByteArray × Hd3 × Hd3 × TS) =>
 call prog 237 [.agg #[.string x33.1, jw x33.2.1, jw x33.2.2.1, jw x33.2.2.2.1, jw x33.2.2.2.2.1, jw x33.2.2.2.2.2.1], jw x32] (.one oI) w30 fun (x34 : Int) w35 =>
 br (x34 != 0) (R (ji x34) w35)
 (z (IntKind.wrap .i64 (s29.1 + 1)) fun (z36 : Int) =>
 g28 (z36, ()) w35))
 (R (ji 0) w30))))
def H180 : Hints := ⟨[(2, 0, [(4, (.one .slice)), (27, (.one (.int .i64)))]), (2, 2, [(39, (.one (.int .i64)))])], [], [], []⟩
theorem S180_calls (t_0 : ByteArray) (t_1a : OA) (t_1n t_1c : Nat) (t_2a : OA) (t_2n t_2c : Nat) (t_3a : OA) (t_3n t_3c : Nat) (t_4a : OA) (t_4n t_4c : Nat) (t_5a : OA) (t_5n t_5c : Nat) (w0 : World) (R : KR) (h : S180 t_0 t_1a t_1n t_1c t_2a t_2n t_2c t_3a t_3n t_3c t_4a t_4n t_4c t_5a t_5n t_5c w0 R) : Calls prog 180 #[.agg #[.string t_0, .slice t_1a t_1n t_1c, .slice t_2a t_2n t_2c, .slice t_3a t_3n t_3c, .slice t_4a t_4n t_4c, .slice t_5a t_5n t_5c]] w0 (ret R) :=
 vcFn_sound (H := H180) follows_ Tryz.func180 (Eq.mpr (by kernel_rfl) h)
def S238 (k_ : Int) (cap0 : Addr) (w0 : World) (R : KR) : Prop :=
 rd prog (jL 37 (Addr.add cap0 1)) oS w0 fun (x1 : Hd3) =>
 rdp prog (jI 37 x1 k_) oA fun (x2 : Addr) =>
 rd prog (jL 4 (Addr.add x2 2)) oB w0 fun (x3 : Bool) =>
 R (.bool x3) w0
def H238 : Hints := ⟨[], [], [], []⟩
theorem S238_calls (k_ : Int) (cap0 : Addr) (w0 : World) (R : KR) (h : S238 k_ cap0 w0 R) : Calls prog 238 #[ji k_, jp cap0] w0 (ret R) :=
 vcFn_sound (H := H238) follows_ Tryz.func238 (Eq.mpr (by kernel_rfl) h)
def S116 (s_0a : OA) (s_0n s_0c : Nat) (t_0 : ByteArray) (t_1a : OA) (t_1n t_1c : Nat) (t_2a : OA) (t_2n t_2c : Nat) (t_3a : OA) (t_3n t_3c : Nat) (t_4a : OA) (t_4n t_4c : Nat) (t_5a : OA) (t_5n t_5c : Nat) (f_0a : OA) (f_0n f_0c : Nat) (f_1 : ByteArray) (w0 : World) (R : KR) : Prop :=
 wr prog (Instr.box 29 (.agg #[.slice s_0a s_0n s_0c])) oA w0 fun (x1 : Addr) w2 =>
 wr prog (Instr.box 41 (.agg #[.string t_0, .slice t_1a t_1n t_1c, .slice t_2a t_2n t_2c, .slice t_3a t_3n t_3c, .slice t_4a t_4n t_4c, .slice t_5a t_5n t_5c])) oA w2 fun (x3 : Addr) w4 =>
 wr prog (Instr.box 64 (.agg #[.slice f_0a f_0n f_0c, .string f_1])) oA w4 fun (x5 : Addr) w6 =>
 rd prog (jL 29 x1) (.agg [.slice]) w6 fun (x7 : Hd3 × Unit) =>
 rd prog (jL 9 (Addr.add x5 1)) (.one .str) w6 fun (x8 : ByteArray) =>
 call prog 66 [.agg #[jw x7.1], .string x8] (.many [oI, oB]) w6 fun (x9 : Int × Bool × Unit) w10 =>
 br (!x9.2.1) (R (ji 11) w10)
 (rd prog (jL 27 x1) oS w10 fun (x11 : Hd3) =>
 rdp prog (jI 27 x11 x9.1) oA fun (x12 : Addr) =>
 rd prog (jL 41 x12) (.agg [.str, .slice, .slice, .slice, .slice, .slice]) w10 fun (x13 : ByteArray × Hd3 × Hd3 × TS) =>
 wr prog (Instr.alloc 41 true (.tuple #[])) oA w10 fun (x14 : Addr) w15 =>
 wu prog (jS 41 x14 (.agg #[.string x13.1, jw x13.2.1, jw x13.2.2.1, jw x13.2.2.2.1, jw x13.2.2.2.2.1, jw x13.2.2.2.2.2.1])) w15 fun w16 =>
 rd prog (jL 22 x5) oS w16 fun (x17 : Hd3) =>
 rd prog (jL 22 (Addr.add x14 2)) oS w16 fun (x18 : Hd3) =>
 call prog 182 [jw x17, jw x18, (.func (.func 183) #[] #[jp x3, jp x14])] (.one oB) w16 fun (x19 : Bool) w20 =>
 br (!x19) (R (ji 6) w20)
 (R (ji 0) w20))
def H116 : Hints := ⟨[], [], [], []⟩
theorem S116_calls (s_0a : OA) (s_0n s_0c : Nat) (t_0 : ByteArray) (t_1a : OA) (t_1n t_1c : Nat) (t_2a : OA) (t_2n t_2c : Nat) (t_3a : OA) (t_3n t_3c : Nat) (t_4a : OA) (t_4n t_4c : Nat) (t_5a : OA) (t_5n t_5c : Nat) (f_0a : OA) (f_0n f_0c : Nat) (f_1 : ByteArray) (w0 : World) (R : KR) (h : S116 s_0a s_0n s_0c t_0 t_1a t_1n t_1c t_2a t_2n t_2c t_3a t_3n t_3c t_4a t_4n t_4c t_5a t_5n t_5c f_0a f_0n f_0c f_1 w0 R) : Calls prog 116 #[.agg #[.slice s_0a s_0n s_0c], .agg #[.string t_0, .slice t_1a t_1n t_1c, .slice t_2a t_2n t_2c, .slice t_3a t_3n t_3c, .slice t_4a t_4n t_4c, .slice t_5a t_5n t_5c], .agg #[.slice f_0a f_0n f_0c, .string f_1]] w0 (ret R) :=
 vcFn_sound (H := H116) follows_ Tryz.func116 (Eq.mpr (by kernel_rfl) h)
def S183 (a_ b_ : Int) (cap0 cap1 : Addr) (w0 : World) (R : KR) : Prop :=
 drw w0 fun w1 =>
 rd prog (jL 37 (Addr.add cap0 1)) oS w1 fun (x2 : Hd3) =>
 rdp prog (jI 37 x2 a_) oA fun (x3 : Addr) =>
 rd prog (jL 3 (Addr.add x3 1)) oI w1 fun (x4 : Int) =>
 rd prog (jL 37 (Addr.add cap1 1)) oS w1 fun (x5 : Hd3) =>
 rdp prog (jI 37 x5 b_) oA fun (x6 : Addr) =>
 rd prog (jL 3 (Addr.add x6 1)) oI w1 fun (x7 : Int) =>
 R (.bool (x4 == x7)) w1
def H183 : Hints := ⟨[], [(1, 12)], [], []⟩
theorem S183_calls (a_ b_ : Int) (cap0 cap1 : Addr) (w0 : World) (R : KR) (h : S183 a_ b_ cap0 cap1 w0 R) : Calls prog 183 #[ji a_, ji b_, jp cap0, jp cap1] w0 (ret R) :=
 vcFn_sound (H := H183) follows_ Tryz.func183 (Eq.mpr (by kernel_rfl) h)
def S67 (s_0a : OA) (s_0n s_0c : Nat) (w0 : World) (R : KR) : Prop :=
 wr prog (Instr.box 29 (.agg #[.slice s_0a s_0n s_0c])) oA w0 fun (x1 : Addr) w2 =>
 rd prog (jL 27 x1) oS w2 fun (x3 : Hd3) =>
 br (decide (((x3.2.1 : Nat) : Int) > 6)) (R (ji 8) w2)
 (rd prog (jL 27 x1) oS w2 fun (x4 : Hd3) =>
 loop (T := (Int × Unit)) (0, ()) w2 fun (g5 : Int × Unit → World → Prop) (s6 : Int × Unit) w7 => ∀ _ : NV,
 br (decide (s6.1 < ((x4.2.1 : Nat) : Int))) (rdp prog (jI 27 x4 s6.1) oA fun (x8 : Addr) =>
 rd prog (jL 41 x8) (.agg [.str, .slice, .slice, .slice, .slice, .slice]) w7 fun (x9 : ByteArray × Hd3 × Hd3 × TS) =>
 wr prog (Instr.alloc 41 true (.tuple #[])) oA w7 fun (x10 : Addr) w11 =>
 wu prog (jS 41 x10 (.agg #[.string x9.1, jw x9.2.1, jw x9.2.2.1, jw x9.2.2.2.1, jw x9.2.2.2.2.1, jw x9.2.2.2.2.2.1])) w11 fun w12 =>
 rd prog (jL 9 x10) (.one .str) w12 fun (x13 : ByteArray) =>
 call prog 114 [.string x13] (.one oB) w12 fun (x14 : Bool) w15 =>
 br (!x14) (R (ji 3) w15)
 (rd prog (jL 29 x1) (.agg [.slice]) w15 fun (x16 : Hd3 × Unit) =>
 rd prog (jL 9 x10) (.one .str) w15 fun (x17 : ByteArray) =>
 call prog 66 [.agg #[jw x16.1], .string x17] (.many [oI, oB]) w15 fun (x18 : Int × Bool × Unit) w19 =>
 br (decide (x18.1 < s6.1)) (R (ji 5) w19)
 (rd prog (jL 41 x10) (.agg [.str, .slice, .slice, .slice, .slice, .slice]) w19 fun (x20 : ByteArray × Hd3 × Hd3 × TS) =>
 call prog 115 [.agg #[.string x20.1, jw x20.2.1, jw x20.2.2.1, jw x20.2.2.2.1, jw x20.2.2.2.2.1, jw x20.2.2.2.2.2.1]] (.one oI) w19 fun (x21 : Int) w22 =>
 br (x21 != 0) (R (ji x21) w22)
 (z (IntKind.wrap .i64 (s6.1 + 1)) fun (z23 : Int) =>
 g5 (z23, ()) w22))))
 (rd prog (jL 27 x1) oS w7 fun (x24 : Hd3) =>
 loop (T := (Int × Unit)) (0, ()) w7 fun (g25 : Int × Unit → World → Prop) (s26 : Int × Unit) w27 => ∀ _ : NV,
 br (decide (s26.1 < ((x24.2.1 : Nat) : Int))) (rdp prog (jI 27 x24 s26.1) oA fun (x28 : Addr) =>
 rd prog (jL 41 x28) (.agg [.str, .slice, .slice, .slice, .slice, .slice]) w27 fun (x29 : ByteArray × Hd3 × Hd3 × TS) =>
 wr prog (Instr.alloc 41 true (.tuple #[])) oA w27 fun (x30 : Addr) w31 =>
 wu prog (jS 41 x30 (.agg #[.string x29.1, jw x29.2.1, jw x29.2.2.1, jw x29.2.2.2.1, jw x29.2.2.2.2.1, jw x29.2.2.2.2.2.1])) w31 fun w32 =>
 rd prog (jL 38 (Addr.add x30 4)) oS w32 fun (x33 : Hd3) =>
 loop (T := (Int × Unit)) (0, ()) w32 fun (g34 : Int × Unit → World → Prop) (s35 : Int × Unit) w36 => ∀ _ : NV,
 br (decide (s35.1 < ((x33.2.1 : Nat) : Int))) (rdp prog (jI 38 x33 s35.1) oA fun (x37 : Addr) =>
 rd prog (jL 64 x37) (.agg [.slice, .str]) w36 fun (x38 : Hd3 × ByteArray × Unit) =>
 wr prog (Instr.alloc 64 true (.tuple #[])) oA w36 fun (x39 : Addr) w40 =>
 wu prog (jS 64 x39 (.agg #[jw x38.1, .string x38.2.1])) w40 fun w41 =>
 rd prog (jL 29 x1) (.agg [.slice]) w41 fun (x42 : Hd3 × Unit) =>
 rd prog (jL 41 x30) (.agg [.str, .slice, .slice, .slice, .slice, .slice]) w41 fun (x43 : ByteArray × Hd3 × Hd3 × TS) =>
 rd prog (jL 64 x39) (.agg [.slice, .str]) w41 fun (x44 : Hd3 × ByteArray × Unit) =>
 call prog 116 [.agg #[jw x42.1], .agg #[.string x43.1, jw x43.2.1, jw x43.2.2.1, jw x43.2.2.2.1, jw x43.2.2.2.2.1, jw x43.2.2.2.2.2.1], .agg #[jw x44.1, .string x44.2.1]] (.one oI) w41 fun (x45 : Int) w46 =>
 br (x45 != 0) (R (ji x45) w46)
 (z (IntKind.wrap .i64 (s35.1 + 1)) fun (z47 : Int) =>
 g34 (z47, ()) w46))
 (z (IntKind.wrap .i64 (s26.1 + 1)) fun (z48 : Int) =>
 g25 (z48, ()) w36))
 (rd prog (jL 29 x1) (.agg [.slice]) w27 fun (x49 : Hd3 × Unit) =>
 call prog 117 [.agg #[jw x49.1]] (.many [oS, oI]) w27 fun (x50 : Hd3 × Int × Unit) w51 =>
 R (ji x50.2.1) w51)))
def H67 : Hints := ⟨[(2, 0, [(22, (.one (.int .i64)))]), (2, 2, [(50, (.one (.int .i64)))]), (2, 4, [(57, (.one (.int .i64)))])], [], [], []⟩
theorem S67_calls (s_0a : OA) (s_0n s_0c : Nat) (w0 : World) (R : KR) (h : S67 s_0a s_0n s_0c w0 R) : Calls prog 67 #[.agg #[.slice s_0a s_0n s_0c]] w0 (ret R) :=
 vcFn_sound (H := H67) follows_ Tryz.func67 (Eq.mpr (by kernel_rfl) h)
def S85 (t_0 : ByteArray) (t_1a : OA) (t_1n t_1c : Nat) (t_2a : OA) (t_2n t_2c : Nat) (t_3a : OA) (t_3n t_3c : Nat) (t_4a : OA) (t_4n t_4c : Nat) (t_5a : OA) (t_5n t_5c : Nat) (w0 : World) (R : KR) : Prop :=
 wr prog (Instr.box 41 (.agg #[.string t_0, .slice t_1a t_1n t_1c, .slice t_2a t_2n t_2c, .slice t_3a t_3n t_3c, .slice t_4a t_4n t_4c, .slice t_5a t_5n t_5c])) oA w0 fun (x1 : Addr) w2 =>
 drw w2 fun w3 =>
 rd prog (jL 22 (Addr.add x1 2)) oS w3 fun (x4 : Hd3) =>
 br (((x4.2.1 : Nat) : Int) != 1) (R (.bool false) w3)
 (rd prog (jL 37 (Addr.add x1 1)) oS w3 fun (x5 : Hd3) =>
 rd prog (jL 22 (Addr.add x1 2)) oS w3 fun (x6 : Hd3) =>
 rdp prog (jI 22 x6 0) oA fun (x7 : Addr) =>
 rd prog (jL 3 x7) oI w3 fun (x8 : Int) =>
 rdp prog (jI 37 x5 x8) oA fun (x9 : Addr) =>
 rd prog (jL 3 (Addr.add x9 1)) oI w3 fun (x10 : Int) =>
 br (x10 != 1) (R (.bool false) w3)
 (rd prog (jL 36 (Addr.add x1 3)) oS w3 fun (x11 : Hd3) =>
 br (decide (((x11.2.1 : Nat) : Int) > 0)) (R (.bool false) w3)
 (rd prog (jL 38 (Addr.add x1 4)) oS w3 fun (x12 : Hd3) =>
 loop (T := (Hd3 × Int × Unit)) ((none, 0, 0), 0, ()) w3 fun (g13 : Hd3 × Int × Unit → World → Prop) (s14 : Hd3 × Int × Unit) w15 => ∀ _ : NV,
 br (decide (s14.2.1 < ((x12.2.1 : Nat) : Int))) (rdp prog (jI 38 x12 s14.2.1) oA fun (x16 : Addr) =>
 rd prog (jL 64 x16) (.agg [.slice, .str]) w15 fun (x17 : Hd3 × ByteArray × Unit) =>
 wr prog (Instr.alloc 64 true (.tuple #[])) oA w15 fun (x18 : Addr) w19 =>
 wu prog (jS 64 x18 (.agg #[jw x17.1, .string x17.2.1])) w19 fun w20 =>
 drw w20 fun w21 =>
 rd prog (jL 22 x18) oS w21 fun (x22 : Hd3) =>
 br (((x22.2.1 : Nat) : Int) != 1) (R (.bool false) w21)
 (rd prog (jL 37 (Addr.add x1 1)) oS w21 fun (x23 : Hd3) =>
 rd prog (jL 22 x18) oS w21 fun (x24 : Hd3) =>
 rdp prog (jI 22 x24 0) oA fun (x25 : Addr) =>
 rd prog (jL 3 x25) oI w21 fun (x26 : Int) =>
 rdp prog (jI 37 x23 x26) oA fun (x27 : Addr) =>
 rd prog (jL 3 (Addr.add x27 1)) oI w21 fun (x28 : Int) =>
 br (x28 != 1) (R (.bool false) w21)
 (rd prog (jL 37 (Addr.add x1 1)) oS w21 fun (x29 : Hd3) =>
 rd prog (jL 22 x18) oS w21 fun (x30 : Hd3) =>
 rdp prog (jI 22 x30 0) oA fun (x31 : Addr) =>
 rd prog (jL 3 x31) oI w21 fun (x32 : Int) =>
 rdp prog (jI 37 x29 x32) oA fun (x33 : Addr) =>
 rd prog (jL 4 (Addr.add x33 2)) oB w21 fun (x34 : Bool) =>
 br x34 (R (.bool false) w21)
 (rd prog (jL 22 x18) oS w21 fun (x35 : Hd3) =>
 rdp prog (jI 22 x35 0) oA fun (x36 : Addr) =>
 rd prog (jL 3 x36) oI w21 fun (x37 : Int) =>
 rd prog (jL 22 (Addr.add x1 2)) oS w21 fun (x38 : Hd3) =>
 rdp prog (jI 22 x38 0) oA fun (x39 : Addr) =>
 rd prog (jL 3 x39) oI w21 fun (x40 : Int) =>
 br (x37 == x40) (R (.bool false) w21)
 (rd prog (jL 22 x18) oS w21 fun (x41 : Hd3) =>
 rdp prog (jI 22 x41 0) oA fun (x42 : Addr) =>
 rd prog (jL 3 x42) oI w21 fun (x43 : Int) =>
 call prog 25 [jw s14.1, ji x43] (.one oB) w21 fun (x44 : Bool) w45 =>
 br x44 (R (.bool false) w45)
 (rd prog (jL 22 x18) oS w45 fun (x46 : Hd3) =>
 rdp prog (jI 22 x46 0) oA fun (x47 : Addr) =>
 rd prog (jL 3 x47) oI w45 fun (x48 : Int) =>
 wr prog (Instr.buildSlice 22 1 #[(0, (ji x48))]) oS w45 fun (x49 : Hd3) w50 =>
 wr prog (Builtin.append_ #[22, 22] 22 #[.slice s14.1.1 s14.1.2.1 s14.1.2.2, .slice x49.1 x49.2.1 x49.2.2]) oS w50 fun (x51 : Hd3) w52 =>
 z (IntKind.wrap .i64 (s14.2.1 + 1)) fun (z53 : Int) =>
 g13 ((x51.1, x51.2.1, x51.2.2), z53, ()) w52))))))
 (rd prog (jL 39 (Addr.add x1 5)) oS w15 fun (x54 : Hd3) =>
 call prog 139 [jw x54, (.func (.func 148) #[] #[jp x1])] (.one oB) w15 fun (x55 : Bool) w56 =>
 R (.bool (!x55)) w56))))
def H85 : Hints := ⟨[(2, 0, [(3, (.one .slice)), (31, (.one (.int .i64)))])], [(1, 11), (7, 36)], [], []⟩
theorem S85_calls (t_0 : ByteArray) (t_1a : OA) (t_1n t_1c : Nat) (t_2a : OA) (t_2n t_2c : Nat) (t_3a : OA) (t_3n t_3c : Nat) (t_4a : OA) (t_4n t_4c : Nat) (t_5a : OA) (t_5n t_5c : Nat) (w0 : World) (R : KR) (h : S85 t_0 t_1a t_1n t_1c t_2a t_2n t_2c t_3a t_3n t_3c t_4a t_4n t_4c t_5a t_5n t_5c w0 R) : Calls prog 85 #[.agg #[.string t_0, .slice t_1a t_1n t_1c, .slice t_2a t_2n t_2c, .slice t_3a t_3n t_3c, .slice t_4a t_4n t_4c, .slice t_5a t_5n t_5c]] w0 (ret R) :=
 vcFn_sound (H := H85) follows_ Tryz.func85 (Eq.mpr (by kernel_rfl) h)
def S44 (s_0a : OA) (s_0n s_0c : Nat) (w0 : World) (R : KR) : Prop :=
 wr prog (Instr.box 29 (.agg #[.slice s_0a s_0n s_0c])) oA w0 fun (x1 : Addr) w2 =>
 rd prog (jL 29 x1) (.agg [.slice]) w2 fun (x3 : Hd3 × Unit) =>
 call prog 67 [.agg #[jw x3.1]] (.one oI) w2 fun (x4 : Int) w5 =>
 br (x4 == 0) (rd prog (jL 27 x1) oS w5 fun (x6 : Hd3) =>
 call prog 56 [jw x6, (.func (.func 84) #[] #[])] (.one oB) w5 fun (x7 : Bool) w8 =>
 R (.bool (!x7)) w8)
 (R (.bool false) w5)
def H44 : Hints := ⟨[], [], [], []⟩
theorem S44_calls (s_0a : OA) (s_0n s_0c : Nat) (w0 : World) (R : KR) (h : S44 s_0a s_0n s_0c w0 R) : Calls prog 44 #[.agg #[.slice s_0a s_0n s_0c]] w0 (ret R) :=
 vcFn_sound (H := H44) follows_ Tryz.func44 (Eq.mpr (by kernel_rfl) h)
def S84 (t_0 : ByteArray) (t_1a : OA) (t_1n t_1c : Nat) (t_2a : OA) (t_2n t_2c : Nat) (t_3a : OA) (t_3n t_3c : Nat) (t_4a : OA) (t_4n t_4c : Nat) (t_5a : OA) (t_5n t_5c : Nat) (w0 : World) (R : KR) : Prop :=
 wr prog (Instr.box 41 (.agg #[.string t_0, .slice t_1a t_1n t_1c, .slice t_2a t_2n t_2c, .slice t_3a t_3n t_3c, .slice t_4a t_4n t_4c, .slice t_5a t_5n t_5c])) oA w0 fun (x1 : Addr) w2 =>
 rd prog (jL 41 x1) (.agg [.str, .slice, .slice, .slice, .slice, .slice]) w2 fun (x3 : ByteArray × Hd3 × Hd3 × TS) =>
 call prog 85 [.agg #[.string x3.1, jw x3.2.1, jw x3.2.2.1, jw x3.2.2.2.1, jw x3.2.2.2.2.1, jw x3.2.2.2.2.2.1]] (.one oB) w2 fun (x4 : Bool) w5 =>
 R (.bool (!x4)) w5
def H84 : Hints := ⟨[], [], [], []⟩
theorem S84_calls (t_0 : ByteArray) (t_1a : OA) (t_1n t_1c : Nat) (t_2a : OA) (t_2n t_2c : Nat) (t_3a : OA) (t_3n t_3c : Nat) (t_4a : OA) (t_4n t_4c : Nat) (t_5a : OA) (t_5n t_5c : Nat) (w0 : World) (R : KR) (h : S84 t_0 t_1a t_1n t_1c t_2a t_2n t_2c t_3a t_3n t_3c t_4a t_4n t_4c t_5a t_5n t_5c w0 R) : Calls prog 84 #[.agg #[.string t_0, .slice t_1a t_1n t_1c, .slice t_2a t_2n t_2c, .slice t_3a t_3n t_3c, .slice t_4a t_4n t_4c, .slice t_5a t_5n t_5c]] w0 (ret R) :=
 vcFn_sound (H := H84) follows_ Tryz.func84 (Eq.mpr (by kernel_rfl) h)
def S174 (s_ : ByteArray) (w0 : World) (R : KR) : Prop :=
 br (decide (((s_.size : Nat) : Int) ≤ 24)) (call prog 232 [.string s_, (.func (.func 233) #[] #[])] (.one oI) w0 fun (x1 : Int) w2 =>
 R (.bool (decide (x1 < 0))) w2)
 (R (.bool false) w0)
def H174 : Hints := ⟨[], [], [], []⟩
theorem S174_calls (s_ : ByteArray) (w0 : World) (R : KR) (h : S174 s_ w0 R) : Calls prog 174 #[.string s_] w0 (ret R) :=
 vcFn_sound (H := H174) follows_ Tryz.func174 (Eq.mpr (by kernel_rfl) h)
def S108 (v_0 v_1 : Int) (v_2 : ByteArray) (w0 : World) (R : KR) : Prop :=
 wr prog (Instr.box 55 (.agg #[ji v_0, ji v_1, .string v_2])) oA w0 fun (x1 : Addr) w2 =>
 rd prog (jL 3 x1) oI w2 fun (x3 : Int) =>
 br (x3 == 0) (rd prog (jL 2 (Addr.add x1 1)) oI w2 fun (x4 : Int) =>
 br (x4 == 0) (rd prog (jL 9 (Addr.add x1 2)) (.one .str) w2 fun (x5 : ByteArray) =>
 rd prog (cmpS .eql 9 (.tmp 12) (.const (.string ByteArray.empty)) (.string x5) (.string ByteArray.empty)) oB w2 fun (x6 : Bool) =>
 R (.bool x6) w2)
 (R (.bool false) w2))
 (br (x3 == 1) (rd prog (jL 2 (Addr.add x1 1)) oI w2 fun (x7 : Int) =>
 br (decide (x7 ≥ (-1000000000000))) (rd prog (jL 2 (Addr.add x1 1)) oI w2 fun (x8 : Int) =>
 br (decide (x8 ≤ 1000000000000)) (rd prog (jL 9 (Addr.add x1 2)) (.one .str) w2 fun (x9 : ByteArray) =>
 rd prog (cmpS .eql 9 (.tmp 27) (.const (.string ByteArray.empty)) (.string x9) (.string ByteArray.empty)) oB w2 fun (x10 : Bool) =>
 R (.bool x10) w2)
 (R (.bool false) w2))
 (R (.bool false) w2))
 (br (x3 == 2) (rd prog (jL 2 (Addr.add x1 1)) oI w2 fun (x11 : Int) =>
 br (x11 == 0) (rd prog (jL 9 (Addr.add x1 2)) (.one .str) w2 fun (x12 : ByteArray) =>
 rd prog (cmpS .eql 9 (.tmp 42) (.const (.string ByteArray.empty)) (.string x12) (.string ByteArray.empty)) oB w2 fun (x13 : Bool) =>
 R (.bool x13) w2)
 (rd prog (jL 2 (Addr.add x1 1)) oI w2 fun (x14 : Int) =>
 br (x14 == 1) (rd prog (jL 9 (Addr.add x1 2)) (.one .str) w2 fun (x15 : ByteArray) =>
 rd prog (cmpS .eql 9 (.tmp 42) (.const (.string ByteArray.empty)) (.string x15) (.string ByteArray.empty)) oB w2 fun (x16 : Bool) =>
 R (.bool x16) w2)
 (R (.bool false) w2)))
 (br (x3 == 3) (rd prog (jL 2 (Addr.add x1 1)) oI w2 fun (x17 : Int) =>
 br (x17 == 0) (rd prog (jL 9 (Addr.add x1 2)) (.one .str) w2 fun (x18 : ByteArray) =>
 call prog 174 [.string x18] (.one oB) w2 fun (x19 : Bool) w20 =>
 R (.bool x19) w20)
 (R (.bool false) w2))
 (R (.bool false) w2))))
def H108 : Hints := ⟨[], [], [], []⟩
theorem S108_calls (v_0 v_1 : Int) (v_2 : ByteArray) (w0 : World) (R : KR) (h : S108 v_0 v_1 v_2 w0 R) : Calls prog 108 #[.agg #[ji v_0, ji v_1, .string v_2]] w0 (ret R) :=
 vcFn_sound (H := H108) follows_ Tryz.func108 (Eq.mpr (by kernel_rfl) h)
def S241 (v_0 v_1 : Int) (v_2 : ByteArray) (w0 : World) (R : KR) : Prop :=
 wr prog (Instr.box 55 (.agg #[ji v_0, ji v_1, .string v_2])) oA w0 fun (x1 : Addr) w2 =>
 rd prog (jL 55 x1) (.agg [.int .i64, .int .i64, .str]) w2 fun (x3 : Int × Int × ByteArray × Unit) =>
 call prog 108 [.agg #[ji x3.1, ji x3.2.1, .string x3.2.2.1]] (.one oB) w2 fun (x4 : Bool) w5 =>
 br (!x4) (R (.string ⟨#[63]⟩) w5)
 (rd prog (jL 3 x1) oI w5 fun (x6 : Int) =>
 br (x6 == 1) (rd prog (jL 2 (Addr.add x1 1)) oI w5 fun (x7 : Int) =>
 call prog 288 [ji x7, ji 10] (.one (.one .str)) w5 fun (x8 : ByteArray) w9 =>
 R (.string x8) w9)
 (br (x6 == 2) (rd prog (jL 2 (Addr.add x1 1)) oI w5 fun (x10 : Int) =>
 call prog 289 [.bool (x10 == 1)] (.one (.one .str)) w5 fun (x11 : ByteArray) w12 =>
 R (.string x11) w12)
 (br (x6 == 3) (rd prog (jL 9 (Addr.add x1 2)) (.one .str) w5 fun (x13 : ByteArray) =>
 rdp prog (cmpS .add 9 (.const (.string ⟨#[39]⟩)) (.tmp 22) (.string ⟨#[39]⟩) (.string x13)) (.one .str) fun (x14 : ByteArray) =>
 rdp prog (cmpS .add 9 (.tmp 23) (.const (.string ⟨#[39]⟩)) (.string x14) (.string ⟨#[39]⟩)) (.one .str) fun (x15 : ByteArray) =>
 R (.string x15) w5)
 (R (.string ⟨#[110, 117, 108, 108]⟩) w5))))
def H241 : Hints := ⟨[], [], [], []⟩
theorem S241_calls (v_0 v_1 : Int) (v_2 : ByteArray) (w0 : World) (R : KR) (h : S241 v_0 v_1 v_2 w0 R) : Calls prog 241 #[.agg #[ji v_0, ji v_1, .string v_2]] w0 (ret R) :=
 vcFn_sound (H := H241) follows_ Tryz.func241 (Eq.mpr (by kernel_rfl) h)
def S68 (t_0 : ByteArray) (t_1a : OA) (t_1n t_1c : Nat) (t_2a : OA) (t_2n t_2c : Nat) (t_3a : OA) (t_3n t_3c : Nat) (t_4a : OA) (t_4n t_4c : Nat) (t_5a : OA) (t_5n t_5c : Nat) (rows_a : OA) (rows_n rows_c : Nat) (w0 : World) (R : KR) : Prop :=
 wr prog (Instr.box 41 (.agg #[.string t_0, .slice t_1a t_1n t_1c, .slice t_2a t_2n t_2c, .slice t_3a t_3n t_3c, .slice t_4a t_4n t_4c, .slice t_5a t_5n t_5c])) oA w0 fun (x1 : Addr) w2 =>
 call prog 118 [.slice rows_a rows_n rows_c, (.func (.func 119) #[] #[jp x1])] (.one oB) w2 fun (x3 : Bool) w4 =>
 R (.bool x3) w4
def H68 : Hints := ⟨[], [], [], []⟩
theorem S68_calls (t_0 : ByteArray) (t_1a : OA) (t_1n t_1c : Nat) (t_2a : OA) (t_2n t_2c : Nat) (t_3a : OA) (t_3n t_3c : Nat) (t_4a : OA) (t_4n t_4c : Nat) (t_5a : OA) (t_5n t_5c : Nat) (rows_a : OA) (rows_n rows_c : Nat) (w0 : World) (R : KR) (h : S68 t_0 t_1a t_1n t_1c t_2a t_2n t_2c t_3a t_3n t_3c t_4a t_4n t_4c t_5a t_5n t_5c rows_a rows_n rows_c w0 R) : Calls prog 68 #[.agg #[.string t_0, .slice t_1a t_1n t_1c, .slice t_2a t_2n t_2c, .slice t_3a t_3n t_3c, .slice t_4a t_4n t_4c, .slice t_5a t_5n t_5c], .slice rows_a rows_n rows_c] w0 (ret R) :=
 vcFn_sound (H := H68) follows_ Tryz.func68 (Eq.mpr (by kernel_rfl) h)
def S119 (r_a : OA) (r_n r_c : Nat) (cap0 : Addr) (w0 : World) (R : KR) : Prop :=
 rd prog (jL 37 (Addr.add cap0 1)) oS w0 fun (x1 : Hd3) =>
 br (((r_n : Nat) : Int) != ((x1.2.1 : Nat) : Int)) (R (.bool true) w0)
 (loop (T := (Int × Unit)) (0, ()) w0 fun (g2 : Int × Unit → World → Prop) (s3 : Int × Unit) w4 => ∀ _ : NV,
 br (decide (s3.1 < ((r_n : Nat) : Int))) (join (T := Unit) (fun (_s6 : Unit) w7 => ∀ _ : NV,
 z (IntKind.wrap .i64 (s3.1 + 1)) fun (z8 : Int) =>
 g2 (z8, ()) w7)
  fun (K5 : Unit → World → Prop) =>
 rdp prog (Instr.indexAt 56 (.slice r_a r_n r_c) (ji s3.1)) oA fun (x9 : Addr) =>
 rd prog (jL 55 x9) (.agg [.int .i64, .int .i64, .str]) w4 fun (x10 : Int × Int × ByteArray × Unit) =>
 wr prog (Instr.alloc 55 true (.tuple #[])) oA w4 fun (x11 : Addr) w12 =>
 wu prog (jS 55 x11 (.agg #[ji x10.1, ji x10.2.1, .string x10.2.2.1])) w12 fun w13 =>
 drw w13 fun w14 => flEx fun F15 =>
 rd prog (jL 55 x11) (.agg [.int .i64, .int .i64, .str]) w14 fun (x16 : Int × Int × ByteArray × Unit) =>
 flc bel w14 (fun _w18 => True) (fun w17 =>
   call prog 108 [.agg #[ji x16.1, ji x16.2.1, .string x16.2.2.1]] (.one oB) w17 fun (x19 : Bool) w20 =>
 (bel w17 w20 ∧ F15 1 [.agg #[ji x16.1, ji x16.2.1, .string x16.2.2.1]] (.bool x19) w20))
  fun (x21 : Bool) =>
 br (!x21) (flend bel w14 (fun w23 => F15 1 [.agg #[ji x16.1, ji x16.2.1, .string x16.2.2.1]] (.bool x21) w23 ∧ True) fun w22 =>
 R (.bool true) w22)
 (rd prog (jL 3 x11) oI w14 fun (x24 : Int) =>
 br (x24 != 0) (rd prog (jL 3 x11) oI w14 fun (x25 : Int) =>
 rd prog (jL 37 (Addr.add cap0 1)) oS w14 fun (x26 : Hd3) =>
 rdp prog (jI 37 x26 s3.1) oA fun (x27 : Addr) =>
 rd prog (jL 3 (Addr.add x27 1)) oI w14 fun (x28 : Int) =>
 flend bel w14 (fun w30 => F15 1 [.agg #[ji x16.1, ji x16.2.1, .string x16.2.2.1]] (.bool x21) w30 ∧ True) fun w29 =>
 br (x25 != x28) (R (.bool true) w29)
 (K5 (()) w29))
 (flend bel w14 (fun w32 => F15 1 [.agg #[ji x16.1, ji x16.2.1, .string x16.2.2.1]] (.bool x21) w32 ∧ True) fun w31 =>
 K5 (()) w31)))
 (R (.bool false) w4))
def H119 : Hints := ⟨[(2, 0, [(14, (.one (.int .i64)))]), (1, 1, [])], [(6, 16)], [], []⟩
theorem S119_calls (r_a : OA) (r_n r_c : Nat) (cap0 : Addr) (w0 : World) (R : KR) (h : S119 r_a r_n r_c cap0 w0 R) : Calls prog 119 #[.slice r_a r_n r_c, jp cap0] w0 (ret R) :=
 vcFn_sound (H := H119) follows_ Tryz.func119 (Eq.mpr (by kernel_rfl) h)
def S187 (row_a : OA) (row_n row_c : Nat) (columns_a : OA) (columns_n columns_c : Nat) (w0 : World) (R : KR) : Prop :=
 loop (T := (Hd3 × Int × Unit)) ((none, 0, 0), 0, ()) w0 fun (g1 : Hd3 × Int × Unit → World → Prop) (s2 : Hd3 × Int × Unit) w3 => ∀ _ : NV,
 br (decide (s2.2.1 < ((columns_n : Nat) : Int))) (rdp prog (Instr.indexAt 22 (.slice columns_a columns_n columns_c) (ji s2.2.1)) oA fun (x4 : Addr) =>
 rd prog (jL 3 x4) oI w3 fun (x5 : Int) =>
 rdp prog (Instr.indexAt 56 (.slice row_a row_n row_c) (ji x5)) oA fun (x6 : Addr) =>
 rd prog (jL 55 x6) (.agg [.int .i64, .int .i64, .str]) w3 fun (x7 : Int × Int × ByteArray × Unit) =>
 wr prog (Instr.buildSlice 56 1 #[(0, (.agg #[ji x7.1, ji x7.2.1, .string x7.2.2.1]))]) oS w3 fun (x8 : Hd3) w9 =>
 wr prog (Builtin.append_ #[56, 56] 56 #[.slice s2.1.1 s2.1.2.1 s2.1.2.2, .slice x8.1 x8.2.1 x8.2.2]) oS w9 fun (x10 : Hd3) w11 =>
 z (IntKind.wrap .i64 (s2.2.1 + 1)) fun (z12 : Int) =>
 g1 ((x10.1, x10.2.1, x10.2.2), z12, ()) w11)
 (R (jw s2.1) w3)
def H187 : Hints := ⟨[(2, 0, [(5, (.one .slice)), (10, (.one (.int .i64)))])], [], [], []⟩
theorem S187_calls (row_a : OA) (row_n row_c : Nat) (columns_a : OA) (columns_n columns_c : Nat) (w0 : World) (R : KR) (h : S187 row_a row_n row_c columns_a columns_n columns_c w0 R) : Calls prog 187 #[.slice row_a row_n row_c, .slice columns_a columns_n columns_c] w0 (ret R) :=
 vcFn_sound (H := H187) follows_ Tryz.func187 (Eq.mpr (by kernel_rfl) h)
def S189 (l_a : OA) (l_n l_c : Nat) (w0 : World) (R : KR) : Prop :=
 loop (T := (ByteArray × Int × Unit)) (ByteArray.empty, 0, ()) w0 fun (g1 : ByteArray × Int × Unit → World → Prop) (s2 : ByteArray × Int × Unit) w3 => ∀ _ : NV,
 br (decide (s2.2.1 < ((l_n : Nat) : Int))) (rdp prog (Instr.indexAt 56 (.slice l_a l_n l_c) (ji s2.2.1)) oA fun (x4 : Addr) =>
 rd prog (jL 55 x4) (.agg [.int .i64, .int .i64, .str]) w3 fun (x5 : Int × Int × ByteArray × Unit) =>
 wr prog (Instr.alloc 55 true (.tuple #[])) oA w3 fun (x6 : Addr) w7 =>
 wu prog (jS 55 x6 (.agg #[ji x5.1, ji x5.2.1, .string x5.2.2.1])) w7 fun w8 =>
 rd prog (jL 55 x6) (.agg [.int .i64, .int .i64, .str]) w8 fun (x9 : Int × Int × ByteArray × Unit) =>
 call prog 241 [.agg #[ji x9.1, ji x9.2.1, .string x9.2.2.1]] (.one (.one .str)) w8 fun (x10 : ByteArray) w11 =>
 rdp prog (cmpS .add 9 (.tmp 14) (.const (.string ⟨#[44]⟩)) (.string x10) (.string ⟨#[44]⟩)) (.one .str) fun (x12 : ByteArray) =>
 rdp prog (cmpS .add 9 (.tmp 12) (.tmp 15) (.string s2.1) (.string x12)) (.one .str) fun (x13 : ByteArray) =>
 z (IntKind.wrap .i64 (s2.2.1 + 1)) fun (z14 : Int) =>
 g1 (x13, z14, ()) w11)
 (R (.string s2.1) w3)
def H189 : Hints := ⟨[(2, 0, [(3, (.one .str)), (8, (.one (.int .i64)))])], [], [], []⟩
theorem S189_calls (l_a : OA) (l_n l_c : Nat) (w0 : World) (R : KR) (h : S189 l_a l_n l_c w0 R) : Calls prog 189 #[.slice l_a l_n l_c] w0 (ret R) :=
 vcFn_sound (H := H189) follows_ Tryz.func189 (Eq.mpr (by kernel_rfl) h)
def S188 (l_a : OA) (l_n l_c : Nat) (w0 : World) (R : KR) : Prop :=
 call prog 240 [.slice l_a l_n l_c, .agg #[ji 0, ji 0, .string ByteArray.empty]] (.one oB) w0 fun (x1 : Bool) w2 =>
 R (.bool x1) w2
def H188 : Hints := ⟨[], [], [], []⟩
theorem S188_calls (l_a : OA) (l_n l_c : Nat) (w0 : World) (R : KR) (h : S188 l_a l_n l_c w0 R) : Calls prog 188 #[.slice l_a l_n l_c] w0 (ret R) :=
 vcFn_sound (H := H188) follows_ Tryz.func188 (Eq.mpr (by kernel_rfl) h)
def S69 (f_ : OA) (k_ : Int) (w0 : World) (R : KR) : Prop :=
 nn f_ fun (a1 : Addr) =>
 rd prog (jL 27 a1) oS w0 fun (x2 : Hd3) =>
 rdp prog (jI 27 x2 k_) oA fun (x3 : Addr) =>
 rd prog (jL 41 x3) (.agg [.str, .slice, .slice, .slice, .slice, .slice]) w0 fun (x4 : ByteArray × Hd3 × Hd3 × TS) =>
 wr prog (Instr.alloc 41 true (.tuple #[])) oA w0 fun (x5 : Addr) w6 =>
 wu prog (jS 41 x5 (.agg #[.string x4.1, jw x4.2.1, jw x4.2.2.1, jw x4.2.2.2.1, jw x4.2.2.2.2.1, jw x4.2.2.2.2.2.1])) w6 fun w7 =>
 nn f_ fun (a8 : Addr) =>
 rd prog (jL 32 (Addr.add a8 1)) oS w7 fun (x9 : Hd3) =>
 rdp prog (jI 32 x9 k_) oA fun (x10 : Addr) =>
 rd prog (jL 53 x10) oS w7 fun (x11 : Hd3) =>
 loop (T := (Int × Unit)) (0, ()) w7 fun (g12 : Int × Unit → World → Prop) (s13 : Int × Unit) w14 => ∀ _ : NV,
 br (decide (s13.1 < ((x11.2.1 : Nat) : Int))) (join (T := Unit) (fun (_s16 : Unit) w17 => ∀ _ : NV,
 z (IntKind.wrap .i64 (s13.1 + 1)) fun (z18 : Int) =>
 g12 (z18, ()) w17)
  fun (K15 : Unit → World → Prop) =>
 rdp prog (jI 53 x11 s13.1) oA fun (x19 : Addr) =>
 rd prog (jL 56 x19) oS w14 fun (x20 : Hd3) =>
 rd prog (jL 37 (Addr.add x5 1)) oS w14 fun (x21 : Hd3) =>
 br (((x20.2.1 : Nat) : Int) != ((x21.2.1 : Nat) : Int)) (call prog 120 [.pointer f_, ji 1, ji k_, ji 0, ji s13.1, ji 0] (.many []) w14 fun (_x22 : Unit) w23 =>
 K15 (()) w23)
 (loop (T := (Int × Unit)) (0, ()) w14 fun (g24 : Int × Unit → World → Prop) (s25 : Int × Unit) w26 => ∀ _ : NV,
 br (decide (s25.1 < ((x20.2.1 : Nat) : Int))) (join (T := Unit) (fun (_s28 : Unit) w29 => ∀ _ : NV,
 z (IntKind.wrap .i64 (s25.1 + 1)) fun (z30 : Int) =>
 g24 (z30, ()) w29)
  fun (K27 : Unit → World → Prop) =>
 rdp prog (jI 56 x20 s25.1) oA fun (x31 : Addr) =>
 rd prog (jL 55 x31) (.agg [.int .i64, .int .i64, .str]) w26 fun (x32 : Int × Int × ByteArray × Unit) =>
 wr prog (Instr.alloc 55 true (.tuple #[])) oA w26 fun (x33 : Addr) w34 =>
 wu prog (jS 55 x33 (.agg #[ji x32.1, ji x32.2.1, .string x32.2.2.1])) w34 fun w35 =>
 join (T := (Bool × Unit)) (fun (s37 : Bool × Unit) w38 => ∀ _ : NV,
 br s37.1 (call prog 120 [.pointer f_, ji 2, ji k_, ji s25.1, ji s13.1, ji 0] (.many []) w38 fun (_x39 : Unit) w40 =>
 K27 (()) w40)
 (rd prog (jL 3 x33) oI w38 fun (x41 : Int) =>
 br (x41 == 0) (rd prog (jL 37 (Addr.add x5 1)) oS w38 fun (x42 : Hd3) =>
 rdp prog (jI 37 x42 s25.1) oA fun (x43 : Addr) =>
 rd prog (jL 4 (Addr.add x43 2)) oB w38 fun (x44 : Bool) =>
 br (!x44) (call prog 120 [.pointer f_, ji 3, ji k_, ji s25.1, ji s13.1, ji 0] (.many []) w38 fun (_x45 : Unit) w46 =>
 K27 (()) w46)
 (rd prog (jL 22 (Addr.add x5 2)) oS w38 fun (x47 : Hd3) =>
 call prog 25 [jw x47, ji s25.1] (.one oB) w38 fun (x48 : Bool) w49 =>
 br x48 (call prog 120 [.pointer f_, ji 3, ji k_, ji s25.1, ji s13.1, ji 0] (.many []) w49 fun (_x50 : Unit) w51 =>
 K27 (()) w51)
 (K27 (()) w49)))
 (K27 (()) w38)))
  fun (K36 : Bool × Unit → World → Prop) =>
 drw w35 fun w52 => flEx fun F53 =>
 rd prog (jL 55 x33) (.agg [.int .i64, .int .i64, .str]) w52 fun (x54 : Int × Int × ByteArray × Unit) =>
 flc bel w52 (fun _w56 => True) (fun w55 =>
   call prog 108 [.agg #[ji x54.1, ji x54.2.1, .string x54.2.2.1]] (.one oB) w55 fun (x57 : Bool) w58 =>
 (bel w55 w58 ∧ F53 1 [.agg #[ji x54.1, ji x54.2.1, .string x54.2.2.1]] (.bool x57) w58))
  fun (x59 : Bool) =>
 br (!x59) (flend bel w52 (fun w61 => F53 1 [.agg #[ji x54.1, ji x54.2.1, .string x54.2.2.1]] (.bool x59) w61 ∧ True) fun w60 =>
 K36 (true, ()) w60)
 (rd prog (jL 3 x33) oI w52 fun (x62 : Int) =>
 br (x62 != 0) (rd prog (jL 3 x33) oI w52 fun (x63 : Int) =>
 rd prog (jL 37 (Addr.add x5 1)) oS w52 fun (x64 : Hd3) =>
 rdp prog (jI 37 x64 s25.1) oA fun (x65 : Addr) =>
 rd prog (jL 3 (Addr.add x65 1)) oI w52 fun (x66 : Int) =>
 flend bel w52 (fun w68 => F53 1 [.agg #[ji x54.1, ji x54.2.1, .string x54.2.2.1]] (.bool x59) w68 ∧ True) fun w67 =>
 K36 ((x63 != x66), ()) w67)
 (flend bel w52 (fun w70 => F53 1 [.agg #[ji x54.1, ji x54.2.1, .string x54.2.2.1]] (.bool x59) w70 ∧ True) fun w69 =>
 K36 (false, ()) w69)))
 (K15 (()) w26)))
 (R (.tuple #[]) w14)
def H69 : Hints := ⟨[(2, 0, [(26, (.one (.int .i64)))]), (2, 2, [(43, (.one (.int .i64)))]), (3, 9, [(48, (.one .bool))]), (1, 3, []), (1, 1, [])], [(9, 16)], [], []⟩
theorem S69_calls (f_ : OA) (k_ : Int) (w0 : World) (R : KR) (h : S69 f_ k_ w0 R) : Calls prog 69 #[.pointer f_, ji k_] w0 (ret R) :=
 vcFn_sound (H := H69) follows_ Tryz.func69 (Eq.mpr (by kernel_rfl) h)
def S121 (f_ : OA) (kind_ table_ index_ : Int) (columns_a : OA) (columns_n columns_c : Nat) (nulls_ : Bool) (w0 : World) (R : KR) : Prop :=
 wr prog (Instr.makeMap 234 none) (.one .map) w0 fun (x1 : Option Nat) w2 =>
 nn f_ fun (a3 : Addr) =>
 rd prog (jL 32 (Addr.add a3 1)) oS w2 fun (x4 : Hd3) =>
 rdp prog (jI 32 x4 table_) oA fun (x5 : Addr) =>
 rd prog (jL 53 x5) oS w2 fun (x6 : Hd3) =>
 loop (T := (Int × Unit)) (0, ()) w2 fun (g7 : Int × Unit → World → Prop) (s8 : Int × Unit) w9 => ∀ _ : NV,
 br (decide (s8.1 < ((x6.2.1 : Nat) : Int))) (join (T := Unit) (fun (_s11 : Unit) w12 => ∀ _ : NV,
 z (IntKind.wrap .i64 (s8.1 + 1)) fun (z13 : Int) =>
 g7 (z13, ()) w12)
  fun (K10 : Unit → World → Prop) =>
 rdp prog (jI 53 x6 s8.1) oA fun (x14 : Addr) =>
 rd prog (jL 56 x14) oS w9 fun (x15 : Hd3) =>
 call prog 187 [jw x15, .slice columns_a columns_n columns_c] (.one oS) w9 fun (x16 : Hd3) w17 =>
 join (T := Unit) (fun (_s19 : Unit) w20 => ∀ _ : NV,
 call prog 189 [jw x16] (.one (.one .str)) w20 fun (x21 : ByteArray) w22 =>
 rdM prog bel (Instr.lookup 234 (.map x1) (.string x21) true) [oI, oB] w22 fun (x23 : Int × Bool × Unit) =>
 br x23.2.1 (call prog 120 [.pointer f_, ji kind_, ji table_, ji index_, ji s8.1, ji x23.1] (.many []) w22 fun (_x24 : Unit) w25 =>
 K10 (()) w25)
 (call prog 189 [jw x16] (.one (.one .str)) w22 fun (x26 : ByteArray) w27 =>
 wu prog (Instr.mapUpdate 234 (.map x1) (.string x26) (ji s8.1)) w27 fun w28 =>
 K10 (()) w28))
  fun (K18 : Unit → World → Prop) =>
 br (!nulls_) (call prog 188 [jw x16] (.one oB) w17 fun (x29 : Bool) w30 =>
 br x29 (K10 (()) w30)
 (K18 (()) w30))
 (K18 (()) w17))
 (R (.tuple #[]) w9)
def H121 : Hints := ⟨[(2, 0, [(28, (.one (.int .i64)))]), (0, 41, []), (1, 1, [])], [], [], []⟩
theorem S121_calls (f_ : OA) (kind_ table_ index_ : Int) (columns_a : OA) (columns_n columns_c : Nat) (nulls_ : Bool) (w0 : World) (R : KR) (h : S121 f_ kind_ table_ index_ columns_a columns_n columns_c nulls_ w0 R) : Calls prog 121 #[.pointer f_, ji kind_, ji table_, ji index_, .slice columns_a columns_n columns_c, .bool nulls_] w0 (ret R) :=
 vcFn_sound (H := H121) follows_ Tryz.func121 (Eq.mpr (by kernel_rfl) h)
def S122 (f_ : OA) (table_ index_ : Int) (w0 : World) (R : KR) : Prop :=
 nn f_ fun (a1 : Addr) =>
 rd prog (jL 29 a1) (.agg [.slice]) w0 fun (x2 : Hd3 × Unit) =>
 call prog 30 [.agg #[jw x2.1], ji table_, ji index_] (.many [oI, oB]) w0 fun (x3 : Int × Bool × Unit) w4 =>
 br (!x3.2.1) (R (.tuple #[]) w4)
 (nn f_ fun (a5 : Addr) =>
 rd prog (jL 106 (Addr.add a5 2)) oS w4 fun (x6 : Hd3) =>
 rdp prog (jI 106 x6 x3.1) oA fun (x7 : Addr) =>
 rd prog (jL 4 x7) oB w4 fun (x8 : Bool) =>
 br x8 (R (.tuple #[]) w4)
 (wr prog (Instr.makeMap 236 none) (.one .map) w4 fun (x9 : Option Nat) w10 =>
 nn f_ fun (a11 : Addr) =>
 rd prog (jL 32 (Addr.add a11 1)) oS w10 fun (x12 : Hd3) =>
 rdp prog (jI 32 x12 x3.1) oA fun (x13 : Addr) =>
 rd prog (jL 53 x13) oS w10 fun (x14 : Hd3) =>
 loop (T := (Int × Unit)) (0, ()) w10 fun (g15 : Int × Unit → World → Prop) (s16 : Int × Unit) w17 => ∀ _ : NV,
 br (decide (s16.1 < ((x14.2.1 : Nat) : Int))) (rdp prog (jI 53 x14 s16.1) oA fun (x18 : Addr) =>
 rd prog (jL 56 x18) oS w17 fun (x19 : Hd3) =>
 nn f_ fun (a20 : Addr) =>
 rd prog (jL 27 a20) oS w17 fun (x21 : Hd3) =>
 rdp prog (jI 27 x21 x3.1) oA fun (x22 : Addr) =>
 rd prog (jL 22 (Addr.add x22 2)) oS w17 fun (x23 : Hd3) =>
 call prog 187 [jw x19, jw x23] (.one oS) w17 fun (x24 : Hd3) w25 =>
 call prog 189 [jw x24] (.one (.one .str)) w25 fun (x26 : ByteArray) w27 =>
 wu prog (Instr.mapUpdate 236 (.map x9) (.string x26) (.bool true)) w27 fun w28 =>
 z (IntKind.wrap .i64 (s16.1 + 1)) fun (z29 : Int) =>
 g15 (z29, ()) w28)
 (nn f_ fun (a30 : Addr) =>
 rd prog (jL 32 (Addr.add a30 1)) oS w17 fun (x31 : Hd3) =>
 rdp prog (jI 32 x31 table_) oA fun (x32 : Addr) =>
 rd prog (jL 53 x32) oS w17 fun (x33 : Hd3) =>
 loop (T := (Int × Unit)) (0, ()) w17 fun (g34 : Int × Unit → World → Prop) (s35 : Int × Unit) w36 => ∀ _ : NV,
 br (decide (s35.1 < ((x33.2.1 : Nat) : Int))) (join (T := Unit) (fun (_s38 : Unit) w39 => ∀ _ : NV,
 z (IntKind.wrap .i64 (s35.1 + 1)) fun (z40 : Int) =>
 g34 (z40, ()) w39)
  fun (K37 : Unit → World → Prop) =>
 rdp prog (jI 53 x33 s35.1) oA fun (x41 : Addr) =>
 rd prog (jL 56 x41) oS w36 fun (x42 : Hd3) =>
 nn f_ fun (a43 : Addr) =>
 rd prog (jL 27 a43) oS w36 fun (x44 : Hd3) =>
 rdp prog (jI 27 x44 table_) oA fun (x45 : Addr) =>
 rd prog (jL 38 (Addr.add x45 4)) oS w36 fun (x46 : Hd3) =>
 rdp prog (jI 38 x46 index_) oA fun (x47 : Addr) =>
 rd prog (jL 22 x47) oS w36 fun (x48 : Hd3) =>
 call prog 187 [jw x42, jw x48] (.one oS) w36 fun (x49 : Hd3) w50 =>
 call prog 188 [jw x49] (.one oB) w50 fun (x51 : Bool) w52 =>
 br (!x51) (call prog 189 [jw x49] (.one (.one .str)) w52 fun (x53 : ByteArray) w54 =>
 rd prog (Instr.lookup 236 (.map x9) (.string x53) false) oB w54 fun (x55 : Bool) =>
 br (!x55) (call prog 120 [.pointer f_, ji 6, ji table_, ji index_, ji s35.1, ji 0] (.many []) w54 fun (_x56 : Unit) w57 =>
 K37 (()) w57)
 (K37 (()) w54))
 (K37 (()) w52))
 (R (.tuple #[]) w36))))
def H122 : Hints := ⟨[(2, 0, [(45, (.one (.int .i64)))]), (2, 2, [(72, (.one (.int .i64)))]), (1, 3, [])], [], [], []⟩
theorem S122_calls (f_ : OA) (table_ index_ : Int) (w0 : World) (R : KR) (h : S122 f_ table_ index_ w0 R) : Calls prog 122 #[.pointer f_, ji table_, ji index_] w0 (ret R) :=
 vcFn_sound (H := H122) follows_ Tryz.func122 (Eq.mpr (by kernel_rfl) h)
def S70 (f_ : OA) (k_ : Int) (w0 : World) (R : KR) : Prop :=
 nn f_ fun (a1 : Addr) =>
 rd prog (jL 27 a1) oS w0 fun (x2 : Hd3) =>
 rdp prog (jI 27 x2 k_) oA fun (x3 : Addr) =>
 rd prog (jL 41 x3) (.agg [.str, .slice, .slice, .slice, .slice, .slice]) w0 fun (x4 : ByteArray × Hd3 × Hd3 × TS) =>
 wr prog (Instr.alloc 41 true (.tuple #[])) oA w0 fun (x5 : Addr) w6 =>
 wu prog (jS 41 x5 (.agg #[.string x4.1, jw x4.2.1, jw x4.2.2.1, jw x4.2.2.2.1, jw x4.2.2.2.2.1, jw x4.2.2.2.2.2.1])) w6 fun w7 =>
 rd prog (jL 22 (Addr.add x5 2)) oS w7 fun (x8 : Hd3) =>
 call prog 121 [.pointer f_, ji 4, ji k_, ji 0, jw x8, .bool true] (.many []) w7 fun (_x9 : Unit) w10 =>
 rd prog (jL 36 (Addr.add x5 3)) oS w10 fun (x11 : Hd3) =>
 loop (T := (Int × Unit)) (0, ()) w10 fun (g12 : Int × Unit → World → Prop) (s13 : Int × Unit) w14 => ∀ _ : NV,
 br (decide (s13.1 < ((x11.2.1 : Nat) : Int))) (rdp prog (jI 36 x11 s13.1) oA fun (x15 : Addr) =>
 rd prog (jL 22 x15) oS w14 fun (x16 : Hd3) =>
 call prog 121 [.pointer f_, ji 5, ji k_, ji s13.1, jw x16, .bool false] (.many []) w14 fun (_x17 : Unit) w18 =>
 z (IntKind.wrap .i64 (s13.1 + 1)) fun (z19 : Int) =>
 g12 (z19, ()) w18)
 (rd prog (jL 38 (Addr.add x5 4)) oS w14 fun (x20 : Hd3) =>
 loop (T := (Int × Unit)) (0, ()) w14 fun (g21 : Int × Unit → World → Prop) (s22 : Int × Unit) w23 => ∀ _ : NV,
 br (decide (s22.1 < ((x20.2.1 : Nat) : Int))) (call prog 122 [.pointer f_, ji k_, ji s22.1] (.many []) w23 fun (_x24 : Unit) w25 =>
 z (IntKind.wrap .i64 (s22.1 + 1)) fun (z26 : Int) =>
 g21 (z26, ()) w25)
 (rd prog (jL 39 (Addr.add x5 5)) oS w23 fun (x27 : Hd3) =>
 loop (T := (Int × Unit)) (0, ()) w23 fun (g28 : Int × Unit → World → Prop) (s29 : Int × Unit) w30 => ∀ _ : NV,
 br (decide (s29.1 < ((x27.2.1 : Nat) : Int))) (rdp prog (jI 39 x27 s29.1) oA fun (x31 : Addr) =>
 rd prog (jL 66 x31) (.agg [.int .i64, .int .i64, .int .i64, .str, .int .i64, .slice]) w30 fun (x32 : Int × Int × Int × ByteArray × Int × Hd3 × Unit) =>
 wr prog (Instr.alloc 66 true (.tuple #[])) oA w30 fun (x33 : Addr) w34 =>
 wu prog (jS 66 x33 (.agg #[ji x32.1, ji x32.2.1, ji x32.2.2.1, .string x32.2.2.2.1, ji x32.2.2.2.2.1, jw x32.2.2.2.2.2.1])) w34 fun w35 =>
 nn f_ fun (a36 : Addr) =>
 rd prog (jL 32 (Addr.add a36 1)) oS w35 fun (x37 : Hd3) =>
 rdp prog (jI 32 x37 k_) oA fun (x38 : Addr) =>
 rd prog (jL 53 x38) oS w35 fun (x39 : Hd3) =>
 loop (T := (Int × Unit)) (0, ()) w35 fun (g40 : Int × Unit → World → Prop) (s41 : Int × Unit) w42 => ∀ _ : NV,
 br (decide (s41.1 < ((x39.2.1 : Nat) : Int))) (join (T := Unit) (fun (_s44 : Unit) w45 => ∀ _ : NV,
 z (IntKind.wrap .i64 (s41.1 + 1)) fun (z46 : Int) =>
 g40 (z46, ()) w45)
  fun (K43 : Unit → World → Prop) =>
 rdp prog (jI 53 x39 s41.1) oA fun (x47 : Addr) =>
 rd prog (jL 56 x47) oS w42 fun (x48 : Hd3) =>
 rd prog (jL 66 x33) (.agg [.int .i64, .int .i64, .int .i64, .str, .int .i64, .slice]) w42 fun (x49 : Int × Int × Int × ByteArray × Int × Hd3 × Unit) =>
 call prog 124 [.agg #[ji x49.1, ji x49.2.1, ji x49.2.2.1, .string x49.2.2.2.1, ji x49.2.2.2.2.1, jw x49.2.2.2.2.2.1], jw x48] (.one (.agg [.int .i64, .int .i64, .str])) w42 fun (x50 : Int × Int × ByteArray × Unit) w51 =>
 call prog 123 [.agg #[ji x50.1, ji x50.2.1, .string x50.2.2.1]] (.one oI) w51 fun (x52 : Int) w53 =>
 br (x52 == 0) (call prog 120 [.pointer f_, ji 7, ji k_, ji s29.1, ji s41.1, ji 0] (.many []) w53 fun (_x54 : Unit) w55 =>
 K43 (()) w55)
 (K43 (()) w53))
 (z (IntKind.wrap .i64 (s29.1 + 1)) fun (z56 : Int) =>
 g28 (z56, ()) w42))
 (R (.tuple #[]) w30)))
def H70 : Hints := ⟨[(2, 0, [(28, (.one (.int .i64)))]), (2, 2, [(42, (.one (.int .i64)))]), (2, 4, [(53, (.one (.int .i64)))]), (2, 6, [(67, (.one (.int .i64)))]), (1, 7, [])], [], [], []⟩
theorem S70_calls (f_ : OA) (k_ : Int) (w0 : World) (R : KR) (h : S70 f_ k_ w0 R) : Calls prog 70 #[.pointer f_, ji k_] w0 (ret R) :=
 vcFn_sound (H := H70) follows_ Tryz.func70 (Eq.mpr (by kernel_rfl) h)
def S33 (s_0a : OA) (s_0n s_0c : Nat) (i_0a : OA) (i_0n i_0c : Nat) (w0 : World) (R : KR) : Prop :=
 wr prog (Instr.box 29 (.agg #[.slice s_0a s_0n s_0c])) oA w0 fun (x1 : Addr) w2 =>
 wr prog (Instr.box 34 (.agg #[.slice i_0a i_0n i_0c])) oA w2 fun (x3 : Addr) w4 =>
 rd prog (jL 29 x1) (.agg [.slice]) w4 fun (x5 : Hd3 × Unit) =>
 call prog 67 [.agg #[jw x5.1]] (.one oI) w4 fun (x6 : Int) w7 =>
 br (x6 != 0) (R (.tuple #[.slice none 0 0, ji x6]) w7)
 (rd prog (jL 32 x3) oS w7 fun (x8 : Hd3) =>
 rd prog (jL 27 x1) oS w7 fun (x9 : Hd3) =>
 br (((x8.2.1 : Nat) : Int) != ((x9.2.1 : Nat) : Int)) (R (.tuple #[.slice none 0 0, ji 9]) w7)
 (rd prog (jL 29 x1) (.agg [.slice]) w7 fun (x10 : Hd3 × Unit) =>
 rd prog (jL 34 x3) (.agg [.slice]) w7 fun (x11 : Hd3 × Unit) =>
 wr prog (Instr.box 132 (.agg #[jw x10.1, jw x11.1, .slice none 0 0, .slice none 0 0])) oA w7 fun (x12 : Addr) w13 =>
 rd prog (jL 27 x1) oS w13 fun (x14 : Hd3) =>
 loop (T := (Int × Unit)) (0, ()) w13 fun (g15 : Int × Unit → World → Prop) (s16 : Int × Unit) w17 => ∀ _ : NV,
 br (decide (s16.1 < ((x14.2.1 : Nat) : Int))) (rdp prog (jI 27 x14 s16.1) oA fun (x18 : Addr) =>
 rd prog (jL 41 x18) (.agg [.str, .slice, .slice, .slice, .slice, .slice]) w17 fun (x19 : ByteArray × Hd3 × Hd3 × TS) =>
 wr prog (Instr.alloc 41 true (.tuple #[])) oA w17 fun (x20 : Addr) w21 =>
 wu prog (jS 41 x20 (.agg #[.string x19.1, jw x19.2.1, jw x19.2.2.1, jw x19.2.2.2.1, jw x19.2.2.2.2.1, jw x19.2.2.2.2.2.1])) w21 fun w22 =>
 drw w22 fun w23 => flEx fun F24 =>
 nn (some x12) fun (a25 : Addr) =>
 rd prog (jL 106 (Addr.add a25 2)) oS w23 fun (x26 : Hd3) =>
 rd prog (jL 41 x20) (.agg [.str, .slice, .slice, .slice, .slice, .slice]) w23 fun (x27 : ByteArray × Hd3 × Hd3 × TS) =>
 rd prog (jL 32 x3) oS w23 fun (x28 : Hd3) =>
 rdp prog (jI 32 x28 s16.1) oA fun (x29 : Addr) =>
 rd prog (jL 53 x29) oS w23 fun (x30 : Hd3) =>
 flc bel w23 (fun _w32 => True) (fun w31 =>
   call prog 68 [.agg #[.string x27.1, jw x27.2.1, jw x27.2.2.1, jw x27.2.2.2.1, jw x27.2.2.2.2.1, jw x27.2.2.2.2.2.1], jw x30] (.one oB) w31 fun (x33 : Bool) w34 =>
 (bel w31 w34 ∧ F24 11 [.agg #[.string x27.1, jw x27.2.1, jw x27.2.2.1, jw x27.2.2.2.1, jw x27.2.2.2.2.1, jw x27.2.2.2.2.2.1], jw x30] (.bool x33) w34))
  fun (x35 : Bool) =>
 flc bel w23 (fun w37 => F24 11 [.agg #[.string x27.1, jw x27.2.1, jw x27.2.2.1, jw x27.2.2.2.1, jw x27.2.2.2.2.1, jw x27.2.2.2.2.2.1], jw x30] (.bool x35) w37 ∧ True) (fun w36 =>
   wr prog (Instr.buildSlice 106 1 #[(0, (.bool x35))]) oS w36 fun (x38 : Hd3) w39 =>
 (bel w36 w39 ∧ F24 12 [.bool x35] (jw x38) w39))
  fun (x40 : Hd3) =>
 flend bel w23 (fun w42 => F24 12 [.bool x35] (jw x40) w42 ∧ F24 11 [.agg #[.string x27.1, jw x27.2.1, jw x27.2.2.1, jw x27.2.2.2.1, jw x27.2.2.2.2.1, jw x27.2.2.2.2.2.1], jw x30] (.bool x35) w42 ∧ True) fun w41 =>
 wr prog (Builtin.append_ #[106, 106] 106 #[.slice x26.1 x26.2.1 x26.2.2, .slice x40.1 x40.2.1 x40.2.2]) oS w41 fun (x43 : Hd3) w44 =>
 nn (some x12) fun (a45 : Addr) =>
 wu prog (jS 106 (Addr.add a45 2) (jw x43)) w44 fun w46 =>
 z (IntKind.wrap .i64 (s16.1 + 1)) fun (z47 : Int) =>
 g15 (z47, ()) w46)
 (rd prog (jL 27 x1) oS w17 fun (x48 : Hd3) =>
 loop (T := (Int × Unit)) (0, ()) w17 fun (g49 : Int × Unit → World → Prop) (s50 : Int × Unit) w51 => ∀ _ : NV,
 br (decide (s50.1 < ((x48.2.1 : Nat) : Int))) (join (T := Unit) (fun (_s53 : Unit) w54 => ∀ _ : NV,
 z (IntKind.wrap .i64 (s50.1 + 1)) fun (z55 : Int) =>
 g49 (z55, ()) w54)
  fun (K52 : Unit → World → Prop) =>
 call prog 69 [jp x12, ji s50.1] (.many []) w51 fun (_x56 : Unit) w57 =>
 nn (some x12) fun (a58 : Addr) =>
 rd prog (jL 106 (Addr.add a58 2)) oS w57 fun (x59 : Hd3) =>
 rdp prog (jI 106 x59 s50.1) oA fun (x60 : Addr) =>
 rd prog (jL 4 x60) oB w57 fun (x61 : Bool) =>
 br (!x61) (call prog 70 [jp x12, ji s50.1] (.many []) w57 fun (_x62 : Unit) w63 =>
 K52 (()) w63)
 (K52 (()) w57))
 (nn (some x12) fun (a64 : Addr) =>
 rd prog (jL 91 (Addr.add a64 3)) oS w51 fun (x65 : Hd3) =>
 R (.tuple #[jw x65, ji 0]) w51))))
def H33 : Hints := ⟨[(2, 0, [(30, (.one (.int .i64)))]), (2, 2, [(55, (.one (.int .i64)))]), (1, 3, [])], [(10, 13)], [], []⟩
theorem S33_calls (s_0a : OA) (s_0n s_0c : Nat) (i_0a : OA) (i_0n i_0c : Nat) (w0 : World) (R : KR) (h : S33 s_0a s_0n s_0c i_0a i_0n i_0c w0 R) : Calls prog 33 #[.agg #[.slice s_0a s_0n s_0c], .agg #[.slice i_0a i_0n i_0c]] w0 (ret R) :=
 vcFn_sound (H := H33) follows_ Tryz.func33 (Eq.mpr (by kernel_rfl) h)
def S10 (s_0a : OA) (s_0n s_0c : Nat) (i_0a : OA) (i_0n i_0c : Nat) (w0 : World) (R : KR) : Prop :=
 wr prog (Instr.box 29 (.agg #[.slice s_0a s_0n s_0c])) oA w0 fun (x1 : Addr) w2 =>
 wr prog (Instr.box 34 (.agg #[.slice i_0a i_0n i_0c])) oA w2 fun (x3 : Addr) w4 =>
 rd prog (jL 29 x1) (.agg [.slice]) w4 fun (x5 : Hd3 × Unit) =>
 rd prog (jL 34 x3) (.agg [.slice]) w4 fun (x6 : Hd3 × Unit) =>
 call prog 33 [.agg #[jw x5.1], .agg #[jw x6.1]] (.many [oS, oI]) w4 fun (x7 : Hd3 × Int × Unit) w8 =>
 br (x7.2.1 == 0) (R (.bool (((x7.1.2.1 : Nat) : Int) == 0)) w8)
 (R (.bool false) w8)
def H10 : Hints := ⟨[], [], [], []⟩
theorem S10_calls (s_0a : OA) (s_0n s_0c : Nat) (i_0a : OA) (i_0n i_0c : Nat) (w0 : World) (R : KR) (h : S10 s_0a s_0n s_0c i_0a i_0n i_0c w0 R) : Calls prog 10 #[.agg #[.slice s_0a s_0n s_0c], .agg #[.slice i_0a i_0n i_0c]] w0 (ret R) :=
 vcFn_sound (H := H10) follows_ Tryz.func10 (Eq.mpr (by kernel_rfl) h)
def S32 (seed_ n_ : Int) (w0 : World) (R : KR) : Prop :=
 br (decide (n_ < 0)) (R (.tuple #[.slice none 0 0, ji 1]) w0)
 (br (decide (n_ > 1000)) (R (.tuple #[.slice none 0 0, ji 8]) w0)
 (wr prog (Instr.makeSlice 22 (ji n_) (ji n_)) oS w0 fun (x1 : Hd3) w2 =>
 loop (T := (Int × Unit)) (0, ()) w2 fun (g3 : Int × Unit → World → Prop) (s4 : Int × Unit) w5 => ∀ _ : NV,
 br (decide (s4.1 < ((x1.2.1 : Nat) : Int))) (rdp prog (jI 22 x1 s4.1) oA fun (x6 : Addr) =>
 wu prog (jS 3 x6 (ji s4.1)) w5 fun w7 =>
 z (IntKind.wrap .i64 (s4.1 + 1)) fun (z8 : Int) =>
 g3 (z8, ()) w7)
 (z (IntKind.wrap .i64 (n_ - 1)) fun (z9 : Int) =>
 loop (T := TF) (seed_, z9, ()) w5 fun (g10 : TF → World → Prop) (s11 : TF) w12 => ∀ _ : NV,
 br (decide (s11.2.1 ≥ 1)) (z (IntKind.wrap .u64 (s11.1 * 6364136223846793005)) fun (z13 : Int) =>
 z (IntKind.wrap .u64 (z13 + 1442695040888963407)) fun (z14 : Int) =>
 rdp prog (cmpS .shr 23 (.tmp 35) (.const (.int .u64 33)) (.int .u64 z14) (.int .u64 33)) (.one (.int .u64)) fun (x15 : Int) =>
 z (IntKind.wrap .i64 (s11.2.1 + 1)) fun (z16 : Int) =>
 z (IntKind.wrap .u64 z16) fun (z17 : Int) =>
 rdp prog (cmpS .rem 23 (.tmp 36) (.tmp 39) (.int .u64 x15) (.int .u64 z17)) (.one (.int .u64)) fun (x18 : Int) =>
 z (IntKind.wrap .i64 x18) fun (z19 : Int) =>
 drw w12 fun w20 =>
 rdp prog (jI 22 x1 z19) oA fun (x21 : Addr) =>
 rd prog (jL 3 x21) oI w20 fun (x22 : Int) =>
 rdp prog (jI 22 x1 s11.2.1) oA fun (x23 : Addr) =>
 rd prog (jL 3 x23) oI w20 fun (x24 : Int) =>
 rdp prog (jI 22 x1 s11.2.1) oA fun (x25 : Addr) =>
 wu prog (jS 3 x25 (ji x22)) w20 fun w26 =>
 rdp prog (jI 22 x1 z19) oA fun (x27 : Addr) =>
 wu prog (jS 3 x27 (ji x24)) w26 fun w28 =>
 z (IntKind.wrap .i64 (s11.2.1 - 1)) fun (z29 : Int) =>
 g10 (z14, z29, ()) w28)
 (R (.tuple #[jw x1, ji 0]) w12))))
def H32 : Hints := ⟨[(2, 0, [(18, (.one (.int .i64)))]), (2, 2, [(0, (.one (.int .u64))), (8, (.one (.int .i64)))])], [(16, 12)], [], []⟩
theorem S32_calls (seed_ n_ : Int) (w0 : World) (R : KR) (h : S32 seed_ n_ w0 R) : Calls prog 32 #[.int .u64 seed_, ji n_] w0 (ret R) :=
 vcFn_sound (H := H32) follows_ Tryz.func32 (Eq.mpr (by kernel_rfl) h)
def S23 (t_0 : ByteArray) (t_1a : OA) (t_1n t_1c : Nat) (t_2a : OA) (t_2n t_2c : Nat) (t_3a : OA) (t_3n t_3c : Nat) (t_4a : OA) (t_4n t_4c : Nat) (t_5a : OA) (t_5n t_5c : Nat) (c_ : Int) (w0 : World) (R : KR) : Prop :=
 wr prog (Instr.box 41 (.agg #[.string t_0, .slice t_1a t_1n t_1c, .slice t_2a t_2n t_2c, .slice t_3a t_3n t_3c, .slice t_4a t_4n t_4c, .slice t_5a t_5n t_5c])) oA w0 fun (x1 : Addr) w2 =>
 wr prog (Instr.box 3 (ji c_)) oA w2 fun (x3 : Addr) w4 =>
 rd prog (jL 22 (Addr.add x1 2)) oS w4 fun (x5 : Hd3) =>
 rd prog (jL 3 x3) oI w4 fun (x6 : Int) =>
 call prog 25 [jw x5, ji x6] (.one oB) w4 fun (x7 : Bool) w8 =>
 br (!x7) (rd prog (jL 38 (Addr.add x1 4)) oS w8 fun (x9 : Hd3) =>
 call prog 49 [jw x9, (.func (.func 50) #[] #[jp x3])] (.one oB) w8 fun (x10 : Bool) w11 =>
 R (.bool (!x10)) w11)
 (R (.bool false) w8)
def H23 : Hints := ⟨[], [], [], []⟩
theorem S23_calls (t_0 : ByteArray) (t_1a : OA) (t_1n t_1c : Nat) (t_2a : OA) (t_2n t_2c : Nat) (t_3a : OA) (t_3n t_3c : Nat) (t_4a : OA) (t_4n t_4c : Nat) (t_5a : OA) (t_5n t_5c : Nat) (c_ : Int) (w0 : World) (R : KR) (h : S23 t_0 t_1a t_1n t_1c t_2a t_2n t_2c t_3a t_3n t_3c t_4a t_4n t_4c t_5a t_5n t_5c c_ w0 R) : Calls prog 23 #[.agg #[.string t_0, .slice t_1a t_1n t_1c, .slice t_2a t_2n t_2c, .slice t_3a t_3n t_3c, .slice t_4a t_4n t_4c, .slice t_5a t_5n t_5c], ji c_] w0 (ret R) :=
 vcFn_sound (H := H23) follows_ Tryz.func23 (Eq.mpr (by kernel_rfl) h)
def S50 (f_0a : OA) (f_0n f_0c : Nat) (f_1 : ByteArray) (cap0 : Addr) (w0 : World) (R : KR) : Prop :=
 wr prog (Instr.box 64 (.agg #[.slice f_0a f_0n f_0c, .string f_1])) oA w0 fun (x1 : Addr) w2 =>
 rd prog (jL 22 x1) oS w2 fun (x3 : Hd3) =>
 rd prog (jL 3 cap0) oI w2 fun (x4 : Int) =>
 call prog 25 [jw x3, ji x4] (.one oB) w2 fun (x5 : Bool) w6 =>
 R (.bool x5) w6
def H50 : Hints := ⟨[], [], [], []⟩
theorem S50_calls (f_0a : OA) (f_0n f_0c : Nat) (f_1 : ByteArray) (cap0 : Addr) (w0 : World) (R : KR) (h : S50 f_0a f_0n f_0c f_1 cap0 w0 R) : Calls prog 50 #[.agg #[.slice f_0a f_0n f_0c, .string f_1], jp cap0] w0 (ret R) :=
 vcFn_sound (H := H50) follows_ Tryz.func50 (Eq.mpr (by kernel_rfl) h)
def S27 (rows_a : OA) (rows_n rows_c : Nat) (c_ : Int) (w0 : World) (R : KR) : Prop :=
 loop (T := (Hd3 × Int × Unit)) ((none, 0, 0), 0, ()) w0 fun (g1 : Hd3 × Int × Unit → World → Prop) (s2 : Hd3 × Int × Unit) w3 => ∀ _ : NV,
 br (decide (s2.2.1 < ((rows_n : Nat) : Int))) (join (T := (Hd3 × Unit)) (fun (s5 : Hd3 × Unit) w6 => ∀ _ : NV,
 z (IntKind.wrap .i64 (s2.2.1 + 1)) fun (z7 : Int) =>
 g1 ((s5.1.1, s5.1.2.1, s5.1.2.2), z7, ()) w6)
  fun (K4 : Hd3 × Unit → World → Prop) =>
 rdp prog (Instr.indexAt 53 (.slice rows_a rows_n rows_c) (ji s2.2.1)) oA fun (x8 : Addr) =>
 rd prog (jL 56 x8) oS w3 fun (x9 : Hd3) =>
 rdp prog (jI 56 x9 c_) oA fun (x10 : Addr) =>
 rd prog (jL 3 x10) oI w3 fun (x11 : Int) =>
 br (x11 != 0) (rdp prog (jI 56 x9 c_) oA fun (x12 : Addr) =>
 rd prog (jL 55 x12) (.agg [.int .i64, .int .i64, .str]) w3 fun (x13 : Int × Int × ByteArray × Unit) =>
 wr prog (Instr.buildSlice 56 1 #[(0, (.agg #[ji x13.1, ji x13.2.1, .string x13.2.2.1]))]) oS w3 fun (x14 : Hd3) w15 =>
 wr prog (Builtin.append_ #[56, 56] 56 #[.slice s2.1.1 s2.1.2.1 s2.1.2.2, .slice x14.1 x14.2.1 x14.2.2]) oS w15 fun (x16 : Hd3) w17 =>
 K4 ((x16.1, x16.2.1, x16.2.2), ()) w17)
 (K4 ((s2.1.1, s2.1.2.1, s2.1.2.2), ()) w3))
 (call prog 54 [jw s2.1, (.func (.func 55) #[] #[])] (.many []) w3 fun (_x18 : Unit) w19 =>
 loop (T := (Hd3 × Hd3 × Int × Unit)) ((none, 0, 0), (none, 0, 0), 0, ()) w19 fun (g20 : Hd3 × Hd3 × Int × Unit → World → Prop) (s21 : Hd3 × Hd3 × Int × Unit) w22 => ∀ _ : NV,
 br (decide (s21.2.2.1 < ((s2.1.2.1 : Nat) : Int))) (join (T := (Hd3 × Hd3 × Unit)) (fun (s24 : Hd3 × Hd3 × Unit) w25 => ∀ _ : NV,
 z (IntKind.wrap .i64 (s21.2.2.1 + 1)) fun (z26 : Int) =>
 g20 ((s24.1.1, s24.1.2.1, s24.1.2.2), (s24.2.1.1, s24.2.1.2.1, s24.2.1.2.2), z26, ()) w25)
  fun (K23 : Hd3 × Hd3 × Unit → World → Prop) =>
 rdp prog (jI 56 s2.1 s21.2.2.1) oA fun (x27 : Addr) =>
 rd prog (jL 55 x27) (.agg [.int .i64, .int .i64, .str]) w22 fun (x28 : Int × Int × ByteArray × Unit) =>
 wr prog (Instr.alloc 55 true (.tuple #[])) oA w22 fun (x29 : Addr) w30 =>
 wu prog (jS 55 x29 (.agg #[ji x28.1, ji x28.2.1, .string x28.2.2.1])) w30 fun w31 =>
 join (T := (Hd3 × Hd3 × Unit)) (fun (s33 : Hd3 × Hd3 × Unit) w34 => ∀ _ : NV,
 z (IntKind.wrap .i64 (((s33.2.1.2.1 : Nat) : Int) - 1)) fun (z35 : Int) =>
 rdp prog (jI 22 s33.2.1 z35) oA fun (x36 : Addr) =>
 rd prog (jL 3 x36) oI w34 fun (x37 : Int) =>
 z (IntKind.wrap .i64 (x37 + 1)) fun (z38 : Int) =>
 rdp prog (jI 22 s33.2.1 z35) oA fun (x39 : Addr) =>
 wu prog (jS 3 x39 (ji z38)) w34 fun w40 =>
 K23 ((s33.1.1, s33.1.2.1, s33.1.2.2), (s33.2.1.1, s33.2.1.2.1, s33.2.1.2.2), ()) w40)
  fun (K32 : Hd3 × Hd3 × Unit → World → Prop) =>
 drw w31 fun w41 =>
 br (s21.2.2.1 == 0) (rd prog (jL 55 x29) (.agg [.int .i64, .int .i64, .str]) w41 fun (x42 : Int × Int × ByteArray × Unit) =>
 wr prog (Instr.buildSlice 56 1 #[(0, (.agg #[ji x42.1, ji x42.2.1, .string x42.2.2.1]))]) oS w41 fun (x43 : Hd3) w44 =>
 wr prog (Builtin.append_ #[56, 56] 56 #[.slice s21.1.1 s21.1.2.1 s21.1.2.2, .slice x43.1 x43.2.1 x43.2.2]) oS w44 fun (x45 : Hd3) w46 =>
 wr prog (Instr.buildSlice 22 1 #[(0, (ji 0))]) oS w46 fun (x47 : Hd3) w48 =>
 wr prog (Builtin.append_ #[22, 22] 22 #[.slice s21.2.1.1 s21.2.1.2.1 s21.2.1.2.2, .slice x47.1 x47.2.1 x47.2.2]) oS w48 fun (x49 : Hd3) w50 =>
 K32 ((x45.1, x45.2.1, x45.2.2), (x49.1, x49.2.1, x49.2.2), ()) w50)
 (rd prog (jL 55 x29) (.agg [.int .i64, .int .i64, .str]) w41 fun (x51 : Int × Int × ByteArray × Unit) =>
 z (IntKind.wrap .i64 (s21.2.2.1 - 1)) fun (z52 : Int) =>
 rdp prog (jI 56 s2.1 z52) oA fun (x53 : Addr) =>
 rd prog (jL 55 x53) (.agg [.int .i64, .int .i64, .str]) w41 fun (x54 : Int × Int × ByteArray × Unit) =>
 rd prog (cmpS .neq 55 (.tmp 46) (.tmp 51) (.agg #[ji x51.1, ji x51.2.1, .string x51.2.2.1]) (.agg #[ji x54.1, ji x54.2.1, .string x54.2.2.1])) oB w41 fun (x55 : Bool) =>
 br x55 (rd prog (jL 55 x29) (.agg [.int .i64, .int .i64, .str]) w41 fun (x56 : Int × Int × ByteArray × Unit) =>
 wr prog (Instr.buildSlice 56 1 #[(0, (.agg #[ji x56.1, ji x56.2.1, .string x56.2.2.1]))]) oS w41 fun (x57 : Hd3) w58 =>
 wr prog (Builtin.append_ #[56, 56] 56 #[.slice s21.1.1 s21.1.2.1 s21.1.2.2, .slice x57.1 x57.2.1 x57.2.2]) oS w58 fun (x59 : Hd3) w60 =>
 wr prog (Instr.buildSlice 22 1 #[(0, (ji 0))]) oS w60 fun (x61 : Hd3) w62 =>
 wr prog (Builtin.append_ #[22, 22] 22 #[.slice s21.2.1.1 s21.2.1.2.1 s21.2.1.2.2, .slice x61.1 x61.2.1 x61.2.2]) oS w62 fun (x63 : Hd3) w64 =>
 K32 ((x59.1, x59.2.1, x59.2.2), (x63.1, x63.2.1, x63.2.2), ()) w64)
 (K32 ((s21.1.1, s21.1.2.1, s21.1.2.2), (s21.2.1.1, s21.2.1.2.1, s21.2.1.2.2), ()) w41)))
 (z (IntKind.wrap .i64 (((rows_n : Nat) : Int) - ((s2.1.2.1 : Nat) : Int))) fun (z65 : Int) =>
 R (.tuple #[jw s21.1, jw s21.2.1, ji z65]) w22))
def H27 : Hints := ⟨[(2, 0, [(7, (.one .slice)), (16, (.one (.int .i64)))]), (1, 1, [(7, (.one .slice))]), (2, 2, [(10, (.one .slice)), (11, (.one .slice)), (38, (.one (.int .i64)))]), (0, 53, [(10, (.one .slice)), (11, (.one .slice))]), (1, 3, [(10, (.one .slice)), (11, (.one .slice))])], [(14, 9)], [], []⟩
theorem S27_calls (rows_a : OA) (rows_n rows_c : Nat) (c_ : Int) (w0 : World) (R : KR) (h : S27 rows_a rows_n rows_c c_ w0 R) : Calls prog 27 #[.slice rows_a rows_n rows_c, ji c_] w0 (ret R) :=
 vcFn_sound (H := H27) follows_ Tryz.func27 (Eq.mpr (by kernel_rfl) h)
def S22 (s_0a : OA) (s_0n s_0c : Nat) (i_0a : OA) (i_0n i_0c : Nat) (protected_a : OA) (protected_n protected_c : Nat) (threshold_ : Int) (w0 : World) (R : KR) : Prop :=
 wr prog (Instr.box 29 (.agg #[.slice s_0a s_0n s_0c])) oA w0 fun (x1 : Addr) w2 =>
 wr prog (Instr.box 34 (.agg #[.slice i_0a i_0n i_0c])) oA w2 fun (x3 : Addr) w4 =>
 rd prog (jL 29 x1) (.agg [.slice]) w4 fun (x5 : Hd3 × Unit) =>
 call prog 44 [.agg #[jw x5.1]] (.one oB) w4 fun (x6 : Bool) w7 =>
 br (!x6) (R (ji 1) w7)
 (rd prog (jL 29 x1) (.agg [.slice]) w7 fun (x8 : Hd3 × Unit) =>
 rd prog (jL 34 x3) (.agg [.slice]) w7 fun (x9 : Hd3 × Unit) =>
 call prog 10 [.agg #[jw x8.1], .agg #[jw x9.1]] (.one oB) w7 fun (x10 : Bool) w11 =>
 br (!x10) (R (ji 1) w11)
 (br (decide (threshold_ < 1)) (R (ji 1) w11)
 (rd prog (jL 32 x3) oS w11 fun (x12 : Hd3) =>
 call prog 45 [jw x12, (.func (.func 46) #[] #[])] (.one oB) w11 fun (x13 : Bool) w14 =>
 br x13 (R (ji 8) w14)
 (rd prog (jL 27 x1) oS w14 fun (x15 : Hd3) =>
 br (((protected_n : Nat) : Int) != ((x15.2.1 : Nat) : Int)) (R (ji 9) w14)
 (loop (T := (Int × Unit)) (0, ()) w14 fun (g16 : Int × Unit → World → Prop) (s17 : Int × Unit) w18 => ∀ _ : NV,
 br (decide (s17.1 < ((protected_n : Nat) : Int))) (rdp prog (Instr.indexAt 36 (.slice protected_a protected_n protected_c) (ji s17.1)) oA fun (x19 : Addr) =>
 rd prog (jL 22 x19) oS w18 fun (x20 : Hd3) =>
 rd prog (jL 27 x1) oS w18 fun (x21 : Hd3) =>
 rdp prog (jI 27 x21 s17.1) oA fun (x22 : Addr) =>
 rd prog (jL 41 x22) (.agg [.str, .slice, .slice, .slice, .slice, .slice]) w18 fun (x23 : ByteArray × Hd3 × Hd3 × TS) =>
 wr prog (Instr.alloc 41 true (.tuple #[])) oA w18 fun (x24 : Addr) w25 =>
 wu prog (jS 41 x24 (.agg #[.string x23.1, jw x23.2.1, jw x23.2.2.1, jw x23.2.2.2.1, jw x23.2.2.2.2.1, jw x23.2.2.2.2.2.1])) w25 fun w26 =>
 call prog 47 [jw x20, (.func (.func 48) #[] #[jp x24])] (.one oB) w26 fun (x27 : Bool) w28 =>
 br x27 (R (ji 9) w28)
 (z (IntKind.wrap .i64 (s17.1 + 1)) fun (z29 : Int) =>
 g16 (z29, ()) w28))
 (R (ji 0) w18))))))
def H22 : Hints := ⟨[(2, 0, [(36, (.one (.int .i64)))])], [], [], []⟩
theorem S22_calls (s_0a : OA) (s_0n s_0c : Nat) (i_0a : OA) (i_0n i_0c : Nat) (protected_a : OA) (protected_n protected_c : Nat) (threshold_ : Int) (w0 : World) (R : KR) (h : S22 s_0a s_0n s_0c i_0a i_0n i_0c protected_a protected_n protected_c threshold_ w0 R) : Calls prog 22 #[.agg #[.slice s_0a s_0n s_0c], .agg #[.slice i_0a i_0n i_0c], .slice protected_a protected_n protected_c, ji threshold_] w0 (ret R) :=
 vcFn_sound (H := H22) follows_ Tryz.func22 (Eq.mpr (by kernel_rfl) h)
def S46 (_rows_a : OA) (rows_n _rows_c : Nat) (w0 : World) (R : KR) : Prop :=
 R (.bool (decide (((rows_n : Nat) : Int) > 200))) w0
def H46 : Hints := ⟨[], [], [], []⟩
theorem S46_calls (rows_a : OA) (rows_n rows_c : Nat) (w0 : World) (R : KR) (h : S46 rows_a rows_n rows_c w0 R) : Calls prog 46 #[.slice rows_a rows_n rows_c] w0 (ret R) :=
 vcFn_sound (H := H46) follows_ Tryz.func46 (Eq.mpr (by kernel_rfl) h)
def S48 (c_ : Int) (cap0 : Addr) (w0 : World) (R : KR) : Prop :=
 br (decide (c_ < 0)) (R (.bool true) w0)
 (rd prog (jL 37 (Addr.add cap0 1)) oS w0 fun (x1 : Hd3) =>
 br (decide (c_ ≥ ((x1.2.1 : Nat) : Int))) (R (.bool true) w0)
 (rd prog (jL 41 cap0) (.agg [.str, .slice, .slice, .slice, .slice, .slice]) w0 fun (x2 : ByteArray × Hd3 × Hd3 × TS) =>
 call prog 23 [.agg #[.string x2.1, jw x2.2.1, jw x2.2.2.1, jw x2.2.2.2.1, jw x2.2.2.2.2.1, jw x2.2.2.2.2.2.1], ji c_] (.one oB) w0 fun (x3 : Bool) w4 =>
 R (.bool (!x3)) w4))
def H48 : Hints := ⟨[], [], [], []⟩
theorem S48_calls (c_ : Int) (cap0 : Addr) (w0 : World) (R : KR) (h : S48 c_ cap0 w0 R) : Calls prog 48 #[ji c_, jp cap0] w0 (ret R) :=
 vcFn_sound (H := H48) follows_ Tryz.func48 (Eq.mpr (by kernel_rfl) h)
def S8 (s_0a : OA) (s_0n s_0c : Nat) (i_0a : OA) (i_0n i_0c : Nat) (protected_a : OA) (protected_n protected_c : Nat) (threshold_ : Int) (w0 : World) (R : KR) : Prop :=
 wr prog (Instr.box 29 (.agg #[.slice s_0a s_0n s_0c])) oA w0 fun (x1 : Addr) w2 =>
 wr prog (Instr.box 34 (.agg #[.slice i_0a i_0n i_0c])) oA w2 fun (x3 : Addr) w4 =>
 rd prog (jL 29 x1) (.agg [.slice]) w4 fun (x5 : Hd3 × Unit) =>
 rd prog (jL 34 x3) (.agg [.slice]) w4 fun (x6 : Hd3 × Unit) =>
 call prog 22 [.agg #[jw x5.1], .agg #[jw x6.1], .slice protected_a protected_n protected_c, ji threshold_] (.one oI) w4 fun (x7 : Int) w8 =>
 br (x7 != 0) (R (.tuple #[.slice none 0 0, ji x7]) w8)
 (rd prog (jL 27 x1) oS w8 fun (x9 : Hd3) =>
 loop (T := (Hd3 × Int × Unit)) ((none, 0, 0), 0, ()) w8 fun (g10 : Hd3 × Int × Unit → World → Prop) (s11 : Hd3 × Int × Unit) w12 => ∀ _ : NV,
 br (decide (s11.2.1 < ((x9.2.1 : Nat) : Int))) (rdp prog (jI 27 x9 s11.2.1) oA fun (x13 : Addr) =>
 rd prog (jL 41 x13) (.agg [.str, .slice, .slice, .slice, .slice, .slice]) w12 fun (x14 : ByteArray × Hd3 × Hd3 × TS) =>
 wr prog (Instr.alloc 41 true (.tuple #[])) oA w12 fun (x15 : Addr) w16 =>
 wu prog (jS 41 x15 (.agg #[.string x14.1, jw x14.2.1, jw x14.2.2.1, jw x14.2.2.2.1, jw x14.2.2.2.2.1, jw x14.2.2.2.2.2.1])) w16 fun w17 =>
 rd prog (jL 32 x3) oS w17 fun (x18 : Hd3) =>
 rdp prog (jI 32 x18 s11.2.1) oA fun (x19 : Addr) =>
 rd prog (jL 53 x19) oS w17 fun (x20 : Hd3) =>
 wr prog (Instr.alloc 79 true (.tuple #[])) oA w17 fun (x21 : Addr) w22 =>
 wu prog (jS 79 x21 (.agg #[(ji ((x20.2.1 : Nat) : Int)), .slice none 0 0])) w22 fun w23 =>
 rd prog (jL 37 (Addr.add x15 1)) oS w23 fun (x24 : Hd3) =>
 loop (T := (Int × Unit)) (0, ()) w23 fun (g25 : Int × Unit → World → Prop) (s26 : Int × Unit) w27 => ∀ _ : NV,
 br (decide (s26.1 < ((x24.2.1 : Nat) : Int))) (join (T := Unit) (fun (_s29 : Unit) w30 => ∀ _ : NV,
 z (IntKind.wrap .i64 (s26.1 + 1)) fun (z31 : Int) =>
 g25 (z31, ()) w30)
  fun (K28 : Unit → World → Prop) =>
 rdp prog (jI 37 x24 s26.1) oA fun (x32 : Addr) =>
 rd prog (jL 62 x32) (.agg [.str, .int .i64, .bool]) w27 fun (x33 : ByteArray × Int × Bool × Unit) =>
 wr prog (Instr.alloc 62 true (.tuple #[])) oA w27 fun (x34 : Addr) w35 =>
 wu prog (jS 62 x34 (.agg #[.string x33.1, ji x33.2.1, .bool x33.2.2.1])) w35 fun w36 =>
 rd prog (jL 41 x15) (.agg [.str, .slice, .slice, .slice, .slice, .slice]) w36 fun (x37 : ByteArray × Hd3 × Hd3 × TS) =>
 call prog 23 [.agg #[.string x37.1, jw x37.2.1, jw x37.2.2.1, jw x37.2.2.2.1, jw x37.2.2.2.2.1, jw x37.2.2.2.2.2.1], ji s26.1] (.one oB) w36 fun (x38 : Bool) w39 =>
 br (!x38) (rd prog (jL 77 (Addr.add x21 1)) oS w39 fun (x40 : Hd3) =>
 wr prog (Instr.buildSlice 77 1 #[(0, (.agg #[ji 0, .slice none 0 0, .slice none 0 0, .slice none 0 0, ji 0]))]) oS w39 fun (x41 : Hd3) w42 =>
 wr prog (Builtin.append_ #[77, 77] 77 #[.slice x40.1 x40.2.1 x40.2.2, .slice x41.1 x41.2.1 x41.2.2]) oS w42 fun (x43 : Hd3) w44 =>
 wu prog (jS 77 (Addr.add x21 1) (jw x43)) w44 fun w45 =>
 K28 (()) w45)
 (join (T := (Value × Unit)) (fun (s47 : Value × Unit) w48 => ∀ _ : NV,
 rd prog (jL 32 x3) oS w48 fun (x49 : Hd3) =>
 rdp prog (jI 32 x49 s11.2.1) oA fun (x50 : Addr) =>
 rd prog (jL 53 x50) oS w48 fun (x51 : Hd3) =>
 call prog 27 [jw x51, ji s26.1] (.many [oS, oS, oI]) w48 fun (x52 : Hd3 × Hd3 × Int × Unit) w53 =>
 drw w53 fun w54 => flEx fun F55 =>
 rd prog (jL 77 (Addr.add x21 1)) oS w54 fun (x56 : Hd3) =>
 flc bel w54 (fun _w58 => True) (fun w57 =>
   callV prog none s47.1 #[jw x52.1, jw x52.2.1, ji x52.2.2.1, ji threshold_] (.one (.agg [.int .i64, .slice, .slice, .slice, .int .i64])) w57 fun (x59 : Int × Hd3 × Hd3 × Hd3 × Int × Unit) w60 =>
 (bel w57 w60 ∧ F55 7 [jw x52.1, jw x52.2.1, ji x52.2.2.1, ji threshold_] (.agg #[ji x59.1, jw x59.2.1, jw x59.2.2.1, jw x59.2.2.2.1, ji x59.2.2.2.2.1]) w60))
  fun (x61 : Int × Hd3 × Hd3 × Hd3 × Int × Unit) =>
 flc bel w54 (fun w63 => F55 7 [jw x52.1, jw x52.2.1, ji x52.2.2.1, ji threshold_] (.agg #[ji x61.1, jw x61.2.1, jw x61.2.2.1, jw x61.2.2.2.1, ji x61.2.2.2.2.1]) w63 ∧ True) (fun w62 =>
   wr prog (Instr.buildSlice 77 1 #[(0, (.agg #[ji x61.1, jw x61.2.1, jw x61.2.2.1, jw x61.2.2.2.1, ji x61.2.2.2.2.1]))]) oS w62 fun (x64 : Hd3) w65 =>
 (bel w62 w65 ∧ F55 8 [.agg #[ji x61.1, jw x61.2.1, jw x61.2.2.1, jw x61.2.2.2.1, ji x61.2.2.2.2.1]] (jw x64) w65))
  fun (x66 : Hd3) =>
 flend bel w54 (fun w68 => F55 8 [.agg #[ji x61.1, jw x61.2.1, jw x61.2.2.1, jw x61.2.2.2.1, ji x61.2.2.2.2.1]] (jw x66) w68 ∧ F55 7 [jw x52.1, jw x52.2.1, ji x52.2.2.1, ji threshold_] (.agg #[ji x61.1, jw x61.2.1, jw x61.2.2.1, jw x61.2.2.2.1, ji x61.2.2.2.2.1]) w68 ∧ True) fun w67 =>
 wr prog (Builtin.append_ #[77, 77] 77 #[.slice x56.1 x56.2.1 x56.2.2, .slice x66.1 x66.2.1 x66.2.2]) oS w67 fun (x69 : Hd3) w70 =>
 wu prog (jS 77 (Addr.add x21 1) (jw x69)) w70 fun w71 =>
 K28 (()) w71)
  fun (K46 : Value × Unit → World → Prop) =>
 rd prog (jL 3 (Addr.add x34 1)) oI w39 fun (x72 : Int) =>
 br (x72 == 1) (rdp prog (Instr.indexAt 36 (.slice protected_a protected_n protected_c) (ji s11.2.1)) oA fun (x73 : Addr) =>
 rd prog (jL 22 x73) oS w39 fun (x74 : Hd3) =>
 call prog 25 [jw x74, ji s26.1] (.one oB) w39 fun (x75 : Bool) w76 =>
 br (!x75) (K46 ((.func (.func 26) #[] #[]), ()) w76)
 (K46 ((.func (.func 24) #[] #[]), ()) w76))
 (K46 ((.func (.func 24) #[] #[]), ()) w39)))
 (rd prog (jL 79 x21) (.agg [.int .i64, .slice]) w27 fun (x77 : Int × Hd3 × Unit) =>
 wr prog (Instr.buildSlice 43 1 #[(0, (.agg #[ji x77.1, jw x77.2.1]))]) oS w27 fun (x78 : Hd3) w79 =>
 wr prog (Builtin.append_ #[43, 43] 43 #[.slice s11.1.1 s11.1.2.1 s11.1.2.2, .slice x78.1 x78.2.1 x78.2.2]) oS w79 fun (x80 : Hd3) w81 =>
 z (IntKind.wrap .i64 (s11.2.1 + 1)) fun (z82 : Int) =>
 g10 ((x80.1, x80.2.1, x80.2.2), z82, ()) w81))
 (R (.tuple #[jw s11.1, ji 0]) w12))
def H8 : Hints := ⟨[(2, 0, [(11, (.one .slice)), (32, (.one (.int .i64)))]), (2, 2, [(47, (.one (.int .i64)))]), (0, 73, [(17, (.one .any))]), (1, 3, [])], [(18, 9)], [], []⟩
theorem S8_calls (s_0a : OA) (s_0n s_0c : Nat) (i_0a : OA) (i_0n i_0c : Nat) (protected_a : OA) (protected_n protected_c : Nat) (threshold_ : Int) (w0 : World) (R : KR) (h : S8 s_0a s_0n s_0c i_0a i_0n i_0c protected_a protected_n protected_c threshold_ w0 R) : Calls prog 8 #[.agg #[.slice s_0a s_0n s_0c], .agg #[.slice i_0a i_0n i_0c], .slice protected_a protected_n protected_c, ji threshold_] w0 (ret R) :=
 vcFn_sound (H := H8) follows_ Tryz.func8 (Eq.mpr (by kernel_rfl) h)
def S102 (want_ : Int) (l_a : OA) (l_n l_c : Nat) (w0 : World) (R : KR) : Prop :=
 loop (T := (Int × Int × Int × Unit)) (0, 0, 0, ()) w0 fun (g1 : Int × Int × Int × Unit → World → Prop) (s2 : Int × Int × Int × Unit) w3 => ∀ _ : NV,
 br (decide (s2.2.2.1 < ((l_n : Nat) : Int))) (rdp prog (Instr.indexAt 22 (.slice l_a l_n l_c) (ji s2.2.2.1)) oA fun (x4 : Addr) =>
 rd prog (jL 3 x4) oI w3 fun (x5 : Int) =>
 rdp prog (cmpS .shr 3 (.tmp 16) (.const (.int .u64 31)) (ji x5) (.int .u64 31)) oI fun (x6 : Int) =>
 z (IntKind.wrap .i64 (s2.1 + x6)) fun (z7 : Int) =>
 z (iand .i64 x5 2147483647) fun (z8 : Int) =>
 z (IntKind.wrap .i64 (s2.2.1 + z8)) fun (z9 : Int) =>
 z (IntKind.wrap .i64 (s2.2.2.1 + 1)) fun (z10 : Int) =>
 g1 (z7, z9, z10, ()) w3)
 (rdp prog (cmpS .shr 3 (.tmp 25) (.const (.int .u64 31)) (ji s2.2.1) (.int .u64 31)) oI fun (x11 : Int) =>
 z (IntKind.wrap .i64 (s2.1 + x11)) fun (z12 : Int) =>
 rdp prog (cmpS .shr 3 (.tmp 28) (.const (.int .u64 31)) (ji want_) (.int .u64 31)) oI fun (x13 : Int) =>
 br (z12 == x13) (z (iand .i64 s2.2.1 2147483647) fun (z14 : Int) =>
 z (iand .i64 want_ 2147483647) fun (z15 : Int) =>
 R (.bool (z14 == z15)) w3)
 (R (.bool false) w3))
def H102 : Hints := ⟨[(2, 0, [(5, (.one (.int .i64))), (6, (.one (.int .i64))), (11, (.one (.int .i64)))])], [], [], []⟩
theorem S102_calls (want_ : Int) (l_a : OA) (l_n l_c : Nat) (w0 : World) (R : KR) (h : S102 want_ l_a l_n l_c w0 R) : Calls prog 102 #[ji want_, .slice l_a l_n l_c] w0 (ret R) :=
 vcFn_sound (H := H102) follows_ Tryz.func102 (Eq.mpr (by kernel_rfl) h)
def S103 (c_0 : Int) (c_1a : OA) (c_1n c_1c : Nat) (c_2a : OA) (c_2n c_2c : Nat) (c_3a : OA) (c_3n c_3c : Nat) (c_4 : Int) (w0 : World) (R : KR) : Prop :=
 wr prog (Instr.box 82 (.agg #[ji c_0, .slice c_1a c_1n c_1c, .slice c_2a c_2n c_2c, .slice c_3a c_3n c_3c, ji c_4])) oA w0 fun (x1 : Addr) w2 =>
 rd prog (jL 3 x1) oI w2 fun (x3 : Int) =>
 rd prog (jL 3 (Addr.add x1 4)) oI w2 fun (x4 : Int) =>
 wr prog (Instr.buildSlice 22 2 #[(0, (ji x3)), (1, (ji x4))]) oS w2 fun (x5 : Hd3) w6 =>
 rd prog (jL 22 (Addr.add x1 3)) oS w6 fun (x7 : Hd3) =>
 wr prog (Builtin.append_ #[22, 22] 22 #[.slice x5.1 x5.2.1 x5.2.2, .slice x7.1 x7.2.1 x7.2.2]) oS w6 fun (x8 : Hd3) w9 =>
 rd prog (jL 80 (Addr.add x1 1)) oS w9 fun (x10 : Hd3) =>
 loop (T := (Hd3 × Int × Unit)) ((x8.1, x8.2.1, x8.2.2), 0, ()) w9 fun (g11 : Hd3 × Int × Unit → World → Prop) (s12 : Hd3 × Int × Unit) w13 => ∀ _ : NV,
 br (decide (s12.2.1 < ((x10.2.1 : Nat) : Int))) (rdp prog (jI 80 x10 s12.2.1) oA fun (x14 : Addr) =>
 rd prog (jL 159 x14) (.agg [.int .i64, .int .i64, .int .i64]) w13 fun (x15 : Int × Int × Int × Unit) =>
 wr prog (Instr.alloc 159 true (.tuple #[])) oA w13 fun (x16 : Addr) w17 =>
 wu prog (jS 159 x16 (.agg #[ji x15.1, ji x15.2.1, ji x15.2.2.1])) w17 fun w18 =>
 rd prog (jL 3 (Addr.add x16 2)) oI w18 fun (x19 : Int) =>
 wr prog (Instr.buildSlice 22 1 #[(0, (ji x19))]) oS w18 fun (x20 : Hd3) w21 =>
 wr prog (Builtin.append_ #[22, 22] 22 #[.slice s12.1.1 s12.1.2.1 s12.1.2.2, .slice x20.1 x20.2.1 x20.2.2]) oS w21 fun (x22 : Hd3) w23 =>
 z (IntKind.wrap .i64 (s12.2.1 + 1)) fun (z24 : Int) =>
 g11 ((x22.1, x22.2.1, x22.2.2), z24, ()) w23)
 (R (jw s12.1) w13)
def H103 : Hints := ⟨[(2, 0, [(3, (.one .slice)), (17, (.one (.int .i64)))])], [], [], []⟩
theorem S103_calls (c_0 : Int) (c_1a : OA) (c_1n c_1c : Nat) (c_2a : OA) (c_2n c_2c : Nat) (c_3a : OA) (c_3n c_3c : Nat) (c_4 : Int) (w0 : World) (R : KR) (h : S103 c_0 c_1a c_1n c_1c c_2a c_2n c_2c c_3a c_3n c_3c c_4 w0 R) : Calls prog 103 #[.agg #[ji c_0, .slice c_1a c_1n c_1c, .slice c_2a c_2n c_2c, .slice c_3a c_3n c_3c, ji c_4]] w0 (ret R) :=
 vcFn_sound (H := H103) follows_ Tryz.func103 (Eq.mpr (by kernel_rfl) h)
def S63 (_p0 : Int) (t_0 : ByteArray) (t_1 : Int) (t_2 : Bool) (rows_ c_0 : Int) (c_1a : OA) (c_1n c_1c : Nat) (c_2a : OA) (c_2n c_2c : Nat) (c_3a : OA) (c_3n c_3c : Nat) (c_4 : Int) (w0 : World) (R : KR) : Prop :=
 wr prog (Instr.box 62 (.agg #[.string t_0, ji t_1, .bool t_2])) oA w0 fun (x1 : Addr) w2 =>
 wr prog (Instr.box 82 (.agg #[ji c_0, .slice c_1a c_1n c_1c, .slice c_2a c_2n c_2c, .slice c_3a c_3n c_3c, ji c_4])) oA w2 fun (x3 : Addr) w4 =>
 join (T := (Bool × Unit)) (fun (s6 : Bool × Unit) w7 => ∀ _ : NV,
 br s6.1 (R (ji 4) w7)
 (R (ji 0) w7))
  fun (K5 : Bool × Unit → World → Prop) =>
 br (decide (rows_ < 0)) (K5 (true, ()) w4)
 (rd prog (jL 82 x3) (.agg [.int .i64, .slice, .slice, .slice, .int .i64]) w4 fun (x8 : Int × Hd3 × Hd3 × Hd3 × Int × Unit) =>
 call prog 103 [.agg #[ji x8.1, jw x8.2.1, jw x8.2.2.1, jw x8.2.2.2.1, ji x8.2.2.2.2.1]] (.one oS) w4 fun (x9 : Hd3) w10 =>
 call prog 47 [jw x9, (.func (.func 105) #[] #[])] (.one oB) w10 fun (x11 : Bool) w12 =>
 br x11 (K5 (true, ()) w12)
 (rd prog (jL 56 (Addr.add x3 2)) oS w12 fun (x13 : Hd3) =>
 call prog 106 [jw x13, (.func (.func 107) #[] #[jp x1])] (.one oB) w12 fun (x14 : Bool) w15 =>
 br x14 (K5 (true, ()) w15)
 (rd prog (jL 80 (Addr.add x3 1)) oS w15 fun (x16 : Hd3) =>
 br (decide (((x16.2.1 : Nat) : Int) > 0)) (rd prog (jL 3 (Addr.add x1 1)) oI w15 fun (x17 : Int) =>
 br (x17 != 1) (K5 (true, ()) w15)
 (rd prog (jL 56 (Addr.add x3 2)) oS w15 fun (x18 : Hd3) =>
 br (decide (((x18.2.1 : Nat) : Int) > 0)) (K5 (true, ()) w15)
 (rd prog (jL 3 x3) oI w15 fun (x19 : Int) =>
 br (decide (x19 > 0)) (rd prog (jL 4 (Addr.add x1 2)) oB w15 fun (x20 : Bool) =>
 br (!x20) (K5 (true, ()) w15)
 (rd prog (jL 80 (Addr.add x3 1)) oS w15 fun (x21 : Hd3) =>
 call prog 109 [jw x21, (.func (.func 110) #[] #[])] (.one oB) w15 fun (x22 : Bool) w23 =>
 K5 (x22, ()) w23))
 (rd prog (jL 80 (Addr.add x3 1)) oS w15 fun (x24 : Hd3) =>
 call prog 109 [jw x24, (.func (.func 110) #[] #[])] (.one oB) w15 fun (x25 : Bool) w26 =>
 K5 (x25, ()) w26))))
 (rd prog (jL 3 x3) oI w15 fun (x27 : Int) =>
 br (decide (x27 > 0)) (rd prog (jL 4 (Addr.add x1 2)) oB w15 fun (x28 : Bool) =>
 br (!x28) (K5 (true, ()) w15)
 (rd prog (jL 80 (Addr.add x3 1)) oS w15 fun (x29 : Hd3) =>
 call prog 109 [jw x29, (.func (.func 110) #[] #[])] (.one oB) w15 fun (x30 : Bool) w31 =>
 K5 (x30, ()) w31))
 (rd prog (jL 80 (Addr.add x3 1)) oS w15 fun (x32 : Hd3) =>
 call prog 109 [jw x32, (.func (.func 110) #[] #[])] (.one oB) w15 fun (x33 : Bool) w34 =>
 K5 (x33, ()) w34)))))
def H63 : Hints := ⟨[(3, 1, [(9, (.one .bool))])], [], [], []⟩
theorem S63_calls (p0 : Int) (t_0 : ByteArray) (t_1 : Int) (t_2 : Bool) (rows_ c_0 : Int) (c_1a : OA) (c_1n c_1c : Nat) (c_2a : OA) (c_2n c_2c : Nat) (c_3a : OA) (c_3n c_3c : Nat) (c_4 : Int) (w0 : World) (R : KR) (h : S63 p0 t_0 t_1 t_2 rows_ c_0 c_1a c_1n c_1c c_2a c_2n c_2c c_3a c_3n c_3c c_4 w0 R) : Calls prog 63 #[ji p0, .agg #[.string t_0, ji t_1, .bool t_2], ji rows_, .agg #[ji c_0, .slice c_1a c_1n c_1c, .slice c_2a c_2n c_2c, .slice c_3a c_3n c_3c, ji c_4]] w0 (ret R) :=
 vcFn_sound (H := H63) follows_ Tryz.func63 (Eq.mpr (by kernel_rfl) h)
def S105 (n_ : Int) (w0 : World) (R : KR) : Prop :=
 R (.bool (decide (n_ < 0))) w0
def H105 : Hints := ⟨[], [], [], []⟩
theorem S105_calls (n_ : Int) (w0 : World) (R : KR) (h : S105 n_ w0 R) : Calls prog 105 #[ji n_] w0 (ret R) :=
 vcFn_sound (H := H105) follows_ Tryz.func105 (Eq.mpr (by kernel_rfl) h)
def S107 (v_0 v_1 : Int) (v_2 : ByteArray) (cap0 : Addr) (w0 : World) (R : KR) : Prop :=
 wr prog (Instr.box 55 (.agg #[ji v_0, ji v_1, .string v_2])) oA w0 fun (x1 : Addr) w2 =>
 rd prog (jL 55 x1) (.agg [.int .i64, .int .i64, .str]) w2 fun (x3 : Int × Int × ByteArray × Unit) =>
 call prog 108 [.agg #[ji x3.1, ji x3.2.1, .string x3.2.2.1]] (.one oB) w2 fun (x4 : Bool) w5 =>
 br (!x4) (R (.bool true) w5)
 (rd prog (jL 3 x1) oI w5 fun (x6 : Int) =>
 rd prog (jL 3 (Addr.add cap0 1)) oI w5 fun (x7 : Int) =>
 R (.bool (x6 != x7)) w5)
def H107 : Hints := ⟨[], [], [], []⟩
theorem S107_calls (v_0 v_1 : Int) (v_2 : ByteArray) (cap0 : Addr) (w0 : World) (R : KR) (h : S107 v_0 v_1 v_2 cap0 w0 R) : Calls prog 107 #[.agg #[ji v_0, ji v_1, .string v_2], jp cap0] w0 (ret R) :=
 vcFn_sound (H := H107) follows_ Tryz.func107 (Eq.mpr (by kernel_rfl) h)
def S58 (s_0a : OA) (s_0n s_0c : Nat) (l_a : OA) (l_n l_c : Nat) (w0 : World) (R : KR) : Prop :=
 wr prog (Instr.box 29 (.agg #[.slice s_0a s_0n s_0c])) oA w0 fun (x1 : Addr) w2 =>
 rd prog (jL 27 x1) oS w2 fun (x3 : Hd3) =>
 br (((l_n : Nat) : Int) != ((x3.2.1 : Nat) : Int)) (R (ji 9) w2)
 (rd prog (jL 27 x1) oS w2 fun (x4 : Hd3) =>
 loop (T := (Int × Unit)) (0, ()) w2 fun (g5 : Int × Unit → World → Prop) (s6 : Int × Unit) w7 => ∀ _ : NV,
 br (decide (s6.1 < ((x4.2.1 : Nat) : Int))) (rdp prog (jI 27 x4 s6.1) oA fun (x8 : Addr) =>
 rd prog (jL 41 x8) (.agg [.str, .slice, .slice, .slice, .slice, .slice]) w7 fun (x9 : ByteArray × Hd3 × Hd3 × TS) =>
 wr prog (Instr.alloc 41 true (.tuple #[])) oA w7 fun (x10 : Addr) w11 =>
 wu prog (jS 41 x10 (.agg #[.string x9.1, jw x9.2.1, jw x9.2.2.1, jw x9.2.2.2.1, jw x9.2.2.2.2.1, jw x9.2.2.2.2.2.1])) w11 fun w12 =>
 drw w12 fun w13 =>
 rdp prog (Instr.indexAt 43 (.slice l_a l_n l_c) (ji s6.1)) oA fun (x14 : Addr) =>
 rd prog (jL 77 (Addr.add x14 1)) oS w13 fun (x15 : Hd3) =>
 rd prog (jL 37 (Addr.add x10 1)) oS w13 fun (x16 : Hd3) =>
 br (((x15.2.1 : Nat) : Int) != ((x16.2.1 : Nat) : Int)) (R (ji 9) w13)
 (z (IntKind.wrap .i64 (s6.1 + 1)) fun (z17 : Int) =>
 g5 (z17, ()) w13))
 (rd prog (jL 29 x1) (.agg [.slice]) w7 fun (x18 : Hd3 × Unit) =>
 call prog 62 [.agg #[jw x18.1], .slice l_a l_n l_c, (.func (.func 101) #[] #[])] (.one oI) w7 fun (x19 : Int) w20 =>
 R (ji x19) w20))
def H58 : Hints := ⟨[(2, 0, [(16, (.one (.int .i64)))])], [(6, 9)], [], []⟩
theorem S58_calls (s_0a : OA) (s_0n s_0c : Nat) (l_a : OA) (l_n l_c : Nat) (w0 : World) (R : KR) (h : S58 s_0a s_0n s_0c l_a l_n l_c w0 R) : Calls prog 58 #[.agg #[.slice s_0a s_0n s_0c], .slice l_a l_n l_c] w0 (ret R) :=
 vcFn_sound (H := H58) follows_ Tryz.func58 (Eq.mpr (by kernel_rfl) h)
def S101 (_p0 : Int) (p10 : ByteArray) (p11 : Int) (p12 : Bool) (rows_ c_0 : Int) (c_1a : OA) (c_1n c_1c : Nat) (c_2a : OA) (c_2n c_2c : Nat) (c_3a : OA) (c_3n c_3c : Nat) (c_4 : Int) (w0 : World) (R : KR) : Prop :=
 wr prog (Instr.box 62 (.agg #[.string p10, ji p11, .bool p12])) oA w0 fun (_x1 : Addr) w2 =>
 wr prog (Instr.box 82 (.agg #[ji c_0, .slice c_1a c_1n c_1c, .slice c_2a c_2n c_2c, .slice c_3a c_3n c_3c, ji c_4])) oA w2 fun (x3 : Addr) w4 =>
 rd prog (jL 56 (Addr.add x3 2)) oS w4 fun (x5 : Hd3) =>
 rd prog (jL 22 (Addr.add x3 3)) oS w4 fun (x6 : Hd3) =>
 br (((x5.2.1 : Nat) : Int) != ((x6.2.1 : Nat) : Int)) (R (ji 9) w4)
 (rd prog (jL 82 x3) (.agg [.int .i64, .slice, .slice, .slice, .int .i64]) w4 fun (x7 : Int × Hd3 × Hd3 × Hd3 × Int × Unit) =>
 call prog 103 [.agg #[ji x7.1, jw x7.2.1, jw x7.2.2.1, jw x7.2.2.2.1, ji x7.2.2.2.2.1]] (.one oS) w4 fun (x8 : Hd3) w9 =>
 call prog 102 [ji rows_, jw x8] (.one oB) w9 fun (x10 : Bool) w11 =>
 br (!x10) (R (ji 9) w11)
 (R (ji 0) w11))
def H101 : Hints := ⟨[], [], [], []⟩
theorem S101_calls (p0 : Int) (p10 : ByteArray) (p11 : Int) (p12 : Bool) (rows_ c_0 : Int) (c_1a : OA) (c_1n c_1c : Nat) (c_2a : OA) (c_2n c_2c : Nat) (c_3a : OA) (c_3n c_3c : Nat) (c_4 : Int) (w0 : World) (R : KR) (h : S101 p0 p10 p11 p12 rows_ c_0 c_1a c_1n c_1c c_2a c_2n c_2c c_3a c_3n c_3c c_4 w0 R) : Calls prog 101 #[ji p0, .agg #[.string p10, ji p11, .bool p12], ji rows_, .agg #[ji c_0, .slice c_1a c_1n c_1c, .slice c_2a c_2n c_2c, .slice c_3a c_3n c_3c, ji c_4]] w0 (ret R) :=
 vcFn_sound (H := H101) follows_ Tryz.func101 (Eq.mpr (by kernel_rfl) h)
def S28 (s_0a : OA) (s_0n s_0c : Nat) (l_a : OA) (l_n l_c : Nat) (w0 : World) (R : KR) : Prop :=
 wr prog (Instr.box 29 (.agg #[.slice s_0a s_0n s_0c])) oA w0 fun (x1 : Addr) w2 =>
 rd prog (jL 29 x1) (.agg [.slice]) w2 fun (x3 : Hd3 × Unit) =>
 call prog 44 [.agg #[jw x3.1]] (.one oB) w2 fun (x4 : Bool) w5 =>
 br (!x4) (R (ji 1) w5)
 (rd prog (jL 27 x1) oS w5 fun (x6 : Hd3) =>
 call prog 56 [jw x6, (.func (.func 57) #[] #[])] (.one oB) w5 fun (x7 : Bool) w8 =>
 br x7 (R (ji 10) w8)
 (rd prog (jL 29 x1) (.agg [.slice]) w8 fun (x9 : Hd3 × Unit) =>
 call prog 58 [.agg #[jw x9.1], .slice l_a l_n l_c] (.one oI) w8 fun (x10 : Int) w11 =>
 br (x10 != 0) (R (ji x10) w11)
 (call prog 59 [.slice l_a l_n l_c, (.func (.func 60) #[] #[])] (.one oB) w11 fun (x12 : Bool) w13 =>
 br x12 (R (ji 8) w13)
 (call prog 59 [.slice l_a l_n l_c, (.func (.func 61) #[] #[])] (.one oB) w13 fun (x14 : Bool) w15 =>
 br x14 (R (ji 4) w15)
 (rd prog (jL 29 x1) (.agg [.slice]) w15 fun (x16 : Hd3 × Unit) =>
 call prog 62 [.agg #[jw x16.1], .slice l_a l_n l_c, (.func (.func 63) #[] #[])] (.one oI) w15 fun (x17 : Int) w18 =>
 br (x17 != 0) (R (ji x17) w18)
 (rd prog (jL 27 x1) oS w18 fun (x19 : Hd3) =>
 loop (T := (Int × Unit)) (0, ()) w18 fun (g20 : Int × Unit → World → Prop) (s21 : Int × Unit) w22 => ∀ _ : NV,
 br (decide (s21.1 < ((x19.2.1 : Nat) : Int))) (rdp prog (jI 27 x19 s21.1) oA fun (x23 : Addr) =>
 rd prog (jL 41 x23) (.agg [.str, .slice, .slice, .slice, .slice, .slice]) w22 fun (x24 : ByteArray × Hd3 × Hd3 × TS) =>
 wr prog (Instr.alloc 41 true (.tuple #[])) oA w22 fun (x25 : Addr) w26 =>
 wu prog (jS 41 x25 (.agg #[.string x24.1, jw x24.2.1, jw x24.2.2.1, jw x24.2.2.2.1, jw x24.2.2.2.2.1, jw x24.2.2.2.2.2.1])) w26 fun w27 =>
 rd prog (jL 38 (Addr.add x25 4)) oS w27 fun (x28 : Hd3) =>
 loop (T := (Int × Unit)) (0, ()) w27 fun (g29 : Int × Unit → World → Prop) (s30 : Int × Unit) w31 => ∀ _ : NV,
 br (decide (s30.1 < ((x28.2.1 : Nat) : Int))) (join (T := Unit) (fun (_s33 : Unit) w34 => ∀ _ : NV,
 z (IntKind.wrap .i64 (s30.1 + 1)) fun (z35 : Int) =>
 g29 (z35, ()) w34)
  fun (K32 : Unit → World → Prop) =>
 rd prog (jL 29 x1) (.agg [.slice]) w31 fun (x36 : Hd3 × Unit) =>
 call prog 30 [.agg #[jw x36.1], ji s21.1, ji s30.1] (.many [oI, oB]) w31 fun (x37 : Int × Bool × Unit) w38 =>
 rdp prog (Instr.indexAt 43 (.slice l_a l_n l_c) (ji s21.1)) oA fun (x39 : Addr) =>
 rd prog (jL 3 x39) oI w38 fun (x40 : Int) =>
 br (decide (x40 > 0)) (rdp prog (Instr.indexAt 43 (.slice l_a l_n l_c) (ji x37.1)) oA fun (x41 : Addr) =>
 rd prog (jL 3 x41) oI w38 fun (x42 : Int) =>
 br (x42 == 0) (R (ji 6) w38)
 (K32 (()) w38))
 (K32 (()) w38))
 (z (IntKind.wrap .i64 (s21.1 + 1)) fun (z43 : Int) =>
 g20 (z43, ()) w31))
 (rd prog (jL 29 x1) (.agg [.slice]) w22 fun (x44 : Hd3 × Unit) =>
 call prog 62 [.agg #[jw x44.1], .slice l_a l_n l_c, (.func (.func 64) #[] #[])] (.one oI) w22 fun (x45 : Int) w46 =>
 R (ji x45) w46)))))))
def H28 : Hints := ⟨[(2, 0, [(37, (.one (.int .i64)))]), (2, 2, [(45, (.one (.int .i64)))]), (1, 3, [])], [], [], []⟩
theorem S28_calls (s_0a : OA) (s_0n s_0c : Nat) (l_a : OA) (l_n l_c : Nat) (w0 : World) (R : KR) (h : S28 s_0a s_0n s_0c l_a l_n l_c w0 R) : Calls prog 28 #[.agg #[.slice s_0a s_0n s_0c], .slice l_a l_n l_c] w0 (ret R) :=
 vcFn_sound (H := H28) follows_ Tryz.func28 (Eq.mpr (by kernel_rfl) h)
def S57 (t_0 : ByteArray) (t_1a : OA) (t_1n t_1c : Nat) (t_2a : OA) (t_2n t_2c : Nat) (t_3a : OA) (t_3n t_3c : Nat) (t_4a : OA) (t_4n t_4c : Nat) (t_5a : OA) (t_5n t_5c : Nat) (w0 : World) (R : KR) : Prop :=
 wr prog (Instr.box 41 (.agg #[.string t_0, .slice t_1a t_1n t_1c, .slice t_2a t_2n t_2c, .slice t_3a t_3n t_3c, .slice t_4a t_4n t_4c, .slice t_5a t_5n t_5c])) oA w0 fun (x1 : Addr) w2 =>
 rd prog (jL 39 (Addr.add x1 5)) oS w2 fun (x3 : Hd3) =>
 R (.bool (decide (((x3.2.1 : Nat) : Int) > 0))) w2
def H57 : Hints := ⟨[], [], [], []⟩
theorem S57_calls (t_0 : ByteArray) (t_1a : OA) (t_1n t_1c : Nat) (t_2a : OA) (t_2n t_2c : Nat) (t_3a : OA) (t_3n t_3c : Nat) (t_4a : OA) (t_4n t_4c : Nat) (t_5a : OA) (t_5n t_5c : Nat) (w0 : World) (R : KR) (h : S57 t_0 t_1a t_1n t_1c t_2a t_2n t_2c t_3a t_3n t_3c t_4a t_4n t_4c t_5a t_5n t_5c w0 R) : Calls prog 57 #[.agg #[.string t_0, .slice t_1a t_1n t_1c, .slice t_2a t_2n t_2c, .slice t_3a t_3n t_3c, .slice t_4a t_4n t_4c, .slice t_5a t_5n t_5c]] w0 (ret R) :=
 vcFn_sound (H := H57) follows_ Tryz.func57 (Eq.mpr (by kernel_rfl) h)
def S60 (x_0 : Int) (x_1a : OA) (x_1n x_1c : Nat) (w0 : World) (R : KR) : Prop :=
 wr prog (Instr.box 79 (.agg #[ji x_0, .slice x_1a x_1n x_1c])) oA w0 fun (x1 : Addr) w2 =>
 rd prog (jL 3 x1) oI w2 fun (x3 : Int) =>
 R (.bool (decide (x3 > 200))) w2
def H60 : Hints := ⟨[], [], [], []⟩
theorem S60_calls (x_0 : Int) (x_1a : OA) (x_1n x_1c : Nat) (w0 : World) (R : KR) (h : S60 x_0 x_1a x_1n x_1c w0 R) : Calls prog 60 #[.agg #[ji x_0, .slice x_1a x_1n x_1c]] w0 (ret R) :=
 vcFn_sound (H := H60) follows_ Tryz.func60 (Eq.mpr (by kernel_rfl) h)
def S61 (x_0 : Int) (x_1a : OA) (x_1n x_1c : Nat) (w0 : World) (R : KR) : Prop :=
 wr prog (Instr.box 79 (.agg #[ji x_0, .slice x_1a x_1n x_1c])) oA w0 fun (x1 : Addr) w2 =>
 rd prog (jL 3 x1) oI w2 fun (x3 : Int) =>
 R (.bool (decide (x3 < 0))) w2
def H61 : Hints := ⟨[], [], [], []⟩
theorem S61_calls (x_0 : Int) (x_1a : OA) (x_1n x_1c : Nat) (w0 : World) (R : KR) (h : S61 x_0 x_1a x_1n x_1c w0 R) : Calls prog 61 #[.agg #[ji x_0, .slice x_1a x_1n x_1c]] w0 (ret R) :=
 vcFn_sound (H := H61) follows_ Tryz.func61 (Eq.mpr (by kernel_rfl) h)
def S64 (_p0 : Int) (t_0 : ByteArray) (t_1 : Int) (t_2 : Bool) (_p2 c_0 : Int) (c_1a : OA) (c_1n c_1c : Nat) (c_2a : OA) (c_2n c_2c : Nat) (c_3a : OA) (c_3n c_3c : Nat) (c_4 : Int) (w0 : World) (R : KR) : Prop :=
 wr prog (Instr.box 62 (.agg #[.string t_0, ji t_1, .bool t_2])) oA w0 fun (x1 : Addr) w2 =>
 wr prog (Instr.box 82 (.agg #[ji c_0, .slice c_1a c_1n c_1c, .slice c_2a c_2n c_2c, .slice c_3a c_3n c_3c, ji c_4])) oA w2 fun (x3 : Addr) w4 =>
 rd prog (jL 3 (Addr.add x3 4)) oI w4 fun (x5 : Int) =>
 br (decide (x5 > 0)) (rd prog (jL 4 (Addr.add x1 2)) oB w4 fun (x6 : Bool) =>
 br (!x6) (rd prog (jL 82 x3) (.agg [.int .i64, .slice, .slice, .slice, .int .i64]) w4 fun (x7 : Int × Hd3 × Hd3 × Hd3 × Int × Unit) =>
 call prog 65 [.agg #[ji x7.1, jw x7.2.1, jw x7.2.2.1, jw x7.2.2.2.1, ji x7.2.2.2.2.1]] (.one oS) w4 fun (x8 : Hd3) w9 =>
 br (((x8.2.1 : Nat) : Int) == 0) (R (ji 12) w9)
 (R (ji 0) w9))
 (R (ji 0) w4))
 (R (ji 0) w4)
def H64 : Hints := ⟨[], [], [], []⟩
theorem S64_calls (p0 : Int) (t_0 : ByteArray) (t_1 : Int) (t_2 : Bool) (p2 c_0 : Int) (c_1a : OA) (c_1n c_1c : Nat) (c_2a : OA) (c_2n c_2c : Nat) (c_3a : OA) (c_3n c_3c : Nat) (c_4 : Int) (w0 : World) (R : KR) (h : S64 p0 t_0 t_1 t_2 p2 c_0 c_1a c_1n c_1c c_2a c_2n c_2c c_3a c_3n c_3c c_4 w0 R) : Calls prog 64 #[ji p0, .agg #[.string t_0, ji t_1, .bool t_2], ji p2, .agg #[ji c_0, .slice c_1a c_1n c_1c, .slice c_2a c_2n c_2c, .slice c_3a c_3n c_3c, ji c_4]] w0 (ret R) :=
 vcFn_sound (H := H64) follows_ Tryz.func64 (Eq.mpr (by kernel_rfl) h)
def S65 (c_0 : Int) (c_1a : OA) (c_1n c_1c : Nat) (c_2a : OA) (c_2n c_2c : Nat) (c_3a : OA) (c_3n c_3c : Nat) (c_4 : Int) (w0 : World) (R : KR) : Prop :=
 wr prog (Instr.box 82 (.agg #[ji c_0, .slice c_1a c_1n c_1c, .slice c_2a c_2n c_2c, .slice c_3a c_3n c_3c, ji c_4])) oA w0 fun (x1 : Addr) w2 =>
 rd prog (jL 80 (Addr.add x1 1)) oS w2 fun (x3 : Hd3) =>
 loop (T := (Hd3 × Int × Unit)) ((none, 0, 0), 0, ()) w2 fun (g4 : Hd3 × Int × Unit → World → Prop) (s5 : Hd3 × Int × Unit) w6 => ∀ _ : NV,
 br (decide (s5.2.1 < ((x3.2.1 : Nat) : Int))) (rdp prog (jI 80 x3 s5.2.1) oA fun (x7 : Addr) =>
 rd prog (jL 159 x7) (.agg [.int .i64, .int .i64, .int .i64]) w6 fun (x8 : Int × Int × Int × Unit) =>
 wr prog (Instr.alloc 159 true (.tuple #[])) oA w6 fun (x9 : Addr) w10 =>
 wu prog (jS 159 x9 (.agg #[ji x8.1, ji x8.2.1, ji x8.2.2.1])) w10 fun w11 =>
 rd prog (jL 2 x9) oI w11 fun (x12 : Int) =>
 rd prog (jL 2 (Addr.add x9 1)) oI w11 fun (x13 : Int) =>
 rd prog (jL 3 (Addr.add x9 2)) oI w11 fun (x14 : Int) =>
 call prog 111 [ji x12, ji x13, ji x14] (.many [oS, oI]) w11 fun (x15 : Hd3 × Int × Unit) w16 =>
 loop (T := (Hd3 × Int × Unit)) ((s5.1.1, s5.1.2.1, s5.1.2.2), 0, ()) w16 fun (g17 : Hd3 × Int × Unit → World → Prop) (s18 : Hd3 × Int × Unit) w19 => ∀ _ : NV,
 br (decide (s18.2.1 < ((x15.1.2.1 : Nat) : Int))) (rdp prog (jI 117 x15.1 s18.2.1) oA fun (x20 : Addr) =>
 rd prog (jL 2 x20) oI w19 fun (x21 : Int) =>
 wr prog (Instr.buildSlice 56 1 #[(0, (.agg #[ji 1, ji x21, .string ByteArray.empty]))]) oS w19 fun (x22 : Hd3) w23 =>
 wr prog (Builtin.append_ #[56, 56] 56 #[.slice s18.1.1 s18.1.2.1 s18.1.2.2, .slice x22.1 x22.2.1 x22.2.2]) oS w23 fun (x24 : Hd3) w25 =>
 z (IntKind.wrap .i64 (s18.2.1 + 1)) fun (z26 : Int) =>
 g17 ((x24.1, x24.2.1, x24.2.2), z26, ()) w25)
 (z (IntKind.wrap .i64 (s5.2.1 + 1)) fun (z27 : Int) =>
 g4 ((s18.1.1, s18.1.2.1, s18.1.2.2), z27, ()) w19))
 (rd prog (jL 56 (Addr.add x1 2)) oS w6 fun (x28 : Hd3) =>
 loop (T := (Hd3 × Int × Unit)) ((s5.1.1, s5.1.2.1, s5.1.2.2), 0, ()) w6 fun (g29 : Hd3 × Int × Unit → World → Prop) (s30 : Hd3 × Int × Unit) w31 => ∀ _ : NV,
 br (decide (s30.2.1 < ((x28.2.1 : Nat) : Int))) (rdp prog (jI 56 x28 s30.2.1) oA fun (x32 : Addr) =>
 rd prog (jL 55 x32) (.agg [.int .i64, .int .i64, .str]) w31 fun (x33 : Int × Int × ByteArray × Unit) =>
 wr prog (Instr.alloc 55 true (.tuple #[])) oA w31 fun (x34 : Addr) w35 =>
 wu prog (jS 55 x34 (.agg #[ji x33.1, ji x33.2.1, .string x33.2.2.1])) w35 fun w36 =>
 drw w36 fun w37 => flEx fun F38 =>
 rd prog (jL 55 x34) (.agg [.int .i64, .int .i64, .str]) w37 fun (x39 : Int × Int × ByteArray × Unit) =>
 flc bel w37 (fun _w41 => True) (fun w40 =>
   wr prog (Instr.buildSlice 56 1 #[(0, (.agg #[ji x39.1, ji x39.2.1, .string x39.2.2.1]))]) oS w40 fun (x42 : Hd3) w43 =>
 (bel w40 w43 ∧ F38 2 [.agg #[ji x39.1, ji x39.2.1, .string x39.2.2.1]] (jw x42) w43))
  fun (x44 : Hd3) =>
 rd prog (jL 22 (Addr.add x1 3)) oS w37 fun (x45 : Hd3) =>
 rdp prog (jI 22 x45 s30.2.1) oA fun (x46 : Addr) =>
 rd prog (jL 3 x46) oI w37 fun (x47 : Int) =>
 flend bel w37 (fun w49 => F38 2 [.agg #[ji x39.1, ji x39.2.1, .string x39.2.2.1]] (jw x44) w49 ∧ True) fun w48 =>
 call prog 112 [jw x44, ji x47] (.one oS) w48 fun (x50 : Hd3) w51 =>
 wr prog (Builtin.append_ #[56, 56] 56 #[.slice s30.1.1 s30.1.2.1 s30.1.2.2, .slice x50.1 x50.2.1 x50.2.2]) oS w51 fun (x52 : Hd3) w53 =>
 z (IntKind.wrap .i64 (s30.2.1 + 1)) fun (z54 : Int) =>
 g29 ((x52.1, x52.2.1, x52.2.2), z54, ()) w53)
 (R (jw s30.1) w31))
def H65 : Hints := ⟨[(2, 0, [(3, (.one .slice)), (15, (.one (.int .i64)))]), (2, 2, [(3, (.one .slice)), (31, (.one (.int .i64)))]), (2, 4, [(3, (.one .slice)), (45, (.one (.int .i64)))])], [(15, 8)], [], []⟩
theorem S65_calls (c_0 : Int) (c_1a : OA) (c_1n c_1c : Nat) (c_2a : OA) (c_2n c_2c : Nat) (c_3a : OA) (c_3n c_3c : Nat) (c_4 : Int) (w0 : World) (R : KR) (h : S65 c_0 c_1a c_1n c_1c c_2a c_2n c_2c c_3a c_3n c_3c c_4 w0 R) : Calls prog 65 #[.agg #[ji c_0, .slice c_1a c_1n c_1c, .slice c_2a c_2n c_2c, .slice c_3a c_3n c_3c, ji c_4]] w0 (ret R) :=
 vcFn_sound (H := H65) follows_ Tryz.func65 (Eq.mpr (by kernel_rfl) h)
def S31 (c_0 : Int) (c_1a : OA) (c_1n c_1c : Nat) (c_2a : OA) (c_2n c_2c : Nat) (c_3a : OA) (c_3n c_3c : Nat) (c_4 : Int) (w0 : World) (R : KR) : Prop :=
 wr prog (Instr.box 82 (.agg #[ji c_0, .slice c_1a c_1n c_1c, .slice c_2a c_2n c_2c, .slice c_3a c_3n c_3c, ji c_4])) oA w0 fun (x1 : Addr) w2 =>
 rd prog (jL 3 x1) oI w2 fun (x3 : Int) =>
 wr prog (Instr.makeSlice 56 (ji x3) (ji x3)) oS w2 fun (x4 : Hd3) w5 =>
 rd prog (jL 82 x1) (.agg [.int .i64, .slice, .slice, .slice, .int .i64]) w5 fun (x6 : Int × Hd3 × Hd3 × Hd3 × Int × Unit) =>
 call prog 65 [.agg #[ji x6.1, jw x6.2.1, jw x6.2.2.1, jw x6.2.2.2.1, ji x6.2.2.2.2.1]] (.one oS) w5 fun (x7 : Hd3) w8 =>
 wr prog (Builtin.append_ #[56, 56] 56 #[.slice x4.1 x4.2.1 x4.2.2, .slice x7.1 x7.2.1 x7.2.2]) oS w8 fun (x9 : Hd3) w10 =>
 rd prog (jL 3 (Addr.add x1 4)) oI w10 fun (x11 : Int) =>
 loop (T := (Hd3 × Int × Unit)) ((x9.1, x9.2.1, x9.2.2), 0, ()) w10 fun (g12 : Hd3 × Int × Unit → World → Prop) (s13 : Hd3 × Int × Unit) w14 => ∀ _ : NV,
 br (decide (s13.2.1 < x11)) (join (T := (Hd3 × Unit)) (fun (s16 : Hd3 × Unit) w17 => ∀ _ : NV,
 z (IntKind.wrap .i64 (s13.2.1 + 1)) fun (z18 : Int) =>
 g12 ((s16.1.1, s16.1.2.1, s16.1.2.2), z18, ()) w17)
  fun (K15 : Hd3 × Unit → World → Prop) =>
 br (((x7.2.1 : Nat) : Int) == 0) (wr prog (Instr.buildSlice 56 1 #[(0, (.agg #[ji 0, ji 0, .string ByteArray.empty]))]) oS w14 fun (x19 : Hd3) w20 =>
 wr prog (Builtin.append_ #[56, 56] 56 #[.slice s13.1.1 s13.1.2.1 s13.1.2.2, .slice x19.1 x19.2.1 x19.2.2]) oS w20 fun (x21 : Hd3) w22 =>
 K15 ((x21.1, x21.2.1, x21.2.2), ()) w22)
 (rdp prog (cmpS .rem 3 (.tmp 28) (.tmp 30) (ji s13.2.1) (ji ((x7.2.1 : Nat) : Int))) oI fun (x23 : Int) =>
 rdp prog (jI 56 x7 x23) oA fun (x24 : Addr) =>
 rd prog (jL 55 x24) (.agg [.int .i64, .int .i64, .str]) w14 fun (x25 : Int × Int × ByteArray × Unit) =>
 wr prog (Instr.buildSlice 56 1 #[(0, (.agg #[ji x25.1, ji x25.2.1, .string x25.2.2.1]))]) oS w14 fun (x26 : Hd3) w27 =>
 wr prog (Builtin.append_ #[56, 56] 56 #[.slice s13.1.1 s13.1.2.1 s13.1.2.2, .slice x26.1 x26.2.1 x26.2.2]) oS w27 fun (x28 : Hd3) w29 =>
 K15 ((x28.1, x28.2.1, x28.2.2), ()) w29))
 (R (jw s13.1) w14)
def H31 : Hints := ⟨[(2, 0, [(3, (.one .slice)), (16, (.one (.int .i64)))]), (1, 1, [(3, (.one .slice))])], [], [], []⟩
theorem S31_calls (c_0 : Int) (c_1a : OA) (c_1n c_1c : Nat) (c_2a : OA) (c_2n c_2c : Nat) (c_3a : OA) (c_3n c_3c : Nat) (c_4 : Int) (w0 : World) (R : KR) (h : S31 c_0 c_1a c_1n c_1c c_2a c_2n c_2c c_3a c_3n c_3c c_4 w0 R) : Calls prog 31 #[.agg #[ji c_0, .slice c_1a c_1n c_1c, .slice c_2a c_2n c_2c, .slice c_3a c_3n c_3c, ji c_4]] w0 (ret R) :=
 vcFn_sound (H := H31) follows_ Tryz.func31 (Eq.mpr (by kernel_rfl) h)
def S9 (s_0a : OA) (s_0n s_0c : Nat) (l_a : OA) (l_n l_c : Nat) (seed_ : Int) (w0 : World) (R : KR) : Prop :=
 wr prog (Instr.box 29 (.agg #[.slice s_0a s_0n s_0c])) oA w0 fun (x1 : Addr) w2 =>
 wr prog (Instr.alloc 34 true (.tuple #[])) oA w2 fun (x3 : Addr) w4 =>
 rd prog (jL 29 x1) (.agg [.slice]) w4 fun (x5 : Hd3 × Unit) =>
 call prog 28 [.agg #[jw x5.1], .slice l_a l_n l_c] (.one oI) w4 fun (x6 : Int) w7 =>
 br (x6 != 0) (wu prog (jS 34 x3 (.agg #[.slice none 0 0])) w7 fun w8 =>
 rd prog (loadVar 34 x3) (.agg [.slice]) w8 fun (x9 : Hd3 × Unit) =>
 R (.tuple #[.agg #[jw x9.1], ji x6]) w8)
 (wr prog (Instr.alloc 34 true (.tuple #[])) oA w7 fun (x10 : Addr) w11 =>
 rd prog (jL 27 x1) oS w11 fun (x12 : Hd3) =>
 loop (T := (Int × Unit)) (0, ()) w11 fun (g13 : Int × Unit → World → Prop) (s14 : Int × Unit) w15 => ∀ _ : NV,
 br (decide (s14.1 < ((x12.2.1 : Nat) : Int))) (rdp prog (jI 27 x12 s14.1) oA fun (x16 : Addr) =>
 rd prog (jL 41 x16) (.agg [.str, .slice, .slice, .slice, .slice, .slice]) w15 fun (x17 : ByteArray × Hd3 × Hd3 × TS) =>
 wr prog (Instr.alloc 41 true (.tuple #[])) oA w15 fun (x18 : Addr) w19 =>
 wu prog (jS 41 x18 (.agg #[.string x17.1, jw x17.2.1, jw x17.2.2.1, jw x17.2.2.2.1, jw x17.2.2.2.2.1, jw x17.2.2.2.2.2.1])) w19 fun w20 =>
 rdp prog (Instr.indexAt 43 (.slice l_a l_n l_c) (ji s14.1)) oA fun (x21 : Addr) =>
 rd prog (jL 3 x21) oI w20 fun (x22 : Int) =>
 wr prog (Instr.makeSlice 53 (ji x22) (ji x22)) oS w20 fun (x23 : Hd3) w24 =>
 loop (T := (Int × Unit)) (0, ()) w24 fun (g25 : Int × Unit → World → Prop) (s26 : Int × Unit) w27 => ∀ _ : NV,
 br (decide (s26.1 < ((x23.2.1 : Nat) : Int))) (rd prog (jL 37 (Addr.add x18 1)) oS w27 fun (x28 : Hd3) =>
 wr prog (Instr.makeSlice 56 (ji ((x28.2.1 : Nat) : Int)) (ji ((x28.2.1 : Nat) : Int))) oS w27 fun (x29 : Hd3) w30 =>
 rdp prog (jI 53 x23 s26.1) oA fun (x31 : Addr) =>
 wu prog (jS 56 x31 (jw x29)) w30 fun w32 =>
 drw w32 fun w33 => flEx fun F34 =>
 rdp prog (jI 53 x23 s26.1) oA fun (x35 : Addr) =>
 rd prog (jL 56 x35) oS w33 fun (x36 : Hd3) =>
 rd prog (jL 22 (Addr.add x18 2)) oS w33 fun (x37 : Hd3) =>
 rdp prog (jI 22 x37 0) oA fun (x38 : Addr) =>
 rd prog (jL 3 x38) oI w33 fun (x39 : Int) =>
 z (IntKind.wrap .i64 (s26.1 + 1)) fun (z40 : Int) =>
 flc bel w33 (fun _w42 => True) (fun w41 =>
   call prog 29 [ji z40] (.one (.agg [.int .i64, .int .i64, .str])) w41 fun (x43 : Int × Int × ByteArray × Unit) w44 =>
 (bel w41 w44 ∧ F34 11 [ji z40] (.agg #[ji x43.1, ji x43.2.1, .string x43.2.2.1]) w44))
  fun (x45 : Int × Int × ByteArray × Unit) =>
 flend bel w33 (fun w47 => F34 11 [ji z40] (.agg #[ji x45.1, ji x45.2.1, .string x45.2.2.1]) w47 ∧ True) fun w46 =>
 rdp prog (jI 56 x36 x39) oA fun (x48 : Addr) =>
 wu prog (jS 55 x48 (.agg #[ji x45.1, ji x45.2.1, .string x45.2.2.1])) w46 fun w49 =>
 rd prog (jL 38 (Addr.add x18 4)) oS w49 fun (x50 : Hd3) =>
 loop (T := (Int × Unit)) (0, ()) w49 fun (g51 : Int × Unit → World → Prop) (s52 : Int × Unit) w53 => ∀ _ : NV,
 br (decide (s52.1 < ((x50.2.1 : Nat) : Int))) (rdp prog (jI 38 x50 s52.1) oA fun (x54 : Addr) =>
 rd prog (jL 64 x54) (.agg [.slice, .str]) w53 fun (x55 : Hd3 × ByteArray × Unit) =>
 wr prog (Instr.alloc 64 true (.tuple #[])) oA w53 fun (x56 : Addr) w57 =>
 wu prog (jS 64 x56 (.agg #[jw x55.1, .string x55.2.1])) w57 fun w58 =>
 rd prog (jL 29 x1) (.agg [.slice]) w58 fun (x59 : Hd3 × Unit) =>
 call prog 30 [.agg #[jw x59.1], ji s14.1, ji s52.1] (.many [oI, oB]) w58 fun (x60 : Int × Bool × Unit) w61 =>
 drw w61 fun w62 => flEx fun F63 =>
 rdp prog (jI 53 x23 s26.1) oA fun (x64 : Addr) =>
 rd prog (jL 56 x64) oS w62 fun (x65 : Hd3) =>
 rd prog (jL 22 x56) oS w62 fun (x66 : Hd3) =>
 rdp prog (jI 22 x66 0) oA fun (x67 : Addr) =>
 rd prog (jL 3 x67) oI w62 fun (x68 : Int) =>
 rdp prog (Instr.indexAt 43 (.slice l_a l_n l_c) (ji x60.1)) oA fun (x69 : Addr) =>
 rd prog (jL 3 x69) oI w62 fun (x70 : Int) =>
 rdp prog (cmpS .rem 3 (.tmp 94) (.tmp 99) (ji s26.1) (ji x70)) oI fun (x71 : Int) =>
 z (IntKind.wrap .i64 (1 + x71)) fun (z72 : Int) =>
 flc bel w62 (fun _w74 => True) (fun w73 =>
   call prog 29 [ji z72] (.one (.agg [.int .i64, .int .i64, .str])) w73 fun (x75 : Int × Int × ByteArray × Unit) w76 =>
 (bel w73 w76 ∧ F63 17 [ji z72] (.agg #[ji x75.1, ji x75.2.1, .string x75.2.2.1]) w76))
  fun (x77 : Int × Int × ByteArray × Unit) =>
 flend bel w62 (fun w79 => F63 17 [ji z72] (.agg #[ji x77.1, ji x77.2.1, .string x77.2.2.1]) w79 ∧ True) fun w78 =>
 rdp prog (jI 56 x65 x68) oA fun (x80 : Addr) =>
 wu prog (jS 55 x80 (.agg #[ji x77.1, ji x77.2.1, .string x77.2.2.1])) w78 fun w81 =>
 z (IntKind.wrap .i64 (s52.1 + 1)) fun (z82 : Int) =>
 g51 (z82, ()) w81)
 (z (IntKind.wrap .i64 (s26.1 + 1)) fun (z83 : Int) =>
 g25 (z83, ()) w53))
 (rd prog (jL 37 (Addr.add x18 1)) oS w27 fun (x84 : Hd3) =>
 loop (T := (Int × Unit)) (0, ()) w27 fun (g85 : Int × Unit → World → Prop) (s86 : Int × Unit) w87 => ∀ _ : NV,
 br (decide (s86.1 < ((x84.2.1 : Nat) : Int))) (join (T := Unit) (fun (_s89 : Unit) w90 => ∀ _ : NV,
 z (IntKind.wrap .i64 (s86.1 + 1)) fun (z91 : Int) =>
 g85 (z91, ()) w90)
  fun (K88 : Unit → World → Prop) =>
 rd prog (jL 41 x18) (.agg [.str, .slice, .slice, .slice, .slice, .slice]) w87 fun (x92 : ByteArray × Hd3 × Hd3 × TS) =>
 call prog 23 [.agg #[.string x92.1, jw x92.2.1, jw x92.2.2.1, jw x92.2.2.2.1, jw x92.2.2.2.2.1, jw x92.2.2.2.2.2.1], ji s86.1] (.one oB) w87 fun (x93 : Bool) w94 =>
 br (!x93) (K88 (()) w94)
 (rdp prog (Instr.indexAt 43 (.slice l_a l_n l_c) (ji s14.1)) oA fun (x95 : Addr) =>
 rd prog (jL 77 (Addr.add x95 1)) oS w94 fun (x96 : Hd3) =>
 rdp prog (jI 77 x96 s86.1) oA fun (x97 : Addr) =>
 rd prog (jL 82 x97) (.agg [.int .i64, .slice, .slice, .slice, .int .i64]) w94 fun (x98 : Int × Hd3 × Hd3 × Hd3 × Int × Unit) =>
 call prog 31 [.agg #[ji x98.1, jw x98.2.1, jw x98.2.2.1, jw x98.2.2.2.1, ji x98.2.2.2.2.1]] (.one oS) w94 fun (x99 : Hd3) w100 =>
 z (IntKind.wrap .u64 s14.1) fun (z101 : Int) =>
 z (IntKind.wrap .u64 (1000 * z101)) fun (z102 : Int) =>
 z (IntKind.wrap .u64 (seed_ + z102)) fun (z103 : Int) =>
 z (IntKind.wrap .u64 s86.1) fun (z104 : Int) =>
 z (IntKind.wrap .u64 (z103 + z104)) fun (z105 : Int) =>
 call prog 32 [.int .u64 z105, (ji ((x99.2.1 : Nat) : Int))] (.many [oS, oI]) w100 fun (x106 : Hd3 × Int × Unit) w107 =>
 loop (T := (Int × Unit)) (0, ()) w107 fun (g108 : Int × Unit → World → Prop) (s109 : Int × Unit) w110 => ∀ _ : NV,
 br (decide (s109.1 < ((x23.2.1 : Nat) : Int))) (drw w110 fun w111 =>
 rdp prog (jI 53 x23 s109.1) oA fun (x112 : Addr) =>
 rd prog (jL 56 x112) oS w111 fun (x113 : Hd3) =>
 rdp prog (jI 22 x106.1 s109.1) oA fun (x114 : Addr) =>
 rd prog (jL 3 x114) oI w111 fun (x115 : Int) =>
 rdp prog (jI 56 x99 x115) oA fun (x116 : Addr) =>
 rd prog (jL 55 x116) (.agg [.int .i64, .int .i64, .str]) w111 fun (x117 : Int × Int × ByteArray × Unit) =>
 rdp prog (jI 56 x113 s86.1) oA fun (x118 : Addr) =>
 wu prog (jS 55 x118 (.agg #[ji x117.1, ji x117.2.1, .string x117.2.2.1])) w111 fun w119 =>
 z (IntKind.wrap .i64 (s109.1 + 1)) fun (z120 : Int) =>
 g108 (z120, ()) w119)
 (K88 (()) w110)))
 (rd prog (jL 32 x10) oS w87 fun (x121 : Hd3) =>
 wr prog (Instr.buildSlice 32 1 #[(0, (jw x23))]) oS w87 fun (x122 : Hd3) w123 =>
 wr prog (Builtin.append_ #[32, 32] 32 #[.slice x121.1 x121.2.1 x121.2.2, .slice x122.1 x122.2.1 x122.2.2]) oS w123 fun (x124 : Hd3) w125 =>
 wu prog (jS 32 x10 (jw x124)) w125 fun w126 =>
 z (IntKind.wrap .i64 (s14.1 + 1)) fun (z127 : Int) =>
 g13 (z127, ()) w126)))
 (rd prog (jL 34 x10) (.agg [.slice]) w15 fun (x128 : Hd3 × Unit) =>
 wu prog (jS 34 x3 (.agg #[jw x128.1])) w15 fun w129 =>
 rd prog (loadVar 34 x3) (.agg [.slice]) w129 fun (x130 : Hd3 × Unit) =>
 R (.tuple #[.agg #[jw x130.1], ji 0]) w129))
def H9 : Hints := ⟨[(2, 0, [(34, (.one (.int .i64)))]), (2, 2, [(47, (.one (.int .i64)))]), (2, 4, [(73, (.one (.int .i64)))]), (2, 6, [(109, (.one (.int .i64)))]), (2, 8, [(141, (.one (.int .i64)))]), (1, 7, [])], [(14, 12), (19, 18), (31, 12)], [], []⟩
theorem S9_calls (s_0a : OA) (s_0n s_0c : Nat) (l_a : OA) (l_n l_c : Nat) (seed_ : Int) (w0 : World) (R : KR) (h : S9 s_0a s_0n s_0c l_a l_n l_c seed_ w0 R) : Calls prog 9 #[.agg #[.slice s_0a s_0n s_0c], .slice l_a l_n l_c, .int .u64 seed_] w0 (ret R) :=
 vcFn_sound (H := H9) follows_ Tryz.func9 (Eq.mpr (by kernel_rfl) h)
def S29 (n_ : Int) (w0 : World) (R : KR) : Prop :=
 wr prog (Instr.alloc 55 true (.tuple #[])) oA w0 fun (x1 : Addr) w2 =>
 wu prog (jS 55 x1 (.agg #[ji 1, ji n_, .string ByteArray.empty])) w2 fun w3 =>
 rd prog (loadVar 55 x1) (.agg [.int .i64, .int .i64, .str]) w3 fun (x4 : Int × Int × ByteArray × Unit) =>
 R (.agg #[ji x4.1, ji x4.2.1, .string x4.2.2.1]) w3
def H29 : Hints := ⟨[], [], [], []⟩
theorem S29_calls (n_ : Int) (w0 : World) (R : KR) (h : S29 n_ w0 R) : Calls prog 29 #[ji n_] w0 (ret R) :=
 vcFn_sound (H := H29) follows_ Tryz.func29 (Eq.mpr (by kernel_rfl) h)
def S76 (s_0a : OA) (s_0n s_0c : Nat) (v_0 : ByteArray) (v_1a : OA) (v_1n v_1c : Nat) (v_2a : OA) (v_2n v_2c : Nat) (w0 : World) (R : KR) : Prop :=
 wr prog (Instr.box 29 (.agg #[.slice s_0a s_0n s_0c])) oA w0 fun (x1 : Addr) w2 =>
 wr prog (Instr.box 96 (.agg #[.string v_0, .slice v_1a v_1n v_1c, .slice v_2a v_2n v_2c])) oA w2 fun (x3 : Addr) w4 =>
 rd prog (jL 29 x1) (.agg [.slice]) w4 fun (x5 : Hd3 × Unit) =>
 rd prog (jL 9 x3) (.one .str) w4 fun (x6 : ByteArray) =>
 call prog 66 [.agg #[jw x5.1], .string x6] (.many [oI, oB]) w4 fun (x7 : Int × Bool × Unit) w8 =>
 br (!x7.2.1) (R (.tuple #[.slice none 0 0, .bool false]) w8)
 (wr prog (Instr.buildSlice 22 1 #[(0, (ji x7.1))]) oS w8 fun (x9 : Hd3) w10 =>
 rd prog (jL 22 (Addr.add x3 1)) oS w10 fun (x11 : Hd3) =>
 loop (T := (Int × Hd3 × Int × Unit)) (x7.1, (x9.1, x9.2.1, x9.2.2), 0, ()) w10 fun (g12 : Int × Hd3 × Int × Unit → World → Prop) (s13 : Int × Hd3 × Int × Unit) w14 => ∀ _ : NV,
 br (decide (s13.2.2.1 < ((x11.2.1 : Nat) : Int))) (rdp prog (jI 22 x11 s13.2.2.1) oA fun (x15 : Addr) =>
 rd prog (jL 3 x15) oI w14 fun (x16 : Int) =>
 rd prog (jL 29 x1) (.agg [.slice]) w14 fun (x17 : Hd3 × Unit) =>
 call prog 30 [.agg #[jw x17.1], ji s13.1, ji x16] (.many [oI, oB]) w14 fun (x18 : Int × Bool × Unit) w19 =>
 br (!x18.2.1) (R (.tuple #[.slice none 0 0, .bool false]) w19)
 (wr prog (Instr.buildSlice 22 1 #[(0, (ji x18.1))]) oS w19 fun (x20 : Hd3) w21 =>
 wr prog (Builtin.append_ #[22, 22] 22 #[.slice s13.2.1.1 s13.2.1.2.1 s13.2.1.2.2, .slice x20.1 x20.2.1 x20.2.2]) oS w21 fun (x22 : Hd3) w23 =>
 z (IntKind.wrap .i64 (s13.2.2.1 + 1)) fun (z24 : Int) =>
 g12 (x18.1, (x22.1, x22.2.1, x22.2.2), z24, ()) w23))
 (R (.tuple #[jw s13.2.1, .bool true]) w14))
def H76 : Hints := ⟨[(2, 0, [(6, (.one (.int .i64))), (8, (.one .slice)), (25, (.one (.int .i64)))])], [], [], []⟩
theorem S76_calls (s_0a : OA) (s_0n s_0c : Nat) (v_0 : ByteArray) (v_1a : OA) (v_1n v_1c : Nat) (v_2a : OA) (v_2n v_2c : Nat) (w0 : World) (R : KR) (h : S76 s_0a s_0n s_0c v_0 v_1a v_1n v_1c v_2a v_2n v_2c w0 R) : Calls prog 76 #[.agg #[.slice s_0a s_0n s_0c], .agg #[.string v_0, .slice v_1a v_1n v_1c, .slice v_2a v_2n v_2c]] w0 (ret R) :=
 vcFn_sound (H := H76) follows_ Tryz.func76 (Eq.mpr (by kernel_rfl) h)
def S75 (s_0a : OA) (s_0n s_0c : Nat) (v_0 : ByteArray) (v_1a : OA) (v_1n v_1c : Nat) (v_2a : OA) (v_2n v_2c : Nat) (w0 : World) (R : KR) : Prop :=
 wr prog (Instr.box 29 (.agg #[.slice s_0a s_0n s_0c])) oA w0 fun (x1 : Addr) w2 =>
 wr prog (Instr.box 96 (.agg #[.string v_0, .slice v_1a v_1n v_1c, .slice v_2a v_2n v_2c])) oA w2 fun (x3 : Addr) w4 =>
 rd prog (jL 29 x1) (.agg [.slice]) w4 fun (x5 : Hd3 × Unit) =>
 call prog 44 [.agg #[jw x5.1]] (.one oB) w4 fun (x6 : Bool) w7 =>
 br (!x6) (R (ji 1) w7)
 (rd prog (jL 29 x1) (.agg [.slice]) w7 fun (x8 : Hd3 × Unit) =>
 rd prog (jL 9 x3) (.one .str) w7 fun (x9 : ByteArray) =>
 call prog 66 [.agg #[jw x8.1], .string x9] (.many [oI, oB]) w7 fun (x10 : Int × Bool × Unit) w11 =>
 br (!x10.2.1) (R (ji 11) w11)
 (rd prog (jL 29 x1) (.agg [.slice]) w11 fun (x12 : Hd3 × Unit) =>
 rd prog (jL 96 x3) (.agg [.str, .slice, .slice]) w11 fun (x13 : ByteArray × Hd3 × Hd3 × Unit) =>
 call prog 76 [.agg #[jw x12.1], .agg #[.string x13.1, jw x13.2.1, jw x13.2.2.1]] (.many [oS, oB]) w11 fun (x14 : Hd3 × Bool × Unit) w15 =>
 br (!x14.2.1) (R (ji 6) w15)
 (rd prog (jL 22 (Addr.add x3 1)) oS w15 fun (x16 : Hd3) =>
 br (decide (((x16.2.1 : Nat) : Int) ≥ 6)) (R (ji 8) w15)
 (rd prog (jL 39 (Addr.add x3 2)) oS w15 fun (x17 : Hd3) =>
 br (decide (((x17.2.1 : Nat) : Int) > 1)) (R (ji 8) w15)
 (rd prog (jL 39 (Addr.add x3 2)) oS w15 fun (x18 : Hd3) =>
 br (((x18.2.1 : Nat) : Int) == 0) (R (ji 0) w15)
 (rd prog (jL 29 x1) (.agg [.slice]) w15 fun (x19 : Hd3 × Unit) =>
 rd prog (jL 96 x3) (.agg [.str, .slice, .slice]) w15 fun (x20 : ByteArray × Hd3 × Hd3 × Unit) =>
 call prog 135 [.agg #[jw x19.1], .agg #[.string x20.1, jw x20.2.1, jw x20.2.2.1]] (.one oS) w15 fun (x21 : Hd3) w22 =>
 loop (T := (Hd3 × Int × Unit)) ((none, 0, 0), 0, ()) w22 fun (g23 : Hd3 × Int × Unit → World → Prop) (s24 : Hd3 × Int × Unit) w25 => ∀ _ : NV,
 br (decide (s24.2.1 < ((x21.2.1 : Nat) : Int))) (rdp prog (jI 37 x21 s24.2.1) oA fun (x26 : Addr) =>
 rd prog (jL 62 x26) (.agg [.str, .int .i64, .bool]) w25 fun (x27 : ByteArray × Int × Bool × Unit) =>
 wr prog (Instr.alloc 62 true (.tuple #[])) oA w25 fun (x28 : Addr) w29 =>
 wu prog (jS 62 x28 (.agg #[.string x27.1, ji x27.2.1, .bool x27.2.2.1])) w29 fun w30 =>
 rd prog (jL 3 (Addr.add x28 1)) oI w30 fun (x31 : Int) =>
 wr prog (Instr.buildSlice 22 1 #[(0, (ji x31))]) oS w30 fun (x32 : Hd3) w33 =>
 wr prog (Builtin.append_ #[22, 22] 22 #[.slice s24.1.1 s24.1.2.1 s24.1.2.2, .slice x32.1 x32.2.1 x32.2.2]) oS w33 fun (x34 : Hd3) w35 =>
 z (IntKind.wrap .i64 (s24.2.1 + 1)) fun (z36 : Int) =>
 g23 ((x34.1, x34.2.1, x34.2.2), z36, ()) w35)
 (rd prog (jL 39 (Addr.add x3 2)) oS w25 fun (x37 : Hd3) =>
 rdp prog (jI 39 x37 0) oA fun (x38 : Addr) =>
 rd prog (jL 66 x38) (.agg [.int .i64, .int .i64, .int .i64, .str, .int .i64, .slice]) w25 fun (x39 : Int × Int × Int × ByteArray × Int × Hd3 × Unit) =>
 call prog 136 [jw s24.1, .agg #[ji x39.1, ji x39.2.1, ji x39.2.2.1, .string x39.2.2.2.1, ji x39.2.2.2.2.1, jw x39.2.2.2.2.2.1]] (.many [oI, oI]) w25 fun (x40 : TF) w41 =>
 br (x40.2.1 != 0) (R (ji x40.2.1) w41)
 (br (x40.1 != 2) (R (ji 4) w41)
 (rd prog (jL 29 x1) (.agg [.slice]) w41 fun (x42 : Hd3 × Unit) =>
 rd prog (jL 96 x3) (.agg [.str, .slice, .slice]) w41 fun (x43 : ByteArray × Hd3 × Hd3 × Unit) =>
 call prog 137 [.agg #[jw x42.1], .agg #[.string x43.1, jw x43.2.1, jw x43.2.2.1]] (.many [oS, oB]) w41 fun (x44 : Hd3 × Bool × Unit) w45 =>
 br (!x44.2.1) (R (ji 10) w45)
 (R (ji 0) w45))))))))))
def H75 : Hints := ⟨[(2, 0, [(9, (.one .slice)), (54, (.one (.int .i64)))])], [], [], []⟩
theorem S75_calls (s_0a : OA) (s_0n s_0c : Nat) (v_0 : ByteArray) (v_1a : OA) (v_1n v_1c : Nat) (v_2a : OA) (v_2n v_2c : Nat) (w0 : World) (R : KR) (h : S75 s_0a s_0n s_0c v_0 v_1a v_1n v_1c v_2a v_2n v_2c w0 R) : Calls prog 75 #[.agg #[.slice s_0a s_0n s_0c], .agg #[.string v_0, .slice v_1a v_1n v_1c, .slice v_2a v_2n v_2c]] w0 (ret R) :=
 vcFn_sound (H := H75) follows_ Tryz.func75 (Eq.mpr (by kernel_rfl) h)
def S37 (s_0a : OA) (s_0n s_0c : Nat) (i_0a : OA) (i_0n i_0c : Nat) (v_0 : ByteArray) (v_1a : OA) (v_1n v_1c : Nat) (v_2a : OA) (v_2n v_2c : Nat) (w0 : World) (R : KR) : Prop :=
 wr prog (Instr.box 29 (.agg #[.slice s_0a s_0n s_0c])) oA w0 fun (x1 : Addr) w2 =>
 wr prog (Instr.box 34 (.agg #[.slice i_0a i_0n i_0c])) oA w2 fun (x3 : Addr) w4 =>
 wr prog (Instr.box 96 (.agg #[.string v_0, .slice v_1a v_1n v_1c, .slice v_2a v_2n v_2c])) oA w4 fun (x5 : Addr) w6 =>
 rd prog (jL 29 x1) (.agg [.slice]) w6 fun (x7 : Hd3 × Unit) =>
 rd prog (jL 96 x5) (.agg [.str, .slice, .slice]) w6 fun (x8 : ByteArray × Hd3 × Hd3 × Unit) =>
 call prog 75 [.agg #[jw x7.1], .agg #[.string x8.1, jw x8.2.1, jw x8.2.2.1]] (.one oI) w6 fun (x9 : Int) w10 =>
 br (x9 != 0) (R (.tuple #[ji 0, ji x9]) w10)
 (rd prog (jL 32 x3) oS w10 fun (x11 : Hd3) =>
 rd prog (jL 27 x1) oS w10 fun (x12 : Hd3) =>
 br (((x11.2.1 : Nat) : Int) != ((x12.2.1 : Nat) : Int)) (R (.tuple #[ji 0, ji 9]) w10)
 (rd prog (jL 29 x1) (.agg [.slice]) w10 fun (x13 : Hd3 × Unit) =>
 rd prog (jL 96 x5) (.agg [.str, .slice, .slice]) w10 fun (x14 : ByteArray × Hd3 × Hd3 × Unit) =>
 call prog 76 [.agg #[jw x13.1], .agg #[.string x14.1, jw x14.2.1, jw x14.2.2.1]] (.many [oS, oB]) w10 fun (x15 : Hd3 × Bool × Unit) w16 =>
 drw w16 fun w17 =>
 rd prog (jL 32 x3) oS w17 fun (x18 : Hd3) =>
 rdp prog (jI 22 x15.1 0) oA fun (x19 : Addr) =>
 rd prog (jL 3 x19) oI w17 fun (x20 : Int) =>
 rdp prog (jI 32 x18 x20) oA fun (x21 : Addr) =>
 rd prog (jL 53 x21) oS w17 fun (x22 : Hd3) =>
 loop (T := TF) (0, 0, ()) w17 fun (g23 : TF → World → Prop) (s24 : TF) w25 => ∀ _ : NV,
 br (decide (s24.2.1 < ((x22.2.1 : Nat) : Int))) (join (T := (Int × Unit)) (fun (s27 : Int × Unit) w28 => ∀ _ : NV,
 z (IntKind.wrap .i64 (s24.2.1 + 1)) fun (z29 : Int) =>
 g23 (s27.1, z29, ()) w28)
  fun (K26 : Int × Unit → World → Prop) =>
 rd prog (jL 29 x1) (.agg [.slice]) w25 fun (x30 : Hd3 × Unit) =>
 rd prog (jL 34 x3) (.agg [.slice]) w25 fun (x31 : Hd3 × Unit) =>
 rd prog (jL 96 x5) (.agg [.str, .slice, .slice]) w25 fun (x32 : ByteArray × Hd3 × Hd3 × Unit) =>
 call prog 77 [.agg #[jw x30.1], .agg #[jw x31.1], .agg #[.string x32.1, jw x32.2.1, jw x32.2.2.1], ji s24.2.1] (.many [oS, oB]) w25 fun (x33 : Hd3 × Bool × Unit) w34 =>
 br x33.2.1 (rd prog (jL 96 x5) (.agg [.str, .slice, .slice]) w34 fun (x35 : ByteArray × Hd3 × Hd3 × Unit) =>
 call prog 78 [.agg #[.string x35.1, jw x35.2.1, jw x35.2.2.1], jw x33.1] (.one oB) w34 fun (x36 : Bool) w37 =>
 br x36 (z (IntKind.wrap .i64 (s24.1 + 1)) fun (z38 : Int) =>
 K26 (z38, ()) w37)
 (K26 (s24.1, ()) w37))
 (K26 (s24.1, ()) w34))
 (R (.tuple #[ji s24.1, ji 0]) w25)))
def H37 : Hints := ⟨[(2, 0, [(11, (.one (.int .i64))), (42, (.one (.int .i64)))]), (1, 1, [(11, (.one (.int .i64)))])], [], [], []⟩
theorem S37_calls (s_0a : OA) (s_0n s_0c : Nat) (i_0a : OA) (i_0n i_0c : Nat) (v_0 : ByteArray) (v_1a : OA) (v_1n v_1c : Nat) (v_2a : OA) (v_2n v_2c : Nat) (w0 : World) (R : KR) (h : S37 s_0a s_0n s_0c i_0a i_0n i_0c v_0 v_1a v_1n v_1c v_2a v_2n v_2c w0 R) : Calls prog 37 #[.agg #[.slice s_0a s_0n s_0c], .agg #[.slice i_0a i_0n i_0c], .agg #[.string v_0, .slice v_1a v_1n v_1c, .slice v_2a v_2n v_2c]] w0 (ret R) :=
 vcFn_sound (H := H37) follows_ Tryz.func37 (Eq.mpr (by kernel_rfl) h)
def S78 (v_0 : ByteArray) (v_1a : OA) (v_1n v_1c : Nat) (v_2a : OA) (v_2n v_2c : Nat) (row_a : OA) (row_n row_c : Nat) (w0 : World) (R : KR) : Prop :=
 wr prog (Instr.box 96 (.agg #[.string v_0, .slice v_1a v_1n v_1c, .slice v_2a v_2n v_2c])) oA w0 fun (x1 : Addr) w2 =>
 wr prog (Instr.box 56 (.slice row_a row_n row_c)) oA w2 fun (x3 : Addr) w4 =>
 rd prog (jL 39 (Addr.add x1 2)) oS w4 fun (x5 : Hd3) =>
 call prog 139 [jw x5, (.func (.func 140) #[] #[jp x3])] (.one oB) w4 fun (x6 : Bool) w7 =>
 R (.bool (!x6)) w7
def H78 : Hints := ⟨[], [], [], []⟩
theorem S78_calls (v_0 : ByteArray) (v_1a : OA) (v_1n v_1c : Nat) (v_2a : OA) (v_2n v_2c : Nat) (row_a : OA) (row_n row_c : Nat) (w0 : World) (R : KR) (h : S78 v_0 v_1a v_1n v_1c v_2a v_2n v_2c row_a row_n row_c w0 R) : Calls prog 78 #[.agg #[.string v_0, .slice v_1a v_1n v_1c, .slice v_2a v_2n v_2c], .slice row_a row_n row_c] w0 (ret R) :=
 vcFn_sound (H := H78) follows_ Tryz.func78 (Eq.mpr (by kernel_rfl) h)
def S12 (s_0a : OA) (s_0n s_0c : Nat) (i_0a : OA) (i_0n i_0c : Nat) (l_a : OA) (l_n l_c : Nat) (w0 : World) (R : KR) : Prop :=
 wr prog (Instr.box 29 (.agg #[.slice s_0a s_0n s_0c])) oA w0 fun (x1 : Addr) w2 =>
 wr prog (Instr.box 34 (.agg #[.slice i_0a i_0n i_0c])) oA w2 fun (x3 : Addr) w4 =>
 call prog 35 [.slice l_a l_n l_c, (.func (.func 36) #[] #[jp x1, jp x3])] (.one oB) w4 fun (x5 : Bool) w6 =>
 R (.bool (!x5)) w6
def H12 : Hints := ⟨[], [], [], []⟩
theorem S12_calls (s_0a : OA) (s_0n s_0c : Nat) (i_0a : OA) (i_0n i_0c : Nat) (l_a : OA) (l_n l_c : Nat) (w0 : World) (R : KR) (h : S12 s_0a s_0n s_0c i_0a i_0n i_0c l_a l_n l_c w0 R) : Calls prog 12 #[.agg #[.slice s_0a s_0n s_0c], .agg #[.slice i_0a i_0n i_0c], .slice l_a l_n l_c] w0 (ret R) :=
 vcFn_sound (H := H12) follows_ Tryz.func12 (Eq.mpr (by kernel_rfl) h)
def S36 (d_0 : ByteArray) (d_1a : OA) (d_1n d_1c : Nat) (d_2a : OA) (d_2n d_2c : Nat) (d_3 : Int) (cap0 cap1 : Addr) (w0 : World) (R : KR) : Prop :=
 wr prog (Instr.box 98 (.agg #[.string d_0, .slice d_1a d_1n d_1c, .slice d_2a d_2n d_2c, ji d_3])) oA w0 fun (x1 : Addr) w2 =>
 rd prog (jL 29 cap0) (.agg [.slice]) w2 fun (x3 : Hd3 × Unit) =>
 rd prog (jL 34 cap1) (.agg [.slice]) w2 fun (x4 : Hd3 × Unit) =>
 rd prog (jL 96 x1) (.agg [.str, .slice, .slice]) w2 fun (x5 : ByteArray × Hd3 × Hd3 × Unit) =>
 call prog 37 [.agg #[jw x3.1], .agg #[jw x4.1], .agg #[.string x5.1, jw x5.2.1, jw x5.2.2.1]] (.many [oI, oI]) w2 fun (x6 : TF) w7 =>
 br (x6.2.1 != 0) (R (.bool true) w7)
 (rd prog (jL 3 (Addr.add x1 3)) oI w7 fun (x8 : Int) =>
 R (.bool (x6.1 != x8)) w7)
def H36 : Hints := ⟨[], [], [], []⟩
theorem S36_calls (d_0 : ByteArray) (d_1a : OA) (d_1n d_1c : Nat) (d_2a : OA) (d_2n d_2c : Nat) (d_3 : Int) (cap0 cap1 : Addr) (w0 : World) (R : KR) (h : S36 d_0 d_1a d_1n d_1c d_2a d_2n d_2c d_3 cap0 cap1 w0 R) : Calls prog 36 #[.agg #[.string d_0, .slice d_1a d_1n d_1c, .slice d_2a d_2n d_2c, ji d_3], jp cap0, jp cap1] w0 (ret R) :=
 vcFn_sound (H := H36) follows_ Tryz.func36 (Eq.mpr (by kernel_rfl) h)
def S288 (i_ base_ : Int) (w0 : World) (R : KR) : Prop :=
 call prog 318 [ji i_, ji base_] (.one (.one .str)) w0 fun (x1 : ByteArray) w2 =>
 R (.string x1) w2
def H288 : Hints := ⟨[], [], [], []⟩
theorem S288_calls (i_ base_ : Int) (w0 : World) (R : KR) (h : S288 i_ base_ w0 R) : Calls prog 288 #[ji i_, ji base_] w0 (ret R) :=
 vcFn_sound (H := H288) follows_ Tryz.func288 (Eq.mpr (by kernel_rfl) h)
def S25 (s_a : OA) (s_n s_c : Nat) (v_ : Int) (w0 : World) (R : KR) : Prop :=
 call prog 51 [.slice s_a s_n s_c, ji v_] (.one oI) w0 fun (x1 : Int) w2 =>
 R (.bool (decide (x1 ≥ 0))) w2
def H25 : Hints := ⟨[], [], [], []⟩
theorem S25_calls (s_a : OA) (s_n s_c : Nat) (v_ : Int) (w0 : World) (R : KR) (h : S25 s_a s_n s_c v_ w0 R) : Calls prog 25 #[.slice s_a s_n s_c, ji v_] w0 (ret R) :=
 vcFn_sound (H := H25) follows_ Tryz.func25 (Eq.mpr (by kernel_rfl) h)
def S51 (s_a : OA) (s_n s_c : Nat) (v_ : Int) (w0 : World) (R : KR) : Prop :=
 loop (T := (Int × Unit)) (0, ()) w0 fun (g1 : Int × Unit → World → Prop) (s2 : Int × Unit) w3 => ∀ _ : NV,
 br (decide (s2.1 < ((s_n : Nat) : Int))) (rdp prog (Instr.indexAt 22 (.slice s_a s_n s_c) (ji s2.1)) oA fun (x4 : Addr) =>
 rd prog (jL 3 x4) oI w3 fun (x5 : Int) =>
 br (v_ == x5) (R (ji s2.1) w3)
 (z (IntKind.wrap .i64 (s2.1 + 1)) fun (z6 : Int) =>
 g1 (z6, ()) w3))
 (R (ji (-1)) w3)
def H51 : Hints := ⟨[(2, 0, [(8, (.one (.int .i64)))])], [], [], []⟩
theorem S51_calls (s_a : OA) (s_n s_c : Nat) (v_ : Int) (w0 : World) (R : KR) (h : S51 s_a s_n s_c v_ w0 R) : Calls prog 51 #[.slice s_a s_n s_c, ji v_] w0 (ret R) :=
 vcFn_sound (H := H51) follows_ Tryz.func51 (Eq.mpr (by kernel_rfl) h)
def S240 (s_a : OA) (s_n s_c : Nat) (v_0 v_1 : Int) (v_2 : ByteArray) (w0 : World) (R : KR) : Prop :=
 wr prog (Instr.box 55 (.agg #[ji v_0, ji v_1, .string v_2])) oA w0 fun (x1 : Addr) w2 =>
 rd prog (jL 55 x1) (.agg [.int .i64, .int .i64, .str]) w2 fun (x3 : Int × Int × ByteArray × Unit) =>
 call prog 287 [.slice s_a s_n s_c, .agg #[ji x3.1, ji x3.2.1, .string x3.2.2.1]] (.one oI) w2 fun (x4 : Int) w5 =>
 R (.bool (decide (x4 ≥ 0))) w5
def H240 : Hints := ⟨[], [], [], []⟩
theorem S240_calls (s_a : OA) (s_n s_c : Nat) (v_0 v_1 : Int) (v_2 : ByteArray) (w0 : World) (R : KR) (h : S240 s_a s_n s_c v_0 v_1 v_2 w0 R) : Calls prog 240 #[.slice s_a s_n s_c, .agg #[ji v_0, ji v_1, .string v_2]] w0 (ret R) :=
 vcFn_sound (H := H240) follows_ Tryz.func240 (Eq.mpr (by kernel_rfl) h)
def S287 (s_a : OA) (s_n s_c : Nat) (v_0 v_1 : Int) (v_2 : ByteArray) (w0 : World) (R : KR) : Prop :=
 wr prog (Instr.box 55 (.agg #[ji v_0, ji v_1, .string v_2])) oA w0 fun (x1 : Addr) w2 =>
 loop (T := (Int × Unit)) (0, ()) w2 fun (g3 : Int × Unit → World → Prop) (s4 : Int × Unit) w5 => ∀ _ : NV,
 br (decide (s4.1 < ((s_n : Nat) : Int))) (drw w5 fun w6 =>
 rd prog (jL 55 x1) (.agg [.int .i64, .int .i64, .str]) w6 fun (x7 : Int × Int × ByteArray × Unit) =>
 rdp prog (Instr.indexAt 56 (.slice s_a s_n s_c) (ji s4.1)) oA fun (x8 : Addr) =>
 rd prog (jL 55 x8) (.agg [.int .i64, .int .i64, .str]) w6 fun (x9 : Int × Int × ByteArray × Unit) =>
 rd prog (cmpS .eql 55 (.tmp 11) (.tmp 15) (.agg #[ji x7.1, ji x7.2.1, .string x7.2.2.1]) (.agg #[ji x9.1, ji x9.2.1, .string x9.2.2.1])) oB w6 fun (x10 : Bool) =>
 br x10 (R (ji s4.1) w6)
 (z (IntKind.wrap .i64 (s4.1 + 1)) fun (z11 : Int) =>
 g3 (z11, ()) w6))
 (R (ji (-1)) w5)
def H287 : Hints := ⟨[(2, 0, [(8, (.one (.int .i64)))])], [(4, 5)], [], []⟩
theorem S287_calls (s_a : OA) (s_n s_c : Nat) (v_0 v_1 : Int) (v_2 : ByteArray) (w0 : World) (R : KR) (h : S287 s_a s_n s_c v_0 v_1 v_2 w0 R) : Calls prog 287 #[.slice s_a s_n s_c, .agg #[ji v_0, ji v_1, .string v_2]] w0 (ret R) :=
 vcFn_sound (H := H287) follows_ Tryz.func287 (Eq.mpr (by kernel_rfl) h)
def S239 (s_a : OA) (s_n s_c : Nat) (w0 : World) (R : KR) : Prop :=
 rd prog (cmpS .eql 36 (.tmp 3) (.const (.slice none 0 0)) (.slice s_a s_n s_c) (.slice none 0 0)) oB w0 fun (x1 : Bool) =>
 br x1 (R (.slice none 0 0) w0)
 (wr prog (Instr.buildSlice 36 0 #[]) oS w0 fun (x2 : Hd3) w3 =>
 wr prog (Builtin.append_ #[36, 36] 36 #[.slice x2.1 x2.2.1 x2.2.2, .slice s_a s_n s_c]) oS w3 fun (x4 : Hd3) w5 =>
 R (jw x4) w5)
def H239 : Hints := ⟨[], [], [], []⟩
theorem S239_calls (s_a : OA) (s_n s_c : Nat) (w0 : World) (R : KR) (h : S239 s_a s_n s_c w0 R) : Calls prog 239 #[.slice s_a s_n s_c] w0 (ret R) :=
 vcFn_sound (H := H239) follows_ Tryz.func239 (Eq.mpr (by kernel_rfl) h)
def S112 (x_a : OA) (x_n x_c : Nat) (count_ : Int) (w0 : World) (R : KR) : Prop :=
 join (T := Unit) (fun (_s2 : Unit) w3 => ∀ _ : NV,
 z (IntKind.wrap .u64 ((x_n : Nat) : Int)) fun (z4 : Int) =>
 z (IntKind.wrap .u64 count_) fun (z5 : Int) =>
 call prog 89 [.int .u64 z4, .int .u64 z5] (.many [.one (.int .u64), .one (.int .u64)]) w3 fun (x6 : TF) w7 =>
 join (T := Unit) (fun (_s9 : Unit) w10 => ∀ _ : NV,
 z (IntKind.wrap .i64 x6.2.1) fun (z11 : Int) =>
 wr prog (Instr.makeSlice 56 (ji z11) (ji z11)) oS w10 fun (x12 : Hd3) w13 =>
 wr prog (Builtin.copy_ #[56, 56] 3 #[jw x12, .slice x_a x_n x_c]) oI w13 fun (x14 : Int) w15 =>
 loop (T := (Int × Unit)) (x14, ()) w15 fun (g16 : Int × Unit → World → Prop) (s17 : Int × Unit) w18 => ∀ _ : NV,
 br (decide (s17.1 < ((x12.2.1 : Nat) : Int))) (drw w18 fun w19 =>
 rdp prog (Instr.sliceAt 56 (jw x12) (some (ji s17.1)) none none) oS fun (x20 : Hd3) =>
 rdp prog (Instr.sliceAt 56 (jw x12) none (some (ji s17.1)) none) oS fun (x21 : Hd3) =>
 wr prog (Builtin.copy_ #[56, 56] 3 #[jw x20, jw x21]) oI w19 fun (x22 : Int) w23 =>
 z (IntKind.wrap .i64 (s17.1 + x22)) fun (z24 : Int) =>
 g16 (z24, ()) w23)
 (R (jw x12) w18))
  fun (K8 : Unit → World → Prop) =>
 br (decide (x6.1 > 0)) (False)
 (br (decide (x6.2.1 > 9223372036854775807)) (False)
 (K8 (()) w7)))
  fun (K1 : Unit → World → Prop) =>
 br (decide (count_ < 0)) (False)
 (K1 (()) w0)
def H112 : Hints := ⟨[(0, 10, []), (0, 26, []), (2, 0, [(8, (.one (.int .i64)))])], [(9, 0)], [], []⟩
theorem S112_calls (x_a : OA) (x_n x_c : Nat) (count_ : Int) (w0 : World) (R : KR) (h : S112 x_a x_n x_c count_ w0 R) : Calls prog 112 #[.slice x_a x_n x_c, ji count_] w0 (ret R) :=
 vcFn_sound (H := H112) follows_ Tryz.func112 (Eq.mpr (by kernel_rfl) h)
def S96 (vals_a : OA) (vals_n vals_c : Nat) (w0 : World) (R : KR) : Prop :=
 loop (T := (Int × Unit)) (0, ()) w0 fun (g1 : Int × Unit → World → Prop) (s2 : Int × Unit) w3 => ∀ _ : NV,
 br (decide (s2.1 < ((vals_n : Nat) : Int))) (rdp prog (Instr.indexAt 22 (.slice vals_a vals_n vals_c) (ji s2.1)) oA fun (x4 : Addr) =>
 rd prog (jL 3 x4) oI w3 fun (x5 : Int) =>
 br (x5 != 0) (R (ji x5) w3)
 (z (IntKind.wrap .i64 (s2.1 + 1)) fun (z6 : Int) =>
 g1 (z6, ()) w3))
 (R (ji 0) w3)
def H96 : Hints := ⟨[(2, 0, [(8, (.one (.int .i64)))])], [], [], []⟩
theorem S96_calls (vals_a : OA) (vals_n vals_c : Nat) (w0 : World) (R : KR) (h : S96 vals_a vals_n vals_c w0 R) : Calls prog 96 #[.slice vals_a vals_n vals_c] w0 (ret R) :=
 vcFn_sound (H := H96) follows_ Tryz.func96 (Eq.mpr (by kernel_rfl) h)
def S97 (x_ y_ : Int) (w0 : World) (R : KR) : Prop :=
 call prog 170 [ji x_] (.one oB) w0 fun (x1 : Bool) w2 =>
 call prog 170 [ji y_] (.one oB) w2 fun (x3 : Bool) w4 =>
 br x1 (br x3 (R (ji 0) w4)
 (R (ji (-1)) w4))
 (br x3 (R (ji 1) w4)
 (br (decide (x_ < y_)) (R (ji (-1)) w4)
 (br (decide (x_ > y_)) (R (ji 1) w4)
 (R (ji 0) w4))))
def H97 : Hints := ⟨[], [], [], []⟩
theorem S97_calls (x_ y_ : Int) (w0 : World) (R : KR) (h : S97 x_ y_ w0 R) : Calls prog 97 #[ji x_, ji y_] w0 (ret R) :=
 vcFn_sound (H := H97) follows_ Tryz.func97 (Eq.mpr (by kernel_rfl) h)
def S98 (x_ y_ : Int) (w0 : World) (R : KR) : Prop :=
 call prog 171 [ji x_] (.one oB) w0 fun (x1 : Bool) w2 =>
 call prog 171 [ji y_] (.one oB) w2 fun (x3 : Bool) w4 =>
 br x1 (br x3 (R (ji 0) w4)
 (R (ji (-1)) w4))
 (br x3 (R (ji 1) w4)
 (br (decide (x_ < y_)) (R (ji (-1)) w4)
 (br (decide (x_ > y_)) (R (ji 1) w4)
 (R (ji 0) w4))))
def H98 : Hints := ⟨[], [], [], []⟩
theorem S98_calls (x_ y_ : Int) (w0 : World) (R : KR) (h : S98 x_ y_ w0 R) : Calls prog 98 #[ji x_, ji y_] w0 (ret R) :=
 vcFn_sound (H := H98) follows_ Tryz.func98 (Eq.mpr (by kernel_rfl) h)
def S99 (x_ y_ : ByteArray) (w0 : World) (R : KR) : Prop :=
 call prog 172 [.string x_] (.one oB) w0 fun (x1 : Bool) w2 =>
 call prog 172 [.string y_] (.one oB) w2 fun (x3 : Bool) w4 =>
 br x1 (br x3 (R (ji 0) w4)
 (R (ji (-1)) w4))
 (br x3 (R (ji 1) w4)
 (rdp prog (cmpS .lss 9 (.tmp 14) (.tmp 15) (.string x_) (.string y_)) oB fun (x5 : Bool) =>
 br x5 (R (ji (-1)) w4)
 (rdp prog (cmpS .gtr 9 (.tmp 17) (.tmp 18) (.string x_) (.string y_)) oB fun (x6 : Bool) =>
 br x6 (R (ji 1) w4)
 (R (ji 0) w4))))
def H99 : Hints := ⟨[], [], [], []⟩
theorem S99_calls (x_ y_ : ByteArray) (w0 : World) (R : KR) (h : S99 x_ y_ w0 R) : Calls prog 99 #[.string x_, .string y_] w0 (ret R) :=
 vcFn_sound (H := H99) follows_ Tryz.func99 (Eq.mpr (by kernel_rfl) h)
def S170 (x_ : Int) (w0 : World) (R : KR) : Prop :=
 R (.bool (x_ != x_)) w0
def H170 : Hints := ⟨[], [], [], []⟩
theorem S170_calls (x_ : Int) (w0 : World) (R : KR) (h : S170 x_ w0 R) : Calls prog 170 #[ji x_] w0 (ret R) :=
 vcFn_sound (H := H170) follows_ Tryz.func170 (Eq.mpr (by kernel_rfl) h)
def S171 (x_ : Int) (w0 : World) (R : KR) : Prop :=
 R (.bool (x_ != x_)) w0
def H171 : Hints := ⟨[], [], [], []⟩
theorem S171_calls (x_ : Int) (w0 : World) (R : KR) (h : S171 x_ w0 R) : Calls prog 171 #[ji x_] w0 (ret R) :=
 vcFn_sound (H := H171) follows_ Tryz.func171 (Eq.mpr (by kernel_rfl) h)
def S172 (x_ : ByteArray) (w0 : World) (R : KR) : Prop :=
 rd prog (cmpS .neq 9 (.tmp 3) (.tmp 4) (.string x_) (.string x_)) oB w0 fun (x1 : Bool) =>
 R (.bool x1) w0
def H172 : Hints := ⟨[], [], [], []⟩
theorem S172_calls (x_ : ByteArray) (w0 : World) (R : KR) (h : S172 x_ w0 R) : Calls prog 172 #[.string x_] w0 (ret R) :=
 vcFn_sound (H := H172) follows_ Tryz.func172 (Eq.mpr (by kernel_rfl) h)
end Go.Proofs
