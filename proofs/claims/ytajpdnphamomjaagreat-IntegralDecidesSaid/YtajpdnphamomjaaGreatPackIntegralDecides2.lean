import Derived.KernelRfl
import Derived.Great.BuildSlice
import Derived.Recover
import Derived.Test.YtajpdnphamomjaaGreatPackIntegralDecides1

/- The conditions of functions, printed by our tool; each is checked against the code by the kernel. -/



namespace Go.Proofs
open Go Go.V Go.RowKit
open Tryz (prog)
set_option maxRecDepth 100000
def S108 (a_a : OA) (a_n a_c : Nat) (b_a : OA) (b_n b_c : Nat) (w0 : World) (R : KR) : Prop :=
 loop (T := (Hd3 × Int × Int × Unit)) ((none, 0, 0), 0, 0, ()) w0 fun (g1 : Hd3 × Int × Int × Unit → World → Prop) (s2 : Hd3 × Int × Int × Unit) w3 => ∀ _ : NV,
 join (T := Unit) (fun (_s5 : Unit) w6 => ∀ _ : NV,
 join (T := (Hd3 × Int × Unit)) (fun (s8 : Hd3 × Int × Unit) w9 => ∀ _ : NV,
 z (IntKind.wrap .i64 (s2.2.2.1 + 1)) fun (z10 : Int) =>
 g1 ((s8.1.1, s8.1.2.1, s8.1.2.2), s8.2.1, z10, ()) w9)
  fun (K7 : Hd3 × Int × Unit → World → Prop) =>
 join (T := (Int × Unit)) (fun (s12 : Int × Unit) w13 => ∀ _ : NV,
 join (T := (Int × Unit)) (fun (s15 : Int × Unit) w16 => ∀ _ : NV,
 z (IntKind.wrap .u32 s15.1) fun (z17 : Int) =>
 wr prog (Instr.buildSlice 116 1 #[(0, (.int .u32 z17))]) oS w16 fun (x18 : Hd3) w19 =>
 wr prog (Builtin.append_ #[116, 116] 116 #[.slice s2.1.1 s2.1.2.1 s2.1.2.2, .slice x18.1 x18.2.1 x18.2.2]) oS w19 fun (x20 : Hd3) w21 =>
 rdp prog (cmpS .shr 108 (.tmp 48) (.const (.int .u64 32)) (.int .u64 s15.1) (.int .u64 32)) (.one (.int .u64)) fun (x22 : Int) =>
 K7 ((x20.1, x20.2.1, x20.2.2), x22, ()) w21)
  fun (K14 : Int × Unit → World → Prop) =>
 br (decide (s2.2.2.1 < ((b_n : Nat) : Int))) (rdp prog (Instr.indexAt 116 (.slice b_a b_n b_c) (ji s2.2.2.1)) oA fun (x23 : Addr) =>
 rd prog (jL 146 x23) (.one (.int .u32)) w13 fun (x24 : Int) =>
 z (IntKind.wrap .u64 x24) fun (z25 : Int) =>
 z (IntKind.wrap .u64 (s12.1 + z25)) fun (z26 : Int) =>
 K14 (z26, ()) w13)
 (K14 (s12.1, ()) w13))
  fun (K11 : Int × Unit → World → Prop) =>
 br (decide (s2.2.2.1 < ((a_n : Nat) : Int))) (rdp prog (Instr.indexAt 116 (.slice a_a a_n a_c) (ji s2.2.2.1)) oA fun (x27 : Addr) =>
 rd prog (jL 146 x27) (.one (.int .u32)) w6 fun (x28 : Int) =>
 z (IntKind.wrap .u64 x28) fun (z29 : Int) =>
 z (IntKind.wrap .u64 (s2.2.1 + z29)) fun (z30 : Int) =>
 K11 (z30, ()) w6)
 (K11 (s2.2.1, ()) w6))
  fun (K4 : Unit → World → Prop) =>
 z (if ((b_n : Nat) : Int) > ((a_n : Nat) : Int) then ((b_n : Nat) : Int) else ((a_n : Nat) : Int)) fun (z31 : Int) =>
 br (decide (s2.2.2.1 < z31)) (K4 (()) w3)
 (br (decide (s2.2.1 > 0)) (K4 (()) w3)
 (R (jw s2.1) w3))
def H108 : Hints := ⟨[(2, 0, [(5, (.one .slice)), (6, (.one (.int .u64))), (7, (.one (.int .i64)))]), (0, 18, []), (0, 24, [(6, (.one (.int .u64)))]), (0, 35, [(6, (.one (.int .u64)))]), (1, 1, [(5, (.one .slice)), (6, (.one (.int .u64)))])], [], [], []⟩
theorem S108_calls (a_a : OA) (a_n a_c : Nat) (b_a : OA) (b_n b_c : Nat) (w0 : World) (R : KR) (h : S108 a_a a_n a_c b_a b_n b_c w0 R) : Calls prog 108 #[.slice a_a a_n a_c, .slice b_a b_n b_c] w0 (ret R) :=
 vcFn_sound (H := H108) follows_ Tryz.func108 (Eq.mpr (by kernel_rfl) h)
def S110 (a_a : OA) (a_n a_c : Nat) (b_a : OA) (b_n b_c : Nat) (w0 : World) (R : KR) : Prop :=
 call prog 122 [.slice a_a a_n a_c] (.one oS) w0 fun (x1 : Hd3) w2 =>
 loop (T := TF) (0, 0, ()) w2 fun (g3 : TF → World → Prop) (s4 : TF) w5 => ∀ _ : NV,
 br (decide (s4.2.1 < ((x1.2.1 : Nat) : Int))) (join (T := (Int × Unit)) (fun (s7 : Int × Unit) w8 => ∀ _ : NV,
 z (IntKind.wrap .i64 (s4.2.1 + 1)) fun (z9 : Int) =>
 g3 (s7.1, z9, ()) w8)
  fun (K6 : Int × Unit → World → Prop) =>
 rdp prog (jI 116 x1 s4.2.1) oA fun (x10 : Addr) =>
 rd prog (jL 146 x10) (.one (.int .u32)) w5 fun (x11 : Int) =>
 z (IntKind.wrap .i64 x11) fun (z12 : Int) =>
 z (IntKind.wrap .i64 (z12 - s4.1)) fun (z13 : Int) =>
 join (T := (Int × Unit)) (fun (s15 : Int × Unit) w16 => ∀ _ : NV,
 join (T := TF) (fun (s18 : TF) w19 => ∀ _ : NV,
 z (IntKind.wrap .u32 s18.2.1) fun (z20 : Int) =>
 rdp prog (jI 116 x1 s4.2.1) oA fun (x21 : Addr) =>
 wu prog (jS 146 x21 (.int .u32 z20)) w19 fun w22 =>
 K6 (s18.1, ()) w22)
  fun (K17 : TF → World → Prop) =>
 br (decide (s15.1 < 0)) (z (IntKind.wrap .i64 (s15.1 + 4294967296)) fun (z23 : Int) =>
 K17 (1, z23, ()) w16)
 (K17 (0, s15.1, ()) w16))
  fun (K14 : Int × Unit → World → Prop) =>
 br (decide (s4.2.1 < ((b_n : Nat) : Int))) (rdp prog (Instr.indexAt 116 (.slice b_a b_n b_c) (ji s4.2.1)) oA fun (x24 : Addr) =>
 rd prog (jL 146 x24) (.one (.int .u32)) w5 fun (x25 : Int) =>
 z (IntKind.wrap .i64 x25) fun (z26 : Int) =>
 z (IntKind.wrap .i64 (z13 - z26)) fun (z27 : Int) =>
 K14 (z27, ()) w5)
 (K14 (z13, ()) w5))
 (call prog 117 [jw x1] (.one oS) w5 fun (x28 : Hd3) w29 =>
 R (jw x28) w29)
def H110 : Hints := ⟨[(2, 0, [(6, (.one (.int .i64))), (13, (.one (.int .i64)))]), (0, 26, [(8, (.one (.int .i64)))]), (0, 35, [(6, (.one (.int .i64))), (8, (.one (.int .i64)))]), (1, 1, [(6, (.one (.int .i64)))])], [], [], []⟩
theorem S110_calls (a_a : OA) (a_n a_c : Nat) (b_a : OA) (b_n b_c : Nat) (w0 : World) (R : KR) (h : S110 a_a a_n a_c b_a b_n b_c w0 R) : Calls prog 110 #[.slice a_a a_n a_c, .slice b_a b_n b_c] w0 (ret R) :=
 vcFn_sound (H := H110) follows_ Tryz.func110 (Eq.mpr (by kernel_rfl) h)
def S127 (a_a : OA) (a_n a_c : Nat) (bit_ : Int) (w0 : World) (R : KR) : Prop :=
 z (IntKind.wrap .i64 (((a_n : Nat) : Int) + 1)) fun (z1 : Int) =>
 wr prog (Instr.makeSlice 116 (ji 0) (ji z1)) oS w0 fun (x2 : Hd3) w3 =>
 loop (T := (Int × Hd3 × Int × Unit)) (bit_, (x2.1, x2.2.1, x2.2.2), 0, ()) w3 fun (g4 : Int × Hd3 × Int × Unit → World → Prop) (s5 : Int × Hd3 × Int × Unit) w6 => ∀ _ : NV,
 br (decide (s5.2.2.1 < ((a_n : Nat) : Int))) (rdp prog (Instr.indexAt 116 (.slice a_a a_n a_c) (ji s5.2.2.1)) oA fun (x7 : Addr) =>
 rd prog (jL 146 x7) (.one (.int .u32)) w6 fun (x8 : Int) =>
 rdp prog (cmpS .shl 146 (.tmp 19) (.const (.int .u64 1)) (.int .u32 x8) (.int .u64 1)) (.one (.int .u32)) fun (x9 : Int) =>
 z (ior .u32 x9 s5.1) fun (z10 : Int) =>
 wr prog (Instr.buildSlice 116 1 #[(0, (.int .u32 z10))]) oS w6 fun (x11 : Hd3) w12 =>
 wr prog (Builtin.append_ #[116, 116] 116 #[.slice s5.2.1.1 s5.2.1.2.1 s5.2.1.2.2, .slice x11.1 x11.2.1 x11.2.2]) oS w12 fun (x13 : Hd3) w14 =>
 rdp prog (cmpS .shr 146 (.tmp 25) (.const (.int .u64 31)) (.int .u32 x8) (.int .u64 31)) (.one (.int .u32)) fun (x15 : Int) =>
 z (IntKind.wrap .i64 (s5.2.2.1 + 1)) fun (z16 : Int) =>
 g4 (x15, (x13.1, x13.2.1, x13.2.2), z16, ()) w14)
 (wr prog (Instr.buildSlice 116 1 #[(0, (.int .u32 s5.1))]) oS w6 fun (x17 : Hd3) w18 =>
 wr prog (Builtin.append_ #[116, 116] 116 #[.slice s5.2.1.1 s5.2.1.2.1 s5.2.1.2.2, .slice x17.1 x17.2.1 x17.2.2]) oS w18 fun (x19 : Hd3) w20 =>
 call prog 117 [jw x19] (.one oS) w20 fun (x21 : Hd3) w22 =>
 R (jw x21) w22)
def H127 : Hints := ⟨[(2, 0, [(1, (.one (.int .u32))), (5, (.one .slice)), (14, (.one (.int .i64)))])], [], [], []⟩
theorem S127_calls (a_a : OA) (a_n a_c : Nat) (bit_ : Int) (w0 : World) (R : KR) (h : S127 a_a a_n a_c bit_ w0 R) : Calls prog 127 #[.slice a_a a_n a_c, .int .u32 bit_] w0 (ret R) :=
 vcFn_sound (H := H127) follows_ Tryz.func127 (Eq.mpr (by kernel_rfl) h)
def S119 (a_a : OA) (a_n a_c : Nat) (b_a : OA) (b_n b_c : Nat) (w0 : World) (R : KR) : Prop :=
 wr prog (Instr.makeSlice 116 (ji ((a_n : Nat) : Int)) (ji ((a_n : Nat) : Int))) oS w0 fun (x1 : Hd3) w2 =>
 br (((b_n : Nat) : Int) == 1) (z (IntKind.wrap .i64 (((a_n : Nat) : Int) - 1)) fun (z3 : Int) =>
 loop (T := TF) (0, z3, ()) w2 fun (g4 : TF → World → Prop) (s5 : TF) w6 => ∀ _ : NV,
 br (decide (s5.2.1 ≥ 0)) (rdp prog (cmpS .shl 108 (.tmp 24) (.const (.int .u64 32)) (.int .u64 s5.1) (.int .u64 32)) (.one (.int .u64)) fun (x7 : Int) =>
 rdp prog (Instr.indexAt 116 (.slice a_a a_n a_c) (ji s5.2.1)) oA fun (x8 : Addr) =>
 rd prog (jL 146 x8) (.one (.int .u32)) w6 fun (x9 : Int) =>
 z (IntKind.wrap .u64 x9) fun (z10 : Int) =>
 z (ior .u64 x7 z10) fun (z11 : Int) =>
 drw w6 fun w12 =>
 rdp prog (Instr.indexAt 116 (.slice b_a b_n b_c) (ji 0)) oA fun (x13 : Addr) =>
 rd prog (jL 146 x13) (.one (.int .u32)) w12 fun (x14 : Int) =>
 z (IntKind.wrap .u64 x14) fun (z15 : Int) =>
 rdp prog (cmpS .quo 108 (.tmp 34) (.tmp 38) (.int .u64 z11) (.int .u64 z15)) (.one (.int .u64)) fun (x16 : Int) =>
 z (IntKind.wrap .u32 x16) fun (z17 : Int) =>
 rdp prog (Instr.indexAt 116 (.slice b_a b_n b_c) (ji 0)) oA fun (x18 : Addr) =>
 rd prog (jL 146 x18) (.one (.int .u32)) w12 fun (x19 : Int) =>
 z (IntKind.wrap .u64 x19) fun (z20 : Int) =>
 rdp prog (cmpS .rem 108 (.tmp 41) (.tmp 45) (.int .u64 z11) (.int .u64 z20)) (.one (.int .u64)) fun (x21 : Int) =>
 rdp prog (jI 116 x1 s5.2.1) oA fun (x22 : Addr) =>
 wu prog (jS 146 x22 (.int .u32 z17)) w12 fun w23 =>
 z (IntKind.wrap .i64 (s5.2.1 - 1)) fun (z24 : Int) =>
 g4 (x21, z24, ()) w23)
 (call prog 117 [jw x1] (.one oS) w6 fun (x25 : Hd3) w26 =>
 call prog 105 [.int .u64 s5.1] (.one oS) w26 fun (x27 : Hd3) w28 =>
 R (.tuple #[jw x25, jw x27]) w28))
 (z (IntKind.wrap .i64 (32 * ((a_n : Nat) : Int))) fun (z29 : Int) =>
 z (IntKind.wrap .i64 (z29 - 1)) fun (z30 : Int) =>
 loop (T := (Hd3 × Int × Unit)) ((none, 0, 0), z30, ()) w2 fun (g31 : Hd3 × Int × Unit → World → Prop) (s32 : Hd3 × Int × Unit) w33 => ∀ _ : NV,
 br (decide (s32.2.1 ≥ 0)) (join (T := (Hd3 × Unit)) (fun (s35 : Hd3 × Unit) w36 => ∀ _ : NV,
 z (IntKind.wrap .i64 (s32.2.1 - 1)) fun (z37 : Int) =>
 g31 ((s35.1.1, s35.1.2.1, s35.1.2.2), z37, ()) w36)
  fun (K34 : Hd3 × Unit → World → Prop) =>
 rdp prog (cmpS .quo 3 (.tmp 62) (.const (ji 32)) (ji s32.2.1) (ji 32)) oI fun (x38 : Int) =>
 rdp prog (Instr.indexAt 116 (.slice a_a a_n a_c) (ji x38)) oA fun (x39 : Addr) =>
 rd prog (jL 146 x39) (.one (.int .u32)) w33 fun (x40 : Int) =>
 rdp prog (cmpS .rem 3 (.tmp 66) (.const (ji 32)) (ji s32.2.1) (ji 32)) oI fun (x41 : Int) =>
 rdp prog (cmpS .shr 146 (.tmp 65) (.tmp 67) (.int .u32 x40) (ji x41)) (.one (.int .u32)) fun (x42 : Int) =>
 z (iand .u32 x42 1) fun (z43 : Int) =>
 call prog 127 [jw s32.1, .int .u32 z43] (.one oS) w33 fun (x44 : Hd3) w45 =>
 call prog 109 [jw x44, .slice b_a b_n b_c] (.one oI) w45 fun (x46 : Int) w47 =>
 br (decide (x46 ≥ 0)) (call prog 110 [jw x44, .slice b_a b_n b_c] (.one oS) w47 fun (x48 : Hd3) w49 =>
 drw w49 fun w50 =>
 rdp prog (cmpS .quo 3 (.tmp 79) (.const (ji 32)) (ji s32.2.1) (ji 32)) oI fun (x51 : Int) =>
 rdp prog (jI 116 x1 x51) oA fun (x52 : Addr) =>
 rd prog (jL 146 x52) (.one (.int .u32)) w50 fun (x53 : Int) =>
 rdp prog (cmpS .rem 3 (.tmp 83) (.const (ji 32)) (ji s32.2.1) (ji 32)) oI fun (x54 : Int) =>
 rdp prog (cmpS .shl 146 (.const (.int .u32 1)) (.tmp 84) (.int .u32 1) (ji x54)) (.one (.int .u32)) fun (x55 : Int) =>
 z (ior .u32 x53 x55) fun (z56 : Int) =>
 rdp prog (jI 116 x1 x51) oA fun (x57 : Addr) =>
 wu prog (jS 146 x57 (.int .u32 z56)) w50 fun w58 =>
 K34 ((x48.1, x48.2.1, x48.2.2), ()) w58)
 (K34 ((x44.1, x44.2.1, x44.2.2), ()) w47))
 (call prog 117 [jw x1] (.one oS) w33 fun (x59 : Hd3) w60 =>
 R (.tuple #[jw x59, jw s32.1]) w60))
def H119 : Hints := ⟨[(2, 0, [(7, (.one (.int .u64))), (8, (.one (.int .i64)))]), (2, 2, [(9, (.one .slice)), (10, (.one (.int .i64)))]), (1, 3, [(9, (.one .slice))])], [(8, 15), (17, 8)], [], []⟩
theorem S119_calls (a_a : OA) (a_n a_c : Nat) (b_a : OA) (b_n b_c : Nat) (w0 : World) (R : KR) (h : S119 a_a a_n a_c b_a b_n b_c w0 R) : Calls prog 119 #[.slice a_a a_n a_c, .slice b_a b_n b_c] w0 (ret R) :=
 vcFn_sound (H := H119) follows_ Tryz.func119 (Eq.mpr (by kernel_rfl) h)
def S118 (a_a : OA) (a_n a_c : Nat) (b_a : OA) (b_n b_c : Nat) (w0 : World) (R : KR) : Prop :=
 loop (T := (Hd3 × Hd3 × Unit)) ((a_a, a_n, a_c), (b_a, b_n, b_c), ()) w0 fun (g1 : Hd3 × Hd3 × Unit → World → Prop) (s2 : Hd3 × Hd3 × Unit) w3 => ∀ _ : NV,
 br (decide (((s2.2.1.2.1 : Nat) : Int) > 0)) (call prog 119 [jw s2.1, jw s2.2.1] (.many [oS, oS]) w3 fun (x4 : Hd3 × Hd3 × Unit) w5 =>
 g1 ((s2.2.1.1, s2.2.1.2.1, s2.2.1.2.2), (x4.2.1.1, x4.2.1.2.1, x4.2.1.2.2), ()) w5)
 (R (jw s2.1) w3)
def H118 : Hints := ⟨[(2, 0, [(0, (.one .slice)), (1, (.one .slice))])], [], [], []⟩
theorem S118_calls (a_a : OA) (a_n a_c : Nat) (b_a : OA) (b_n b_c : Nat) (w0 : World) (R : KR) (h : S118 a_a a_n a_c b_a b_n b_c w0 R) : Calls prog 118 #[.slice a_a a_n a_c, .slice b_a b_n b_c] w0 (ret R) :=
 vcFn_sound (H := H118) follows_ Tryz.func118 (Eq.mpr (by kernel_rfl) h)
def S116 (a_a : OA) (a_n a_c : Nat) (w0 : World) (R : KR) : Prop :=
 br (decide (((a_n : Nat) : Int) > 2)) (R (.tuple #[ji 0, .bool false]) w0)
 (loop (T := TF) (0, 0, ()) w0 fun (g1 : TF → World → Prop) (s2 : TF) w3 => ∀ _ : NV,
 br (decide (s2.2.1 < ((a_n : Nat) : Int))) (rdp prog (Instr.indexAt 116 (.slice a_a a_n a_c) (ji s2.2.1)) oA fun (x4 : Addr) =>
 rd prog (jL 146 x4) (.one (.int .u32)) w3 fun (x5 : Int) =>
 z (IntKind.wrap .u64 x5) fun (z6 : Int) =>
 z (IntKind.wrap .i64 (32 * s2.2.1)) fun (z7 : Int) =>
 rdp prog (cmpS .shl 108 (.tmp 19) (.tmp 21) (.int .u64 z6) (ji z7)) (.one (.int .u64)) fun (x8 : Int) =>
 z (ior .u64 s2.1 x8) fun (z9 : Int) =>
 z (IntKind.wrap .i64 (s2.2.1 + 1)) fun (z10 : Int) =>
 g1 (z9, z10, ()) w3)
 (z (IntKind.wrap .i64 s2.1) fun (z11 : Int) =>
 R (.tuple #[ji z11, .bool (decide (s2.1 ≤ 100000000000000000))]) w3))
def H116 : Hints := ⟨[(2, 0, [(4, (.one (.int .u64))), (12, (.one (.int .i64)))])], [], [], []⟩
theorem S116_calls (a_a : OA) (a_n a_c : Nat) (w0 : World) (R : KR) (h : S116 a_a a_n a_c w0 R) : Calls prog 116 #[.slice a_a a_n a_c] w0 (ret R) :=
 vcFn_sound (H := H116) follows_ Tryz.func116 (Eq.mpr (by kernel_rfl) h)
def S107 (negative_ : Bool) (num_a : OA) (num_n num_c : Nat) (den_a : OA) (den_n den_c : Nat) (w0 : World) (R : KR) : Prop :=
 wr prog (Instr.alloc 118 true (.tuple #[])) oA w0 fun (x1 : Addr) w2 =>
 join (T := (Hd3 × Hd3 × Unit)) (fun (s4 : Hd3 × Hd3 × Unit) w5 => ∀ _ : NV,
 br negative_ (wu prog (jS 118 x1 (.agg #[(.bool (decide (((s4.1.2.1 : Nat) : Int) > 0))), jw s4.1, jw s4.2.1])) w5 fun w6 =>
 rd prog (loadVar 118 x1) aN w6 fun (x7 : Bool × Hd3 × Hd3 × Unit) =>
 R (.agg #[.bool x7.1, jw x7.2.1, jw x7.2.2.1]) w6)
 (wu prog (jS 118 x1 (.agg #[.bool false, jw s4.1, jw s4.2.1])) w5 fun w8 =>
 rd prog (loadVar 118 x1) aN w8 fun (x9 : Bool × Hd3 × Hd3 × Unit) =>
 R (.agg #[.bool x9.1, jw x9.2.1, jw x9.2.2.1]) w8))
  fun (K3 : Hd3 × Hd3 × Unit → World → Prop) =>
 call prog 118 [.slice num_a num_n num_c, .slice den_a den_n den_c] (.one oS) w2 fun (x10 : Hd3) w11 =>
 call prog 105 [.int .u64 1] (.one oS) w11 fun (x12 : Hd3) w13 =>
 call prog 109 [jw x10, jw x12] (.one oI) w13 fun (x14 : Int) w15 =>
 br (x14 != 0) (call prog 119 [.slice num_a num_n num_c, jw x10] (.many [oS, oS]) w15 fun (x16 : Hd3 × Hd3 × Unit) w17 =>
 call prog 119 [.slice den_a den_n den_c, jw x10] (.many [oS, oS]) w17 fun (x18 : Hd3 × Hd3 × Unit) w19 =>
 K3 ((x16.1.1, x16.1.2.1, x16.1.2.2), (x18.1.1, x18.1.2.1, x18.1.2.2), ()) w19)
 (K3 ((num_a, num_n, num_c), (den_a, den_n, den_c), ()) w15)
def H107 : Hints := ⟨[(0, 14, [(1, (.one .slice)), (2, (.one .slice))])], [], [], []⟩
theorem S107_calls (negative_ : Bool) (num_a : OA) (num_n num_c : Nat) (den_a : OA) (den_n den_c : Nat) (w0 : World) (R : KR) (h : S107 negative_ num_a num_n num_c den_a den_n den_c w0 R) : Calls prog 107 #[.bool negative_, .slice num_a num_n num_c, .slice den_a den_n den_c] w0 (ret R) :=
 vcFn_sound (H := H107) follows_ Tryz.func107 (Eq.mpr (by kernel_rfl) h)
def S83 (a_0 : Bool) (a_1a : OA) (a_1n a_1c : Nat) (a_2a : OA) (a_2n a_2c : Nat) (b_0 : Bool) (b_1a : OA) (b_1n b_1c : Nat) (b_2a : OA) (b_2n b_2c : Nat) (w0 : World) (R : KR) : Prop :=
 wr prog (Instr.box 118 (.agg #[.bool a_0, .slice a_1a a_1n a_1c, .slice a_2a a_2n a_2c])) oA w0 fun (x1 : Addr) w2 =>
 wr prog (Instr.box 118 (.agg #[.bool b_0, .slice b_1a b_1n b_1c, .slice b_2a b_2n b_2c])) oA w2 fun (x3 : Addr) w4 =>
 wr prog (Instr.alloc 118 true (.tuple #[])) oA w4 fun (x5 : Addr) w6 =>
 drw w6 fun w7 => flEx fun F8 =>
 rd prog (jL 116 (Addr.add x1 1)) oS w7 fun (x9 : Hd3) =>
 rd prog (jL 116 (Addr.add x3 2)) oS w7 fun (x10 : Hd3) =>
 flc bel w7 (fun _w12 => True) (fun w11 =>
   call prog 106 [jw x9, jw x10] (.one oS) w11 fun (x13 : Hd3) w14 =>
 (bel w11 w14 ∧ F8 4 [jw x9, jw x10] (jw x13) w14))
  fun (x15 : Hd3) =>
 rd prog (jL 116 (Addr.add x3 1)) oS w7 fun (x16 : Hd3) =>
 rd prog (jL 116 (Addr.add x1 2)) oS w7 fun (x17 : Hd3) =>
 flend bel w7 (fun w19 => F8 4 [jw x9, jw x10] (jw x15) w19 ∧ True) fun w18 =>
 call prog 106 [jw x16, jw x17] (.one oS) w18 fun (x20 : Hd3) w21 =>
 rd prog (jL 116 (Addr.add x1 2)) oS w21 fun (x22 : Hd3) =>
 rd prog (jL 116 (Addr.add x3 2)) oS w21 fun (x23 : Hd3) =>
 call prog 106 [jw x22, jw x23] (.one oS) w21 fun (x24 : Hd3) w25 =>
 rd prog (jL 4 x1) oB w25 fun (x26 : Bool) =>
 rd prog (jL 4 x3) oB w25 fun (x27 : Bool) =>
 br (x26 == x27) (drw w25 fun w28 => flEx fun F29 =>
 rd prog (jL 4 x1) oB w28 fun (x30 : Bool) =>
 flc bel w28 (fun _w32 => True) (fun w31 =>
   call prog 108 [jw x15, jw x20] (.one oS) w31 fun (x33 : Hd3) w34 =>
 (bel w31 w34 ∧ F29 4 [jw x15, jw x20] (jw x33) w34))
  fun (x35 : Hd3) =>
 flend bel w28 (fun w37 => F29 4 [jw x15, jw x20] (jw x35) w37 ∧ True) fun w36 =>
 call prog 107 [.bool x30, jw x35, jw x24] (.one aN) w36 fun (x38 : Bool × Hd3 × Hd3 × Unit) w39 =>
 wu prog (jS 118 x5 (.agg #[.bool x38.1, jw x38.2.1, jw x38.2.2.1])) w39 fun w40 =>
 rd prog (loadVar 118 x5) aN w40 fun (x41 : Bool × Hd3 × Hd3 × Unit) =>
 R (.agg #[.bool x41.1, jw x41.2.1, jw x41.2.2.1]) w40)
 (call prog 109 [jw x15, jw x20] (.one oI) w25 fun (x42 : Int) w43 =>
 br (decide (x42 ≥ 0)) (drw w43 fun w44 => flEx fun F45 =>
 rd prog (jL 4 x1) oB w44 fun (x46 : Bool) =>
 flc bel w44 (fun _w48 => True) (fun w47 =>
   call prog 110 [jw x15, jw x20] (.one oS) w47 fun (x49 : Hd3) w50 =>
 (bel w47 w50 ∧ F45 4 [jw x15, jw x20] (jw x49) w50))
  fun (x51 : Hd3) =>
 flend bel w44 (fun w53 => F45 4 [jw x15, jw x20] (jw x51) w53 ∧ True) fun w52 =>
 call prog 107 [.bool x46, jw x51, jw x24] (.one aN) w52 fun (x54 : Bool × Hd3 × Hd3 × Unit) w55 =>
 wu prog (jS 118 x5 (.agg #[.bool x54.1, jw x54.2.1, jw x54.2.2.1])) w55 fun w56 =>
 rd prog (loadVar 118 x5) aN w56 fun (x57 : Bool × Hd3 × Hd3 × Unit) =>
 R (.agg #[.bool x57.1, jw x57.2.1, jw x57.2.2.1]) w56)
 (drw w43 fun w58 => flEx fun F59 =>
 rd prog (jL 4 x3) oB w58 fun (x60 : Bool) =>
 flc bel w58 (fun _w62 => True) (fun w61 =>
   call prog 110 [jw x20, jw x15] (.one oS) w61 fun (x63 : Hd3) w64 =>
 (bel w61 w64 ∧ F59 4 [jw x20, jw x15] (jw x63) w64))
  fun (x65 : Hd3) =>
 flend bel w58 (fun w67 => F59 4 [jw x20, jw x15] (jw x65) w67 ∧ True) fun w66 =>
 call prog 107 [.bool x60, jw x65, jw x24] (.one aN) w66 fun (x68 : Bool × Hd3 × Hd3 × Unit) w69 =>
 wu prog (jS 118 x5 (.agg #[.bool x68.1, jw x68.2.1, jw x68.2.2.1])) w69 fun w70 =>
 rd prog (loadVar 118 x5) aN w70 fun (x71 : Bool × Hd3 × Hd3 × Unit) =>
 R (.agg #[.bool x71.1, jw x71.2.1, jw x71.2.2.1]) w70))
def H83 : Hints := ⟨[], [(1, 9), (4, 6), (6, 6), (7, 6)], [], []⟩
theorem S83_calls (a_0 : Bool) (a_1a : OA) (a_1n a_1c : Nat) (a_2a : OA) (a_2n a_2c : Nat) (b_0 : Bool) (b_1a : OA) (b_1n b_1c : Nat) (b_2a : OA) (b_2n b_2c : Nat) (w0 : World) (R : KR) (h : S83 a_0 a_1a a_1n a_1c a_2a a_2n a_2c b_0 b_1a b_1n b_1c b_2a b_2n b_2c w0 R) : Calls prog 83 #[.agg #[.bool a_0, .slice a_1a a_1n a_1c, .slice a_2a a_2n a_2c], .agg #[.bool b_0, .slice b_1a b_1n b_1c, .slice b_2a b_2n b_2c]] w0 (ret R) :=
 vcFn_sound (H := H83) follows_ Tryz.func83 (Eq.mpr (by kernel_rfl) h)
def S85 (a_0 : Bool) (a_1a : OA) (a_1n a_1c : Nat) (a_2a : OA) (a_2n a_2c : Nat) (b_0 : Bool) (b_1a : OA) (b_1n b_1c : Nat) (b_2a : OA) (b_2n b_2c : Nat) (w0 : World) (R : KR) : Prop :=
 wr prog (Instr.box 118 (.agg #[.bool a_0, .slice a_1a a_1n a_1c, .slice a_2a a_2n a_2c])) oA w0 fun (x1 : Addr) w2 =>
 wr prog (Instr.box 118 (.agg #[.bool b_0, .slice b_1a b_1n b_1c, .slice b_2a b_2n b_2c])) oA w2 fun (x3 : Addr) w4 =>
 wr prog (Instr.alloc 118 true (.tuple #[])) oA w4 fun (x5 : Addr) w6 =>
 drw w6 fun w7 => flEx fun F8 =>
 rd prog (jL 4 x1) oB w7 fun (x9 : Bool) =>
 rd prog (jL 4 x3) oB w7 fun (x10 : Bool) =>
 rd prog (jL 116 (Addr.add x1 1)) oS w7 fun (x11 : Hd3) =>
 rd prog (jL 116 (Addr.add x3 1)) oS w7 fun (x12 : Hd3) =>
 flc bel w7 (fun _w14 => True) (fun w13 =>
   call prog 106 [jw x11, jw x12] (.one oS) w13 fun (x15 : Hd3) w16 =>
 (bel w13 w16 ∧ F8 9 [jw x11, jw x12] (jw x15) w16))
  fun (x17 : Hd3) =>
 rd prog (jL 116 (Addr.add x1 2)) oS w7 fun (x18 : Hd3) =>
 rd prog (jL 116 (Addr.add x3 2)) oS w7 fun (x19 : Hd3) =>
 flc bel w7 (fun w21 => F8 9 [jw x11, jw x12] (jw x17) w21 ∧ True) (fun w20 =>
   call prog 106 [jw x18, jw x19] (.one oS) w20 fun (x22 : Hd3) w23 =>
 (bel w20 w23 ∧ F8 14 [jw x18, jw x19] (jw x22) w23))
  fun (x24 : Hd3) =>
 flend bel w7 (fun w26 => F8 14 [jw x18, jw x19] (jw x24) w26 ∧ F8 9 [jw x11, jw x12] (jw x17) w26 ∧ True) fun w25 =>
 call prog 107 [.bool (!(x9 == x10)), jw x17, jw x24] (.one aN) w25 fun (x27 : Bool × Hd3 × Hd3 × Unit) w28 =>
 wu prog (jS 118 x5 (.agg #[.bool x27.1, jw x27.2.1, jw x27.2.2.1])) w28 fun w29 =>
 rd prog (loadVar 118 x5) aN w29 fun (x30 : Bool × Hd3 × Hd3 × Unit) =>
 R (.agg #[.bool x30.1, jw x30.2.1, jw x30.2.2.1]) w29
def H85 : Hints := ⟨[], [(1, 15)], [], []⟩
theorem S85_calls (a_0 : Bool) (a_1a : OA) (a_1n a_1c : Nat) (a_2a : OA) (a_2n a_2c : Nat) (b_0 : Bool) (b_1a : OA) (b_1n b_1c : Nat) (b_2a : OA) (b_2n b_2c : Nat) (w0 : World) (R : KR) (h : S85 a_0 a_1a a_1n a_1c a_2a a_2n a_2c b_0 b_1a b_1n b_1c b_2a b_2n b_2c w0 R) : Calls prog 85 #[.agg #[.bool a_0, .slice a_1a a_1n a_1c, .slice a_2a a_2n a_2c], .agg #[.bool b_0, .slice b_1a b_1n b_1c, .slice b_2a b_2n b_2c]] w0 (ret R) :=
 vcFn_sound (H := H85) follows_ Tryz.func85 (Eq.mpr (by kernel_rfl) h)
def S102 (a_0 : Bool) (a_1a : OA) (a_1n a_1c : Nat) (a_2a : OA) (a_2n a_2c : Nat) (w0 : World) (R : KR) : Prop :=
 wr prog (Instr.box 118 (.agg #[.bool a_0, .slice a_1a a_1n a_1c, .slice a_2a a_2n a_2c])) oA w0 fun (x1 : Addr) w2 =>
 wr prog (Instr.alloc 60 true (.tuple #[])) oA w2 fun (x3 : Addr) w4 =>
 rd prog (jL 116 (Addr.add x1 1)) oS w4 fun (x5 : Hd3) =>
 call prog 116 [jw x5] (.many [oI, oB]) w4 fun (x6 : Int × Bool × Unit) w7 =>
 rd prog (jL 116 (Addr.add x1 2)) oS w7 fun (x8 : Hd3) =>
 call prog 116 [jw x8] (.many [oI, oB]) w7 fun (x9 : Int × Bool × Unit) w10 =>
 br (!x6.2.1) (wu prog (jS 60 x3 (.agg #[ji 0, ji 0])) w10 fun w11 =>
 rd prog (loadVar 60 x3) aF w11 fun (x12 : TF) =>
 R (.tuple #[.agg #[ji x12.1, ji x12.2.1], .bool false]) w11)
 (br (!x9.2.1) (wu prog (jS 60 x3 (.agg #[ji 0, ji 0])) w10 fun w13 =>
 rd prog (loadVar 60 x3) aF w13 fun (x14 : TF) =>
 R (.tuple #[.agg #[ji x14.1, ji x14.2.1], .bool false]) w13)
 (join (T := (Int × Unit)) (fun (s16 : Int × Unit) w17 => ∀ _ : NV,
 wu prog (jS 60 x3 (.agg #[ji s16.1, ji x9.1])) w17 fun w18 =>
 rd prog (loadVar 60 x3) aF w18 fun (x19 : TF) =>
 R (.tuple #[.agg #[ji x19.1, ji x19.2.1], .bool true]) w18)
  fun (K15 : Int × Unit → World → Prop) =>
 rd prog (jL 4 x1) oB w10 fun (x20 : Bool) =>
 br x20 (z (IntKind.wrap .i64 (0 - x6.1)) fun (z21 : Int) =>
 K15 (z21, ()) w10)
 (K15 (x6.1, ()) w10)))
def H102 : Hints := ⟨[(0, 28, [(4, (.one (.int .i64)))])], [], [], []⟩
theorem S102_calls (a_0 : Bool) (a_1a : OA) (a_1n a_1c : Nat) (a_2a : OA) (a_2n a_2c : Nat) (w0 : World) (R : KR) (h : S102 a_0 a_1a a_1n a_1c a_2a a_2n a_2c w0 R) : Calls prog 102 #[.agg #[.bool a_0, .slice a_1a a_1n a_1c, .slice a_2a a_2n a_2c]] w0 (ret R) :=
 vcFn_sound (H := H102) follows_ Tryz.func102 (Eq.mpr (by kernel_rfl) h)
def S130 (num_ den_ : Int) (w0 : World) (R : KR) : Prop :=
 wr prog (Instr.alloc 60 true (.tuple #[])) oA w0 fun (x1 : Addr) w2 =>
 br (den_ == 0) (wu prog (jS 60 x1 (.agg #[ji 0, ji 0])) w2 fun w3 =>
 rd prog (loadVar 60 x1) aF w3 fun (x4 : TF) =>
 R (.tuple #[.agg #[ji x4.1, ji x4.2.1], ji 1]) w3)
 (call prog 96 [ji num_] (.one (.one (.int .u64))) w2 fun (x5 : Int) w6 =>
 call prog 96 [ji den_] (.one (.one (.int .u64))) w6 fun (x7 : Int) w8 =>
 call prog 95 [.int .u64 x5, .int .u64 x7] (.one (.one (.int .u64))) w8 fun (x9 : Int) w10 =>
 drw w10 fun w11 =>
 rdp prog (cmpS .quo 108 (.tmp 20) (.tmp 21) (.int .u64 x5) (.int .u64 x9)) (.one (.int .u64)) fun (x12 : Int) =>
 rdp prog (cmpS .quo 108 (.tmp 23) (.tmp 24) (.int .u64 x7) (.int .u64 x9)) (.one (.int .u64)) fun (x13 : Int) =>
 br (decide (x12 > 100000000000000000)) (wu prog (jS 60 x1 (.agg #[ji 0, ji 0])) w11 fun w14 =>
 rd prog (loadVar 60 x1) aF w14 fun (x15 : TF) =>
 R (.tuple #[.agg #[ji x15.1, ji x15.2.1], ji 8]) w14)
 (br (decide (x13 > 100000000000000000)) (wu prog (jS 60 x1 (.agg #[ji 0, ji 0])) w11 fun w16 =>
 rd prog (loadVar 60 x1) aF w16 fun (x17 : TF) =>
 R (.tuple #[.agg #[ji x17.1, ji x17.2.1], ji 8]) w16)
 (z (IntKind.wrap .i64 x12) fun (z18 : Int) =>
 z (IntKind.wrap .i64 x13) fun (z19 : Int) =>
 wr prog (Instr.alloc 60 true (.tuple #[])) oA w11 fun (x20 : Addr) w21 =>
 wu prog (jS 60 x20 (.agg #[ji z18, ji z19])) w21 fun w22 =>
 join (T := Unit) (fun (_s24 : Unit) w25 => ∀ _ : NV,
 rd prog (jL 60 x20) aF w25 fun (x26 : TF) =>
 wu prog (jS 60 x1 (.agg #[ji x26.1, ji x26.2.1])) w25 fun w27 =>
 rd prog (loadVar 60 x1) aF w27 fun (x28 : TF) =>
 R (.tuple #[.agg #[ji x28.1, ji x28.2.1], ji 0]) w27)
  fun (K23 : Unit → World → Prop) =>
 br (!((decide (num_ < 0)) == (decide (den_ < 0)))) (rd prog (jL 2 x20) oI w22 fun (x29 : Int) =>
 z (IntKind.wrap .i64 (0 - x29)) fun (z30 : Int) =>
 wu prog (jS 2 x20 (ji z30)) w22 fun w31 =>
 K23 (()) w31)
 (K23 (()) w22))))
def H130 : Hints := ⟨[(0, 42, [])], [(5, 0)], [], []⟩
theorem S130_calls (num_ den_ : Int) (w0 : World) (R : KR) (h : S130 num_ den_ w0 R) : Calls prog 130 #[ji num_, ji den_] w0 (ret R) :=
 vcFn_sound (H := H130) follows_ Tryz.func130 (Eq.mpr (by kernel_rfl) h)
end Go.Proofs

/- The calculus, tenth part: slices, quotients, shifts. -/


namespace Go.V
open Go Go.RowKit Go.Q

structure TyS (P : Program) (t e : TypeId) (z : Value) (sz bytes : Nat) : Prop where
  ht : P.underlying t = some (.slice e)
  hi : (P.info? e).map (fun i => (i.zero, i.size, i.bytes)) = some (some z, sz, bytes)
theorem TyS.size {P : Program} {t e : TypeId} {z : Value} {sz bytes : Nat} (T : TyS P t e z sz bytes) {w : World} : (sizeOf e).run P w = .ok sz w := by
  obtain ⟨i, h1, _, h2, _⟩ := info_parts T.hi
  subst h2
  refine run_sizeOf ?_
  unfold sizeIs; rw [h1]; simp

theorem least_nat {P : Nat → Prop} (h : ∃ n, P n) : ∃ n, P n ∧ ∀ m, P m → n ≤ m := by
  obtain ⟨n, hn⟩ := h
  induction n using Nat.strongRecOn with
  | ind n ih =>
    by_cases hm : ∃ m, m < n ∧ P m
    · obtain ⟨m, h1, h2⟩ := hm
      exact ih m h1 h2
    · exact ⟨n, hn, fun m hp => by
        rcases Nat.lt_or_ge m n with q | q
        · exact absurd ⟨m, q, hp⟩ hm
        · exact q⟩
theorem loop_gh {G T : Type} {x0 : T} {w0 : World} {body : (T → World → Prop) → T → World → Prop} (I : G → T → World → Prop) (μ : G → Nat) (g0 : G) (h0 : I g0 x0 w0)
    (h : ∀ g x w, I g x w → ∀ again, (∀ g' x' w', I g' x' w' → μ g' < μ g → again x' w') → body again x w) : loop x0 w0 body := by
  classical
  let P : T → World → Nat → Prop := fun x w n => ∃ g, I g x w ∧ μ g = n
  let m : T → World → Nat := fun x w => if hx : ∃ n, P x w n then Classical.choose (least_nat hx) else 0
  have spec : ∀ x w, (∃ g, I g x w) → ∃ g, I g x w ∧ μ g = m x w := by
    intro x w ⟨g, hg⟩
    have hx : ∃ n, P x w n := ⟨μ g, g, hg, rfl⟩
    have := (Classical.choose_spec (least_nat hx)).1
    simp only [m, hx, dif_pos]; exact this
  have least : ∀ x w g, I g x w → m x w ≤ μ g := by
    intro x w g hg
    have hx : ∃ n, P x w n := ⟨μ g, g, hg, rfl⟩
    simp only [m, hx, dif_pos]
    exact (Classical.choose_spec (least_nat hx)).2 _ ⟨g, hg, rfl⟩
  refine ⟨fun x w => ∃ g, I g x w, m, ⟨g0, h0⟩, fun x w hI => ?_⟩
  obtain ⟨g, hg, hm⟩ := spec x w hI
  exact h g x w hg _ fun g' x' w' hg' hl => ⟨⟨g', hg'⟩, by have := least x' w' g' hg'; omega⟩

/-! ### elements -/
theorem idx_mk {P : Program} {t e : TypeId} {z : Value} {sz bytes : Nat} (T : TyS P t e z sz bytes) {a : Option Addr} {ad : Addr} {n c j : Nat} {k : IntKind} {i : Int} {K : Addr → Prop} (hj : i = (j : Int)) (h : j < n) (ha : a = some ad) (hk : K (ad.add (j * sz))) :
    rdp P (Instr.indexAt t (.slice a n c) (.int k i)) (.one .addr) K := by
  subst hj ha
  refine ⟨ad.add (j * sz), fun w => ?_, hk⟩
  unfold Instr.indexAt asIntOf
  simp only [Sem.run_bind, Sem.run_pure, Result.andThen_ok, run_underlying T.ht]
  rw [if_pos ⟨by omega, by omega⟩]
  simp only [Sem.run_bind, T.size, Result.andThen_ok, Int.toNat_natCast]
  rfl
theorem at_mk {P : Program} {t e : TypeId} {z : Value} {bytes : Nat} (T : TyS P t e z 1 bytes) (he : scal P e = true) {w : World} {a : Option Addr} {n c j : Nat} {xs : List Value} (H : Sl w a n c 1 xs) {k : IntKind} {i : Int} {s : Sh} {v : Value} {x : s.T} {K : s.T → Prop}
    (hj : i = (j : Int)) (hv : xs[j]? = some v) (hx : s.get v = some x) (hk : K x) :
    rdp P (Instr.indexAt t (.slice a n c) (.int k i)) (.one .addr) fun ad => rd P (Instr.loadAt e (.pointer (some ad))) (.one s) w K := by
  obtain ⟨ad, h1, h2, _⟩ := H.at' j v hv
  have hn : j < n := by have := (List.getElem?_eq_some_iff.1 hv).1; have := H.len; omega
  refine idx_mk T hj hn h1 ?_
  rw [Nat.mul_one]
  exact rd_cell he h2 hx hk
theorem at_nat {P : Program} {t e : TypeId} {z : Value} {bytes : Nat} (T : TyS P t e z 1 bytes) (he : scal P e = true) {w : World} {a : Option Addr} {n c j : Nat} {kk : IntKind} {xs : List Nat} (H : Sl w a n c 1 (nats kk xs)) {k : IntKind} {i : Int} {K : Int → Prop}
    (hj : i = (j : Int)) (hn : j < n) (hk : ∀ x : Nat, xs[j]? = some x → K (x : Int)) :
    rdp P (Instr.indexAt t (.slice a n c) (.int k i)) (.one .addr) fun ad => rd P (Instr.loadAt e (.pointer (some ad))) (.one (.int kk)) w K := by
  have hl := H.nat
  obtain ⟨x, hx⟩ : ∃ x, xs[j]? = some x := ⟨_, List.getElem?_eq_getElem (by omega)⟩
  exact at_mk T he H (s := .int kk) (v := .int kk (x : Int)) hj (by simp [nats, hx]) (by simp [Sh.get]) (hk x hx)
theorem at_int {P : Program} {t e : TypeId} {z : Value} {bytes : Nat} (T : TyS P t e z 1 bytes) (he : scal P e = true) {w : World} {a : Option Addr} {n c j : Nat} {kk : IntKind} {xs : List Int} (H : Sl w a n c 1 (ints kk xs)) {k : IntKind} {i : Int} {K : Int → Prop}
    (hj : i = (j : Int)) (hn : j < n) (hk : ∀ x : Int, xs[j]? = some x → K x) :
    rdp P (Instr.indexAt t (.slice a n c) (.int k i)) (.one .addr) fun ad => rd P (Instr.loadAt e (.pointer (some ad))) (.one (.int kk)) w K := by
  have hl := H.int
  obtain ⟨x, hx⟩ : ∃ x, xs[j]? = some x := ⟨_, List.getElem?_eq_getElem (by omega)⟩
  exact at_mk T he H (s := .int kk) (v := .int kk x) hj (by simp [ints, hx]) (by simp [Sh.get]) (hk x hx)
theorem at_hdr {P : Program} {t e : TypeId} {z : Value} {bytes : Nat} (T : TyS P t e z 1 bytes) (he : scal P e = true) {w : World} {a : Option Addr} {n c j : Nat} {hs : List Hdr} (H : Sl w a n c 1 (hs.map hv)) {k : IntKind} {i : Int} {K : (Option Addr × Nat × Nat) → Prop}
    (hj : i = (j : Int)) (hn : j < n) (hk : ∀ x : Hdr, hs[j]? = some x → K x) :
    rdp P (Instr.indexAt t (.slice a n c) (.int k i)) (.one .addr) fun ad => rd P (Instr.loadAt e (.pointer (some ad))) (.one .slice) w K := by
  have hl : hs.length = n := by have := H.len; simpa using this
  obtain ⟨x, hx⟩ : ∃ x, hs[j]? = some x := ⟨_, List.getElem?_eq_getElem (by omega)⟩
  exact at_mk T he H (s := .slice) (v := hv x) hj (by simp [hx]) rfl (hk x hx)

/-! ### elements of several cells -/
theorem add_add (a : Addr) (m o : Nat) : (a.add m).add o = a.add (m + o) := by
  rcases Nat.eq_zero_or_pos m with h | h
  · subst h; rw [Go.Q.add_zero, Nat.zero_add]
  · rcases Nat.eq_zero_or_pos o with h' | h'
    · subst h'; rw [Go.Q.add_zero, Nat.add_zero]
    · obtain ⟨m, rfl⟩ : ∃ k, m = k + 1 := ⟨m - 1, by omega⟩
      obtain ⟨o, rfl⟩ : ∃ k, o = k + 1 := ⟨o - 1, by omega⟩
      rw [addr_succ, addr_succ, show m + 1 + (o + 1) = (m + 1 + o) + 1 by omega, addr_succ]
      show (⟨a.block, a.off + (m + 1) + (o + 1), none⟩ : Addr) = ⟨a.block, a.off + (m + 1 + o + 1), none⟩
      congr 1; omega
theorem flat_get {α : Type} {enc : α → List Value} {sz : Nat} (he : ∀ a, (enc a).length = sz) : ∀ {L : List α} {j : Nat} {p : α} (_ : L[j]? = some p) {o : Nat} (_ : o < sz), (L.flatMap enc)[j * sz + o]? = (enc p)[o]?
  | [], j, p, hp, o, ho => by simp at hp
  | x :: L, 0, p, hp, o, ho => by
    simp at hp; subst hp
    rw [Nat.zero_mul, Nat.zero_add, List.flatMap_cons, List.getElem?_append_left (by rw [he]; exact ho)]
  | x :: L, j + 1, p, hp, o, ho => by
    simp at hp
    have e : (j + 1) * sz + o = sz + (j * sz + o) := by rw [Nat.add_mul, Nat.one_mul]; omega
    rw [e, List.flatMap_cons, List.getElem?_append_right (by rw [he]; omega), he, Nat.add_sub_cancel_left]
    exact flat_get he hp ho
theorem flat_len {α : Type} {enc : α → List Value} {sz : Nat} (he : ∀ a, (enc a).length = sz) : ∀ (L : List α), (L.flatMap enc).length = L.length * sz
  | [] => by simp
  | x :: L => by rw [List.flatMap_cons, List.length_append, he, flat_len he L, List.length_cons, Nat.add_mul, Nat.one_mul, Nat.add_comm]
theorem idx_agg {P : Program} {t e : TypeId} {z : Value} {sz bytes : Nat} (T : TyS P t e z sz bytes) {α : Type} {enc : α → List Value} (he : ∀ a, (enc a).length = sz) (h0 : 0 < sz) {w : World} {a : Option Addr} {n c j : Nat} {L : List α} (H : Sl w a n c sz (L.flatMap enc)) {k : IntKind} {i : Int} {p : α} {K : Addr → Prop}
    (hj : i = (j : Int)) (hp : L[j]? = some p) (hk : ∀ ad, (∀ o v, (enc p)[o]? = some v → w.cell? (ad.add o) = some v) → K ad) : rdp P (Instr.indexAt t (.slice a n c) (.int k i)) (.one .addr) K := by
  have hlen := H.len
  rw [flat_len he] at hlen
  have hL : L.length = n := Nat.eq_of_mul_eq_mul_right h0 hlen
  have hjl := (List.getElem?_eq_some_iff.1 hp).1
  obtain ⟨u, hu⟩ : ∃ u, (enc p)[0]? = some u := ⟨_, List.getElem?_eq_getElem (by rw [he]; exact h0)⟩
  have hu' := flat_get he hp h0
  rw [hu] at hu'
  obtain ⟨ad, h1, _, _⟩ := H.at' _ _ hu'
  refine idx_mk T hj (by omega) h1 (hk _ fun o v hv => ?_)
  have ho : o < sz := by have := (List.getElem?_eq_some_iff.1 hv).1; rw [he] at this; exact this
  have hg := flat_get he hp ho
  rw [hv] at hg
  obtain ⟨ad', h2, h3, _⟩ := H.at' _ _ hg
  rw [h1] at h2; cases h2
  rw [add_add]; exact h3
theorem at_agg {P : Program} {t e : TypeId} {z : Value} {sz bytes : Nat} (T : TyS P t e z sz bytes) (ht : aggOf P e sz = true) {α : Type} {enc : α → List Value} (he : ∀ a, (enc a).length = sz) (h0 : 0 < sz) {w : World} {a : Option Addr} {n c j : Nat} {L : List α} (H : Sl w a n c sz (L.flatMap enc)) {k : IntKind} {i : Int} {p : α} {l : List Sh} {x : LT l} {K : LT l → Prop}
    (hj : i = (j : Int)) (hp : L[j]? = some p) (hx : Lget l (enc p) = some x) (hk : K x) : rdp P (Instr.indexAt t (.slice a n c) (.int k i)) (.one .addr) fun ad => rd P (Instr.loadAt e (.pointer (some ad))) (.agg l) w K :=
  idx_agg T he h0 H hj hp fun ad h => rd_cells (by rw [he]; exact ht) h hx hk

theorem wu_own {P : Program} {e : TypeId} (hs : sizeIs P e 1 = true) {w : World} {B : Nat} {e' : TypeId} {ad : Addr} {n c j : Nat} {xs : List Value} (O : Own w B e' 1 (some ad) n c xs) {v : Value} {K : World → Prop} (hn : j < n) (hp : v.oneCell' = true)
    (hk : ∀ w', Own w' B e' 1 (some ad) n c (xs.set j v) → w.grownBy w' (blk (some ad)) → w'.heap.size = w.heap.size → K w') :
    wu P (Instr.storeAt e (.pointer (some (ad.add j))) v) w K := by
  have hvc : v.cells = #[v] := by cases v <;> first | rfl | (simp [Value.oneCell'] at hp)
  have hl : xs.length = n := by have := O.1; omega
  obtain ⟨u, hu⟩ : ∃ u, xs[j]? = some u := ⟨_, List.getElem?_eq_getElem (by omega)⟩
  obtain ⟨ad', h1, hc, hfz, _⟩ := O.cell (j := j) hu
  cases h1
  have hg := setCell_grown w (ad.add j) v
  rw [add_block] at hg
  refine ⟨_, ?_, hk _ (O.set j v) hg (setCell_size _ _ _)⟩
  unfold Instr.storeAt Instr.sureAddr storeVar
  simp only [Sem.run_bind, Sem.run_pure, Result.andThen_ok, run_sizeOf hs, hvc, List.size_toArray, List.length_cons, List.length_nil, Nat.zero_add, ne_eq, not_true_eq_false, if_false]
  simp only [storeCells, Sem.run_bind]
  rw [add_zero, run_store P w (ad.add j) v .plain hp, hc]
  simp only [hfz, Bool.false_eq_true, if_false, Result.andThen_ok, Sem.run_pure]
theorem set_mk {P : Program} {t e : TypeId} {z : Value} {bytes : Nat} (T : TyS P t e z 1 bytes) {w : World} {B : Nat} {a : Option Addr} {n c j : Nat} {xs : List Value} (O : Own w B e 1 a n c xs) {k : IntKind} {i : Int} {v : Value} {K : World → Prop}
    (hj : i = (j : Int)) (hn : j < n) (hp : v.oneCell' = true)
    (hk : ∀ w', Own w' B e 1 a n c (xs.set j v) → w.grownBy w' (blk a) → w'.heap.size = w.heap.size → K w') :
    rdp P (Instr.indexAt t (.slice a n c) (.int k i)) (.one .addr) fun ad => wu P (Instr.storeAt e (.pointer (some ad)) v) w K := by
  have hl : xs.length = n := by have := O.1; omega
  obtain ⟨u, hu⟩ : ∃ u, xs[j]? = some u := ⟨_, List.getElem?_eq_getElem (by omega)⟩
  obtain ⟨ad, h1, _⟩ := O.cell (j := j) hu
  subst h1
  refine idx_mk T hj hn rfl ?_
  rw [Nat.mul_one]
  refine wu_own ?_ O hn hp hk
  obtain ⟨i, h1, _, h2, _⟩ := info_parts T.hi
  unfold sizeIs; rw [h1]; simp [h2]

/-! ### literals, make, append -/
theorem wr_lit {P : Program} {t e : TypeId} {z : Value} {sz bytes : Nat} (T : TyS P t e z sz bytes) {w : World} {n : Nat} {parts : Array (Nat × Value)} {k : (Option Addr × Nat × Nat) → World → Prop} (cells : Array Value)
    (hf : Instr.fill (fun i => some (i * sz, sz)) ((Array.range (n * sz)).map (z.cells[· % z.cells.size]!)) parts.toList = some cells) (h0 : n * sz ≠ 0) (hl : n * sz ≤ 16777216) (hc : cells.size = n * sz) (hm : n ≤ maxLen)
    (hk : ∀ ad w', (∀ B, B ≤ w.heap.size → Own w' B e sz (some ad) n n cells.toList) → bel w w' → ad.block = w.heap.size → w'.heap.size = w.heap.size + 1 → k (some ad, n, n) w') :
    wr P (Instr.buildSlice t n parts) (.one .slice) w k := by
  refine ⟨(some ⟨w.heap.size, 0, none⟩, n, n), w.alloc (.cells cells e), ?_, hk _ _ (fun B hB => Own.lit w B e sz n cells hB hc hm) (bel_alloc _ _) rfl (by simp)⟩
  obtain ⟨i, hi0, hz0, hz1, hz2⟩ := info_parts T.hi
  subst hz1
  unfold Instr.buildSlice
  simp only [Sem.run_bind, run_underlying T.ht, Result.andThen_ok, T.size]
  rw [if_neg (by omega), if_neg h0]
  simp only [Sem.run_bind, Sem.run_pure, Result.andThen_ok]
  have hzv : (zeroValue e).run P w = .ok z w := by
    unfold zeroValue typeInfo
    simp only [Sem.run_bind, run_program, Result.andThen_ok, hi0, Sem.run_pure, hz0]
  simp only [hzv, Result.andThen_ok, hf]
  rfl
theorem fill_one (sz : Nat) (v : Value) (zs : Array Value) (h1 : v.cells.size = sz) (h2 : zs.size = sz) : Instr.fill (fun i => some (i * sz, sz)) zs [(0, v)] = some v.cells := by
  unfold Instr.fill
  simp only [Nat.zero_mul, Nat.zero_add, h1, h2, ne_eq, not_true_eq_false, decide_false, Nat.lt_irrefl, gt_iff_lt, Bool.or_self, Bool.false_eq_true, if_false]
  unfold Instr.fill
  congr 1
  have key : ∀ (l : List Value) (m : Nat) (cs : Array Value), m + l.length = cs.size → (l.zipIdx m).foldl (fun (cs : Array Value) (p : Value × Nat) => cs.setIfInBounds p.2 p.1) cs = (cs.toList.take m ++ l).toArray := by
    intro l
    induction l with
    | nil => intro m cs h; simp at h; simp [h, List.take_of_length_le]
    | cons x l ih =>
      intro m cs h
      simp only [List.length_cons] at h
      simp only [List.zipIdx_cons, List.foldl_cons]
      rw [ih (m + 1) _ (by simp; omega)]
      congr 1
      rw [Array.toList_setIfInBounds]
      have hm : m < cs.toList.length := by simp; omega
      rw [List.take_set, List.take_add_one]
      have h3 : (List.take m cs.toList).length = m := by rw [List.length_take]; omega
      rw [List.getElem?_eq_getElem hm, List.set_append, if_neg (by omega), h3]
      simp
  have := key v.cells.toList 0 zs (by simp; omega)
  simp only [List.take_zero, List.nil_append] at this
  rw [← Array.foldl_toList, Array.toList_zipIdx, this]
theorem wr_app1 {P : Program} {t e : TypeId} {z : Value} {sz bytes : Nat} (T : TyS P t e z sz bytes) {w : World} {B : Nat} {sa : Option Addr} {n c : Nat} {xs : List Value} (O : Own w B e sz sa n c xs) {ty : TypeId} {v : Value} {k : (Option Addr × Nat × Nat) → World → Prop}
    (hB : B ≤ w.heap.size) (hz : z.cells.size = sz) (hs : 0 < sz) (hsl : sz ≤ 16777216) (hv : v.cells.size = sz) (hp : plainV v.cells.toList = true) (hb : (n + 1) * bytes ≤ 140737488355328) (hn : n + 1 ≤ maxLen)
    (hk : ∀ a' c' w', Own w' B e sz a' (n + 1) c' (xs ++ v.cells.toList) → w.grownBy w' (blk sa) → (blk a' = blk sa ∨ (∀ b, blk a' = some b → w.heap.size ≤ b)) → w.heap.size ≤ w'.heap.size → k (a', n + 1, c') w') :
    wr P (Instr.buildSlice t 1 #[(0, v)]) (.one .slice) w fun x w1 => wr P (Builtin.append_ #[t, t] ty #[.slice sa n c, .slice x.1 x.2.1 x.2.2]) (.one .slice) w1 k := by
  refine wr_lit T v.cells (fill_one sz v _ hv (by simp)) (by omega) (by omega) (by omega) (by unfold maxLen; omega) fun ad w1 L h1 h2 h3 => ?_
  have O1 : Own w1 B e sz sa n c xs := O.kept h1
  have L1 := L B hB
  have hl : v.cells.toList.length = 1 * sz := by simpa using hv
  obtain ⟨a', c', w2, hr, hA⟩ := run_app (P := P) w1 t ty B e z sz bytes T.ht T.hi hz hs sa n c xs O1 ad 1 1 v.cells.toList hl (fun j u hj => by
      obtain ⟨ad', q1, q2, _⟩ := L1.cell (j := j) hj
      cases q1; exact q2) (fun u hu => by
      unfold plainV at hp; rw [List.all_eq_true] at hp; exact hp u hu) hb hn (by omega)
  refine ⟨(a', n + 1, c'), w2, hr, hk a' c' w2 hA.own ((grown_of_bel h1 _).trans hA.grown) ?_ (by have := hA.size; omega)⟩
  rcases hA.at' with q | q | q
  · exact .inl q
  · exact .inr fun b hb => by rw [q] at hb; cases hb; omega
  · exact .inr fun b hb => by rw [q] at hb; cases hb
theorem wr_make {P : Program} {t e : TypeId} {z : Value} {sz bytes : Nat} (T : TyS P t e z sz bytes) {w : World} {kl kc : IntKind} {L C : Int} {k : (Option Addr × Nat × Nat) → World → Prop} (n : Nat) (hL : L = (n : Int)) (hC : C = (n : Int)) (hb : bytes * n ≤ 281474976710656) (hn : n ≤ maxLen)
    (hk : ∀ ad w', (∀ B, B ≤ w.heap.size → Own w' B e sz (some ad) n n (madeCells z.cells (n * sz)).toList) → bel w w' → ad.block = w.heap.size → w'.heap.size = w.heap.size + 1 → k (some ad, n, n) w') :
    wr P (Instr.makeSlice t (.int kl L) (.int kc C)) (.one .slice) w k := by
  obtain ⟨i, hi0, hz0, hz1, hz2⟩ := info_parts T.hi
  subst hL hC hz1 hz2
  have h63' : (n : Int) ≤ 9223372036854775807 := by unfold maxLen at hn; omega
  have hb' : (i.bytes : Int) * (n : Int) ≤ 281474976710656 := by
    have h : ((i.bytes * n : Nat) : Int) ≤ 281474976710656 := by omega
    rwa [Int.natCast_mul] at h
  have hr := run_make (P := P) w t e i z T.ht hi0 hz0 kl kc n n (by omega) (Int.le_refl _) hb' h63'
  simp only [Int.toNat_natCast] at hr
  exact ⟨(some ⟨w.heap.size, 0, none⟩, n, n), _, hr, hk _ _ (fun B hB => World.ownsRow_lit w _ n hB hn (size_madeCells _ _)) (bel_alloc _ _) rfl (by simp)⟩
theorem wr_make0 {P : Program} {t e : TypeId} {z : Value} {sz bytes : Nat} (T : TyS P t e z sz bytes) {w : World} {kl kc : IntKind} {C : Int} {k : (Option Addr × Nat × Nat) → World → Prop} (c : Nat) (hC : C = (c : Int)) (hb : bytes * c ≤ 281474976710656) (hn : c ≤ maxLen)
    (hk : ∀ ad w', (∀ B, B ≤ w.heap.size → Own w' B e sz (some ad) 0 c []) → bel w w' → ad.block = w.heap.size → w'.heap.size = w.heap.size + 1 → k (some ad, 0, c) w') :
    wr P (Instr.makeSlice t (.int kl 0) (.int kc C)) (.one .slice) w k := by
  obtain ⟨i, hi0, hz0, hz1, hz2⟩ := info_parts T.hi
  subst hC hz1 hz2
  have h63' : (c : Int) ≤ 9223372036854775807 := by unfold maxLen at hn; omega
  have hb' : (i.bytes : Int) * (c : Int) ≤ 281474976710656 := by
    have h : ((i.bytes * c : Nat) : Int) ≤ 281474976710656 := by omega
    rwa [Int.natCast_mul] at h
  have hr := run_make (P := P) w t e i z T.ht hi0 hz0 kl kc 0 c (Int.le_refl _) (by omega) hb' h63'
  simp only [Int.toNat_natCast, Int.toNat_zero] at hr
  exact ⟨(some ⟨w.heap.size, 0, none⟩, 0, c), _, hr, hk _ _ (fun B hB => World.ownsRow_made w _ c hB hn (size_madeCells _ _)) (bel_alloc _ _) rfl (by simp)⟩
theorem wr_lit0 {P : Program} {t e : TypeId} {z : Value} {sz bytes : Nat} (T : TyS P t e z sz bytes) {w : World} {k : (Option Addr × Nat × Nat) → World → Prop}
    (hk : ∀ ad w', (∀ B, B ≤ w.heap.size → Own w' B e sz (some ad) 0 0 []) → bel w w' → ad.block = w.heap.size → w'.heap.size = w.heap.size + 1 → k (some ad, 0, 0) w') :
    wr P (Instr.buildSlice t 0 #[]) (.one .slice) w k := by
  refine ⟨(some ⟨w.heap.size, 0, none⟩, 0, 0), w.alloc (.cells #[] e), ?_, hk _ _ (fun B hB => Own.lit w B e sz 0 #[] hB (by simp) (by unfold maxLen; omega)) (bel_alloc _ _) rfl (by simp)⟩
  unfold Instr.buildSlice
  simp only [Sem.run_bind, run_underlying T.ht, Result.andThen_ok, T.size]
  simp [Instr.fill, newRow, Array.range_zero']
  rfl
theorem wr_app {P : Program} {t e : TypeId} {z : Value} {sz bytes : Nat} (T : TyS P t e z sz bytes) {w : World} {B : Nat} {sa : Option Addr} {n c : Nat} {xs : List Value} (O : Own w B e sz sa n c xs) {ty : TypeId} {ad : Addr} {m mc : Nat} {ys : List Value} (H : Sl w (some ad) m mc sz ys) {k : (Option Addr × Nat × Nat) → World → Prop}
    (hB : B ≤ w.heap.size) (hz : z.cells.size = sz) (hs : 0 < sz) (hp : plainV ys = true) (hb : (n + m) * bytes ≤ 140737488355328) (hn : n + m ≤ maxLen)
    (hk : ∀ a' c' w', Own w' B e sz a' (n + m) c' (xs ++ ys) → w.grownBy w' (blk sa) → (blk a' = blk sa ∨ (∀ b, blk a' = some b → w.heap.size ≤ b)) → w.heap.size ≤ w'.heap.size → k (a', n + m, c') w') :
    wr P (Builtin.append_ #[t, t] ty #[.slice sa n c, .slice (some ad) m mc]) (.one .slice) w k := by
  obtain ⟨a', c', w2, hr, hA⟩ := run_app (P := P) w t ty B e z sz bytes T.ht T.hi hz hs sa n c xs O ad m mc ys H.len (fun j u hj => by
      obtain ⟨ad', q1, q2, _⟩ := H.at' j u hj
      cases q1; exact q2) (fun u hu => by
      unfold plainV at hp; rw [List.all_eq_true] at hp; exact hp u hu) hb hn hB
  refine ⟨(a', n + m, c'), w2, hr, hk a' c' w2 hA.own hA.grown ?_ hA.size⟩
  rcases hA.at' with q | q | q
  · exact .inl q
  · exact .inr fun b hb => by rw [q] at hb; cases hb; omega
  · exact .inr fun b hb => by rw [q] at hb; cases hb
theorem equal_nil {P : Program} {t e : TypeId} {a : Option Addr} {n c : Nat} {w : World} (ht : P.underlying t = some (.slice e)) : (Op.equal t (.slice a n c) (.slice none 0 0)).run P w = .ok a.isNone w := by
  have key : ∀ d : Nat, (Op.equalIn (d + 1) t (.slice a n c) (.slice none 0 0)).run P w = .ok a.isNone w := by
    intro d
    cases a <;> simp [Op.equalIn, run_underlying ht]
  exact key 9999
theorem rd_nil {P : Program} {t e : TypeId} {z : Value} {sz bytes : Nat} (T : TyS P t e z sz bytes) {x y : Operand} {a : Option Addr} {n c : Nat} {w : World} {k : Bool → Prop} (hk : k a.isNone) : rd P (cmpS .eql t x y (.slice a n c) (.slice none 0 0)) (.one .bool) w k := by
  refine ⟨a.isNone, fun w' _ => ?_, hk⟩
  unfold cmpS eqGuard Go.binOp
  simp only [Bool.not_true, Bool.false_eq_true, if_false, Sem.run_bind, Sem.run_pure, Result.andThen_ok, equal_nil T.ht]
  rfl
theorem rd_notnil {P : Program} {t e : TypeId} {z : Value} {sz bytes : Nat} (T : TyS P t e z sz bytes) {x y : Operand} {a : Option Addr} {n c : Nat} {w : World} {k : Bool → Prop} (hk : k a.isSome) : rd P (cmpS .neq t x y (.slice a n c) (.slice none 0 0)) (.one .bool) w k := by
  refine ⟨a.isSome, fun w' _ => ?_, hk⟩
  unfold cmpS eqGuard Go.binOp
  simp only [Bool.not_true, Bool.false_eq_true, if_false, Sem.run_bind, Sem.run_pure, Result.andThen_ok, equal_nil T.ht]
  cases a <;> rfl
theorem bel.own {a w w' : World} {B : Nat} {e : TypeId} {sz : Nat} {sa : Option Addr} {n c : Nat} {xs : List Value} (h : bel a w) (O : Own w B e sz sa n c xs) (hg : w.grownBy w' (blk sa)) (hB : a.heap.size ≤ B) : bel a w' :=
  h.grown hg fun k hk => Nat.le_trans hB (O.lt k hk).1

/-! ### quotients and shifts -/
theorem rdp_bin {P : Program} {op : BinOp} {t : TypeId} {x y : Operand} {a b : Value} {k : IntKind} {v : Int} {K : Int → Prop} (hop : (op matches .eql | .neq) = false) (h : ∀ w, (Go.binOp op t a b).run P w = .ok (.int k v) w) (hk : K v) :
    rdp P (cmpS op t x y a b) (.one (.int k)) K := by
  refine ⟨v, fun w => ?_, hk⟩
  unfold cmpS eqGuard
  cases op <;> first | (cases hop; done) | (simp only [Bool.not_false, if_true, Sem.run_bind, Sem.run_pure, Result.andThen_ok]; exact h w)
theorem rdp_quo {P : Program} {t : TypeId} {x y : Operand} {k : IntKind} {a b : Int} {K : Int → Prop} (hb : b ≠ 0) (hk : K (k.wrap (a.tdiv b))) : rdp P (cmpS .quo t x y (.int k a) (.int k b)) (.one (.int k)) K := by
  refine rdp_bin rfl (fun w => ?_) hk
  unfold Go.binOp Op.intDiv
  simp [hb]
theorem rdp_rem {P : Program} {t : TypeId} {x y : Operand} {k : IntKind} {a b : Int} {K : Int → Prop} (hb : b ≠ 0) (hk : K (a.tmod b)) : rdp P (cmpS .rem t x y (.int k a) (.int k b)) (.one (.int k)) K := by
  refine rdp_bin rfl (fun w => ?_) hk
  unfold Go.binOp Op.intDiv
  simp [hb]
theorem rdp_shr {P : Program} {t : TypeId} {x y : Operand} {k k' : IntKind} {a b : Int} (m : Nat) {K : Int → Prop} (hb : b = (m : Int)) (hm : m ≤ k.bits) (hk : K (a / 2 ^ m)) : rdp P (cmpS .shr t x y (.int k a) (.int k' b)) (.one (.int k)) K := by
  refine rdp_bin rfl (fun w => ?_) hk
  subst hb
  unfold Go.binOp Op.shift
  have : min m k.bits = m := by omega
  have h2 : ¬ ((m : Int) < 0) := by omega
  simp only [h2, if_false, Int.toNat_natCast, this, Sem.run_pure]
  rw [Int.fdiv_eq_ediv_of_nonneg _ (Int.pow_nonneg (by omega))]
theorem rdp_shl {P : Program} {t : TypeId} {x y : Operand} {k k' : IntKind} {a b : Int} (m : Nat) {K : Int → Prop} (hb : b = (m : Int)) (hm : m ≤ k.bits) (hk : K (k.wrap (a * 2 ^ m))) : rdp P (cmpS .shl t x y (.int k a) (.int k' b)) (.one (.int k)) K := by
  refine rdp_bin rfl (fun w => ?_) hk
  subst hb
  unfold Go.binOp Op.shift
  have : min m k.bits = m := by omega
  have h2 : ¬ ((m : Int) < 0) := by omega
  simp only [h2, if_false, Int.toNat_natCast, this, Sem.run_pure]

/-! ### parts of slices -/
theorem TyS.elem {P : Program} {t e : TypeId} {z : Value} {sz bytes : Nat} (T : TyS P t e z sz bytes) : P.elem t = e := by
  unfold Program.elem; rw [T.ht]
theorem sl_to {P : Program} {t e : TypeId} {z : Value} {sz bytes : Nat} (T : TyS P t e z sz bytes) {a : Option Addr} {n c m : Nat} {k : IntKind} {i : Int} {K : (Option Addr × Nat × Nat) → Prop} (hi : i = (m : Int)) (hm : m ≤ c) (hk : K (a, m, c)) :
    rdp P (Instr.sliceAt t (.slice a n c) none (some (.int k i)) none) (.one .slice) K := by
  subst hi
  refine ⟨(a, m, c), fun w => ?_, hk⟩
  have ht : P.underlying t = some (.slice (P.elem t)) := by rw [T.elem]; exact T.ht
  rw [run_sliceAt_slice _ _ _ _ _ _ ht, run_slice_h _ _ _ _ _ ht _ _ (by omega) (by omega), T.elem, T.size]
  simp only [Result.andThen_ok, sliced, Int.toNat_natCast, Nat.sub_zero, Nat.zero_mul]
  cases a with
  | none => simp [VS.val, Sh.val]
  | some ad => simp [VS.val, Sh.val, add_zero]
end Go.V

/- Package fraction: sums of numbers. -/



namespace Go.Proofs.YtajpdnphamomjaaGreat
open Go.RowKit Go.Q Go.Q.Num Go.V

theorem tyNat : TyS Tryz.prog 116 146 (.int .u32 0) 1 4 := ⟨by kernel_rfl, by kernel_rfl⟩
theorem scU32 : scal Tryz.prog 146 = true := by kernel_rfl
abbrev Hd := Option Addr × Nat × Nat
abbrev NF (w : World) (s : Hd) (x : Nat) : Prop := NumAt 4294967296 .u32 w s.1 s.2.1 s.2.2 x
theorem callF {f : FuncId} {args : List Value} {w : World} {x L : Nat} (h : Calls Tryz.prog f args.toArray w (QNum 4294967296 .u32 x L w)) : call Tryz.prog f args (.one (.one .slice)) w (fun v w' => NF w' v x ∧ v.2.1 ≤ L ∧ bel w w') :=
  Calls.mono h fun _ _ ⟨a, n, c, he, h1, h2, h3, _⟩ => ⟨(a, n, c), he, h1, h2, h3⟩
theorem callT {f : FuncId} {args : List Value} {w : World} {a : Option Addr} {n c x : Nat} (h : Calls Tryz.prog f args.toArray w (QTrim 4294967296 .u32 a n c x w)) : call Tryz.prog f args (.one (.one .slice)) w (fun v w' => v.1 = a ∧ v.2.2 = c ∧ NF w' v x ∧ v.2.1 ≤ n ∧ bel w w') :=
  Calls.mono h fun _ _ ⟨n', he, h1, h2, h3⟩ => ⟨(a, n', c), he, rfl, rfl, h1, h2, h3.below⟩
theorem callC {f : FuncId} {args : List Value} {w : World} {x : Int} (h : Calls Tryz.prog f args.toArray w (QInt x w)) : call Tryz.prog f args (.one (.one (.int .i64))) w (fun v w' => v = x ∧ bel w w') :=
  Calls.mono h fun _ _ ⟨he, h1⟩ => ⟨x, he, rfl, h1.below⟩
theorem dig_ge {B : Nat} {l : List Nat} (h : Low B l) (hl : l ≠ [] → B ^ (l.length - 1) ≤ val B l) : Dig B l := by
  refine ⟨h, fun x hx e => ?_⟩
  subst e
  obtain ⟨m, rfl⟩ : ∃ m, l = m ++ [0] := by
    rw [List.getLast?_eq_some_iff] at hx; exact hx
  have h1 := hl (by simp)
  have hB : 0 < B := by have := h 0 (by simp); omega
  have h2 := val_lt hB (l := m) (fun d hd => h d (by simp [hd]))
  rw [val_snoc, Nat.mul_zero, Nat.add_zero, List.length_append, List.length_singleton, Nat.add_sub_cancel] at h1
  omega
theorem ge_of {B : Nat} (hB : 1 < B) {l m : List Nat} (hl : Dig B l) (hm : Dig B m) (h0 : l ≠ [] ∨ m ≠ []) : B ^ (max l.length m.length - 1) ≤ val B l + val B m := by
  by_cases h : l.length ≤ m.length
  · have : m ≠ [] := by
      rcases h0 with h0 | h0
      · intro e; subst e; simp at h; exact h0 h
      · exact h0
    have := hm.ge (by omega) this
    rw [Nat.max_eq_right h]; omega
  · have : l ≠ [] := by rintro rfl; simp at h
    have := hl.ge (by omega) this
    rw [Nat.max_eq_left (by omega)]; omega

abbrev ST := Hd × Int × Int × Unit
structure AddI (w0 : World) (la lb : List Nat) (N : Nat) (s : ST) (w : World) (k cc : Nat) (out : List Nat) : Prop where
  i : s.2.2.1 = (k : Int)
  c : s.2.1 = (cc : Int)
  small : cc ≤ 1
  own : Own w w0.heap.size 146 1 s.1.1 s.1.2.1 s.1.2.2 (nats .u32 out)
  low : Low 4294967296 out
  val' : val 4294967296 out + 4294967296 ^ k * cc = val 4294967296 (la.take k) + val 4294967296 (lb.take k)
  most : k ≤ N ∨ k = N + 1 ∧ cc = 0 ∧ 4294967296 ^ N ≤ val 4294967296 out
  bel' : bel w0 w
theorem AddI.len {w0 : World} {la lb : List Nat} {N : Nat} {s : ST} {w : World} {k cc : Nat} {out : List Nat} (h : AddI w0 la lb N s w k cc out) : out.length = s.1.2.1 := by
  have := h.own.1; simpa [nats_len] using this
theorem u32_mod (t : Nat) : IntKind.u32.wrap (t : Int) = ((t % 4294967296 : Nat) : Int) := by
  rw [IntKind.wrap_u32]; omega

set_option maxHeartbeats 800000 in
theorem addF (a b : Option Addr) (n m ca cb x y : Nat) (w : World) (ha : NumAt 4294967296 .u32 w a n ca x) (hb : NumAt 4294967296 .u32 w b m cb y) (hn : n ≤ 1000000000000) (hm : m ≤ 1000000000000) :
    call Tryz.prog 108 [.slice a n ca, .slice b m cb] (.one (.one .slice)) w (fun v w' => NF w' v (x + y) ∧ v.2.1 ≤ max n m + 1 ∧ Fr w v.1 ∧ bel w w') := by
  obtain ⟨la, hs, hl, rfl⟩ := ha
  obtain ⟨lb, hs', hl', rfl⟩ := hb
  have na := hs.nat
  have nb := hs'.nat
  refine call_of (S108_calls a n ca b m cb w _ ?_)
  unfold S108
  refine loop_mk (fun s w' => ∃ k cc out, AddI w la lb (max n m) s w' k cc out ∧ s.1.2.1 = k) (fun s _ => (max n m + 1 - s.2.2.1).toNat)
    ⟨0, 0, [], ⟨rfl, rfl, by omega, Own.nil _ _ _ _, Low.nil _, by simp [val], .inl (by omega), bel.refl _⟩, rfl⟩ ?_
  rintro s1 w1 ⟨k, cc, out, I, hk⟩ again hag _
  have hlen := I.len
  -- the digits of this round
  have round : ∀ (t : Nat), (k < max n m ∨ cc > 0) → t = cc + dg la k + dg lb k → ∀ (w2 : World) (s2 : Hd), Own w2 w.heap.size 146 1 s2.1 s2.2.1 s2.2.2 (nats .u32 (out ++ [t % 4294967296])) → s2.2.1 = k + 1 → bel w w2 →
      again ((s2.1, s2.2.1, s2.2.2), ((t / 4294967296 : Nat) : Int), ((k + 1 : Nat) : Int), ()) w2 := by
    intro t hgo ht w2 s2 O hs2 hb
    have h1 := Low.dg (by omega) hl.low k
    have h2 := Low.dg (by omega) hl'.low k
    have hst := plus_step (B := 4294967296) (la := la) (lb := lb) (out := out) (k := k) (c := cc) (by omega) I.val'
    rw [← ht] at hst
    have hsm := I.small
    have hkN : k ≤ max n m := by
      rcases I.most with q | ⟨q1, q2, _⟩
      · exact q
      · omega
    refine hag _ _ ⟨k + 1, t / 4294967296, out ++ [t % 4294967296], ⟨rfl, rfl, by omega, O, I.low.snoc (by omega), hst, ?_, hb⟩, hs2⟩ ?_
    · by_cases hkk : k < max n m
      · exact .inl (by omega)
      · right
        have e1 : k = max n m := by omega
        have d1 : dg la k = 0 := dg_none (by omega)
        have d2 : dg lb k = 0 := dg_none (by omega)
        have d3 : cc = 1 := by omega
        have d4 : t = 1 := by omega
        subst d4
        refine ⟨by omega, by omega, ?_⟩
        rw [val_snoc, hlen, hk, ← e1]
        exact Nat.le_trans (by omega) (Nat.le_add_left _ _)
    · simp only [I.i]; omega
  have go : (k < max n m ∨ cc > 0) → ∀ _ : Nat → Value, True := fun _ _ => trivial
  refine join_mk (fun _ w2 => w2 = w1 ∧ (k < max n m ∨ cc > 0)) (fun K4 hK4 => ?_) ?_
  · refine z_eq (m := ((max n m : Nat) : Int)) (by split <;> omega) ?_
    refine br_dec (fun e1 => hK4 _ _ ⟨rfl, ?_⟩) (fun e1 => ?_)
    · rw [I.i] at e1; exact .inl (by omega)
    refine br_dec (fun e2 => hK4 _ _ ⟨rfl, ?_⟩) (fun e2 => ?_)
    · rw [I.c] at e2; exact .inr (by omega)
    -- the end
    rw [I.i] at e1; rw [I.c] at e2
    have hc0 : cc = 0 := by omega
    have hv := I.val'
    rw [hc0, Nat.mul_zero, Nat.add_zero, List.take_of_length_le (by omega), List.take_of_length_le (by omega)] at hv
    refine ⟨s1.1, rfl, ⟨out, I.own.sl, ?_, hv⟩, ?_, I.own.fr rfl, I.bel'⟩
    · refine dig_ge I.low fun h0 => ?_
      have hpos : 0 < out.length := List.length_pos_iff.2 h0
      rcases I.most with q | ⟨q1, _, q3⟩
      · have hkk : k = max n m := by omega
        have := ge_of (by omega) hl hl' (by
          by_cases hla : la = []
          · right; rintro rfl; subst hla; simp at na nb; omega
          · exact .inl hla)
        rw [hv, hlen, hk, hkk, ← na, ← nb]; exact this
      · rw [hlen, hk, q1, Nat.add_sub_cancel]; exact q3
    · rcases I.most with q | ⟨q1, _⟩ <;> omega
  rintro _ w2 ⟨rfl, hgo⟩ _
  refine join_in ?_
  refine join_mk (fun s w3 => w3 = w2 ∧ s.1 = ((cc + dg la k : Nat) : Int)) (fun K11 hK11 => ?_) ?_
  · refine br_dec (fun e1 => ?_) (fun e1 => ?_)
    · rw [I.i] at e1
      refine at_nat tyNat scU32 (hs.kept I.bel') I.i (by omega) fun d hd => ?_
      have := hl.low.get hd
      have := I.small
      refine z_u64 (by omega) (z_u64 (by rw [I.c]; omega) (hK11 _ _ ⟨rfl, ?_⟩))
      rw [I.c, dg_some hd]; simp
    · rw [I.i] at e1
      refine hK11 _ _ ⟨rfl, ?_⟩
      rw [dg_none (by omega)]; exact I.c
  rintro ⟨s3, _⟩ w3 ⟨rfl, hs3⟩ _
  refine join_mk (fun s w4 => w4 = w3 ∧ s.1 = ((cc + dg la k + dg lb k : Nat) : Int)) (fun K14 hK14 => ?_) ?_
  · have h1 := Low.dg (by omega) hl.low k
    refine br_dec (fun e1 => ?_) (fun e1 => ?_)
    · rw [I.i] at e1
      refine at_nat tyNat scU32 (hs'.kept I.bel') I.i (by omega) fun d hd => ?_
      have := hl'.low.get hd
      have := I.small
      have hs3' : s3 = ((cc + dg la k : Nat) : Int) := hs3
      refine z_u64 (by omega) (z_u64 (by dsimp only; rw [hs3']; omega) (hK14 _ _ ⟨rfl, ?_⟩))
      dsimp only
      rw [hs3', dg_some hd]; simp
    · rw [I.i] at e1
      refine hK14 _ _ ⟨rfl, ?_⟩
      rw [dg_none (l := lb) (by omega)]; exact hs3
  rintro ⟨s4, _⟩ w4 ⟨rfl, hs4⟩ _
  obtain ⟨t, ht⟩ : ∃ t, t = cc + dg la k + dg lb k := ⟨_, rfl⟩
  have hs4' : s4 = (t : Int) := by rw [ht]; exact hs4
  dsimp only
  rw [hs4', u32_mod]
  refine z_eq rfl ?_
  have hB : w.heap.size ≤ w4.heap.size := I.bel'.size
  refine wr_app1 tyNat I.own hB rfl (by omega) (by omega) rfl rfl (by have := I.most; omega) (by unfold maxLen; have := I.most; omega) fun a' c' w5 O hg _ _ => ?_
  refine rdp_shr 32 rfl (by decide) ?_
  have hd : ((t : Nat) : Int) / 2 ^ 32 = ((t / 4294967296 : Nat) : Int) := by omega
  rw [hd]
  have hO : Own w5 w.heap.size 146 1 a' (k + 1) c' (nats .u32 (out ++ [t % 4294967296])) := by
    rw [nats_app, ← hk]; exact O
  have := round t hgo ht w5 (a', k + 1, c') hO rfl (I.bel'.own I.own hg (Nat.le_refl _))
  rw [hk]
  intro _
  rw [I.i]
  exact z_i64 (by have := I.most; omega) this
end Go.Proofs.YtajpdnphamomjaaGreat

/- The conditions of functions, printed by our tool; each is checked against the code by the kernel. -/



namespace Go.Proofs
open Go Go.V Go.RowKit
open Tryz (prog)
set_option maxRecDepth 100000
def S122 (s_a : OA) (s_n s_c : Nat) (w0 : World) (R : KR) : Prop :=
 rd prog (cmpS .eql 116 (.tmp 3) (.const (.slice none 0 0)) (.slice s_a s_n s_c) (.slice none 0 0)) oB w0 fun (x1 : Bool) =>
 br x1 (R (.slice none 0 0) w0)
 (wr prog (Instr.buildSlice 116 0 #[]) oS w0 fun (x2 : Hd3) w3 =>
 wr prog (Builtin.append_ #[116, 116] 116 #[.slice x2.1 x2.2.1 x2.2.2, .slice s_a s_n s_c]) oS w3 fun (x4 : Hd3) w5 =>
 R (jw x4) w5)
def H122 : Hints := ⟨[], [], [], []⟩
theorem S122_calls (s_a : OA) (s_n s_c : Nat) (w0 : World) (R : KR) (h : S122 s_a s_n s_c w0 R) : Calls prog 122 #[.slice s_a s_n s_c] w0 (ret R) :=
 vcFn_sound (H := H122) follows_ Tryz.func122 (Eq.mpr (by kernel_rfl) h)
def S123add (a_0 a_1 b_0 b_1 : Int) (cap2_0 cap2_1 : Addr) (w0 : World) (R : KR) : Prop :=
 wr prog (Instr.box 60 (.agg #[ji a_0, ji a_1])) oA w0 fun (x1 : Addr) w2 =>
 wr prog (Instr.box 60 (.agg #[ji b_0, ji b_1])) oA w2 fun (x3 : Addr) w4 =>
 wr prog (Instr.alloc 60 true (.tuple #[])) oA w4 fun (x5 : Addr) w6 =>
 rd prog (jL 60 x1) aF w6 fun (x7 : TF) =>
 call prog 68 [.agg #[ji x7.1, ji x7.2.1]] (.one oB) w6 fun (x8 : Bool) w9 =>
 br (!x8) (wu prog (jS 60 x5 (.agg #[ji 0, ji 0])) w9 fun w10 =>
 rd prog (loadVar 60 x5) aF w10 fun (x11 : TF) =>
 R (.tuple #[.agg #[ji x11.1, ji x11.2.1], ji 1]) w10)
 (rd prog (jL 60 x3) aF w9 fun (x12 : TF) =>
 call prog 68 [.agg #[ji x12.1, ji x12.2.1]] (.one oB) w9 fun (x13 : Bool) w14 =>
 br (!x13) (wu prog (jS 60 x5 (.agg #[ji 0, ji 0])) w14 fun w15 =>
 rd prog (loadVar 60 x5) aF w15 fun (x16 : TF) =>
 R (.tuple #[.agg #[ji x16.1, ji x16.2.1], ji 1]) w15)
 (join (T := Unit) (fun (_s18 : Unit) w19 => ∀ _ : NV,
 drw w19 fun w20 => flEx fun F21 =>
 rd prog (jL 60 x1) aF w20 fun (x22 : TF) =>
 flc bel w20 (fun _w24 => True) (fun w23 =>
   call prog 84 [.agg #[ji x22.1, ji x22.2.1]] (.one aN) w23 fun (x25 : Bool × Hd3 × Hd3 × Unit) w26 =>
 (bel w23 w26 ∧ F21 2 [.agg #[ji x22.1, ji x22.2.1]] (.agg #[.bool x25.1, jw x25.2.1, jw x25.2.2.1]) w26))
  fun (x27 : Bool × Hd3 × Hd3 × Unit) =>
 rd prog (jL 60 x3) aF w20 fun (x28 : TF) =>
 flc bel w20 (fun w30 => F21 2 [.agg #[ji x22.1, ji x22.2.1]] (.agg #[.bool x27.1, jw x27.2.1, jw x27.2.2.1]) w30 ∧ True) (fun w29 =>
   call prog 84 [.agg #[ji x28.1, ji x28.2.1]] (.one aN) w29 fun (x31 : Bool × Hd3 × Hd3 × Unit) w32 =>
 (bel w29 w32 ∧ F21 4 [.agg #[ji x28.1, ji x28.2.1]] (.agg #[.bool x31.1, jw x31.2.1, jw x31.2.2.1]) w32))
  fun (x33 : Bool × Hd3 × Hd3 × Unit) =>
 flc bel w20 (fun w35 => F21 4 [.agg #[ji x28.1, ji x28.2.1]] (.agg #[.bool x33.1, jw x33.2.1, jw x33.2.2.1]) w35 ∧ F21 2 [.agg #[ji x22.1, ji x22.2.1]] (.agg #[.bool x27.1, jw x27.2.1, jw x27.2.2.1]) w35 ∧ True) (fun w34 =>
   call prog 83 [.agg #[.bool x27.1, jw x27.2.1, jw x27.2.2.1], .agg #[.bool x33.1, jw x33.2.1, jw x33.2.2.1]] (.one aN) w34 fun (x36 : Bool × Hd3 × Hd3 × Unit) w37 =>
 (bel w34 w37 ∧ F21 5 [.agg #[.bool x27.1, jw x27.2.1, jw x27.2.2.1], .agg #[.bool x33.1, jw x33.2.1, jw x33.2.2.1]] (.agg #[.bool x36.1, jw x36.2.1, jw x36.2.2.1]) w37))
  fun (x38 : Bool × Hd3 × Hd3 × Unit) =>
 flc bel w20 (fun w40 => F21 5 [.agg #[.bool x27.1, jw x27.2.1, jw x27.2.2.1], .agg #[.bool x33.1, jw x33.2.1, jw x33.2.2.1]] (.agg #[.bool x38.1, jw x38.2.1, jw x38.2.2.1]) w40 ∧ F21 4 [.agg #[ji x28.1, ji x28.2.1]] (.agg #[.bool x33.1, jw x33.2.1, jw x33.2.2.1]) w40 ∧ F21 2 [.agg #[ji x22.1, ji x22.2.1]] (.agg #[.bool x27.1, jw x27.2.1, jw x27.2.2.1]) w40 ∧ True) (fun w39 =>
   call prog 102 [.agg #[.bool x38.1, jw x38.2.1, jw x38.2.2.1]] (.many [aF, oB]) w39 fun (x41 : ((TF) × Bool × Unit)) w42 =>
 (bel w39 w42 ∧ F21 6 [.agg #[.bool x38.1, jw x38.2.1, jw x38.2.2.1]] (.tuple #[.agg #[ji x41.1.1, ji x41.1.2.1], .bool x41.2.1]) w42))
  fun (x43 : ((TF) × Bool × Unit)) =>
 flc bel w20 (fun _w45 => True) (fun w44 =>
   wr prog (Instr.alloc 60 true (.tuple #[])) oA w44 fun (x46 : Addr) w47 =>
 (bel w44 w47 ∧ F21 10 [] (jp x46) w47))
  fun (x48 : Addr) =>
 flend bel w20 (fun w50 => F21 10 [] (jp x48) w50 ∧ F21 6 [.agg #[.bool x38.1, jw x38.2.1, jw x38.2.2.1]] (.tuple #[.agg #[ji x43.1.1, ji x43.1.2.1], .bool x43.2.1]) w50 ∧ F21 5 [.agg #[.bool x27.1, jw x27.2.1, jw x27.2.2.1], .agg #[.bool x33.1, jw x33.2.1, jw x33.2.2.1]] (.agg #[.bool x38.1, jw x38.2.1, jw x38.2.2.1]) w50 ∧ F21 4 [.agg #[ji x28.1, ji x28.2.1]] (.agg #[.bool x33.1, jw x33.2.1, jw x33.2.2.1]) w50 ∧ F21 2 [.agg #[ji x22.1, ji x22.2.1]] (.agg #[.bool x27.1, jw x27.2.1, jw x27.2.2.1]) w50 ∧ True) fun w49 =>
 wu prog (jS 60 x48 (.agg #[ji x43.1.1, ji x43.1.2.1])) w49 fun w51 =>
 br (!x43.2.1) (wu prog (jS 60 x5 (.agg #[ji 0, ji 0])) w51 fun w52 =>
 rd prog (loadVar 60 x5) aF w52 fun (x53 : TF) =>
 R (.tuple #[.agg #[ji x53.1, ji x53.2.1], ji 8]) w52)
 (rd prog (jL 60 x48) aF w51 fun (x54 : TF) =>
 wu prog (jS 60 x5 (.agg #[ji x54.1, ji x54.2.1])) w51 fun w55 =>
 rd prog (loadVar 60 x5) aF w55 fun (x56 : TF) =>
 R (.tuple #[.agg #[ji x56.1, ji x56.2.1], ji 0]) w55))
  fun (K17 : Unit → World → Prop) =>
 rd prog (jL 60 x1) aF w14 fun (x57 : TF) =>
 call prog 113 [.agg #[ji x57.1, ji x57.2.1]] (.one oB) w14 fun (x58 : Bool) w59 =>
 br x58 (rd prog (jL 60 x3) aF w59 fun (x60 : TF) =>
 call prog 113 [.agg #[ji x60.1, ji x60.2.1]] (.one oB) w59 fun (x61 : Bool) w62 =>
 br x61 (call prog 124 [jp cap2_0, jp cap2_1] (.many [oI, oI]) w62 fun (x63 : TF) w64 =>
 call prog 130 [ji x63.1, ji x63.2.1] (.many [aF, oI]) w64 fun (x65 : ((TF) × Int × Unit)) w66 =>
 wu prog (jS 60 x5 (.agg #[ji x65.1.1, ji x65.1.2.1])) w66 fun w67 =>
 rd prog (loadVar 60 x5) aF w67 fun (x68 : TF) =>
 R (.tuple #[.agg #[ji x68.1, ji x68.2.1], ji x65.2.1]) w67)
 (K17 (()) w62))
 (K17 (()) w59)))
def H123add : Hints := ⟨[(0, 26, [])], [(5, 11)], [], []⟩
theorem S123add_calls (a_0 a_1 b_0 b_1 : Int) (cap2_0 cap2_1 : Addr) (w0 : World) (R : KR) (h : S123add a_0 a_1 b_0 b_1 cap2_0 cap2_1 w0 R) : Calls prog 123 #[.agg #[ji a_0, ji a_1], .agg #[ji b_0, ji b_1], (.func (.func 124) #[] #[jp cap2_0, jp cap2_1]), (.func (.func 83) #[] #[])] w0 (ret R) :=
 vcFn_sound (H := H123add) follows_ Tryz.func123 (Eq.mpr (by kernel_rfl) h)
def S123mul (a_0 a_1 b_0 b_1 : Int) (cap2_0 cap2_1 : Addr) (w0 : World) (R : KR) : Prop :=
 wr prog (Instr.box 60 (.agg #[ji a_0, ji a_1])) oA w0 fun (x1 : Addr) w2 =>
 wr prog (Instr.box 60 (.agg #[ji b_0, ji b_1])) oA w2 fun (x3 : Addr) w4 =>
 wr prog (Instr.alloc 60 true (.tuple #[])) oA w4 fun (x5 : Addr) w6 =>
 rd prog (jL 60 x1) aF w6 fun (x7 : TF) =>
 call prog 68 [.agg #[ji x7.1, ji x7.2.1]] (.one oB) w6 fun (x8 : Bool) w9 =>
 br (!x8) (wu prog (jS 60 x5 (.agg #[ji 0, ji 0])) w9 fun w10 =>
 rd prog (loadVar 60 x5) aF w10 fun (x11 : TF) =>
 R (.tuple #[.agg #[ji x11.1, ji x11.2.1], ji 1]) w10)
 (rd prog (jL 60 x3) aF w9 fun (x12 : TF) =>
 call prog 68 [.agg #[ji x12.1, ji x12.2.1]] (.one oB) w9 fun (x13 : Bool) w14 =>
 br (!x13) (wu prog (jS 60 x5 (.agg #[ji 0, ji 0])) w14 fun w15 =>
 rd prog (loadVar 60 x5) aF w15 fun (x16 : TF) =>
 R (.tuple #[.agg #[ji x16.1, ji x16.2.1], ji 1]) w15)
 (join (T := Unit) (fun (_s18 : Unit) w19 => ∀ _ : NV,
 drw w19 fun w20 => flEx fun F21 =>
 rd prog (jL 60 x1) aF w20 fun (x22 : TF) =>
 flc bel w20 (fun _w24 => True) (fun w23 =>
   call prog 84 [.agg #[ji x22.1, ji x22.2.1]] (.one aN) w23 fun (x25 : Bool × Hd3 × Hd3 × Unit) w26 =>
 (bel w23 w26 ∧ F21 2 [.agg #[ji x22.1, ji x22.2.1]] (.agg #[.bool x25.1, jw x25.2.1, jw x25.2.2.1]) w26))
  fun (x27 : Bool × Hd3 × Hd3 × Unit) =>
 rd prog (jL 60 x3) aF w20 fun (x28 : TF) =>
 flc bel w20 (fun w30 => F21 2 [.agg #[ji x22.1, ji x22.2.1]] (.agg #[.bool x27.1, jw x27.2.1, jw x27.2.2.1]) w30 ∧ True) (fun w29 =>
   call prog 84 [.agg #[ji x28.1, ji x28.2.1]] (.one aN) w29 fun (x31 : Bool × Hd3 × Hd3 × Unit) w32 =>
 (bel w29 w32 ∧ F21 4 [.agg #[ji x28.1, ji x28.2.1]] (.agg #[.bool x31.1, jw x31.2.1, jw x31.2.2.1]) w32))
  fun (x33 : Bool × Hd3 × Hd3 × Unit) =>
 flc bel w20 (fun w35 => F21 4 [.agg #[ji x28.1, ji x28.2.1]] (.agg #[.bool x33.1, jw x33.2.1, jw x33.2.2.1]) w35 ∧ F21 2 [.agg #[ji x22.1, ji x22.2.1]] (.agg #[.bool x27.1, jw x27.2.1, jw x27.2.2.1]) w35 ∧ True) (fun w34 =>
   call prog 85 [.agg #[.bool x27.1, jw x27.2.1, jw x27.2.2.1], .agg #[.bool x33.1, jw x33.2.1, jw x33.2.2.1]] (.one aN) w34 fun (x36 : Bool × Hd3 × Hd3 × Unit) w37 =>
 (bel w34 w37 ∧ F21 5 [.agg #[.bool x27.1, jw x27.2.1, jw x27.2.2.1], .agg #[.bool x33.1, jw x33.2.1, jw x33.2.2.1]] (.agg #[.bool x36.1, jw x36.2.1, jw x36.2.2.1]) w37))
  fun (x38 : Bool × Hd3 × Hd3 × Unit) =>
 flc bel w20 (fun w40 => F21 5 [.agg #[.bool x27.1, jw x27.2.1, jw x27.2.2.1], .agg #[.bool x33.1, jw x33.2.1, jw x33.2.2.1]] (.agg #[.bool x38.1, jw x38.2.1, jw x38.2.2.1]) w40 ∧ F21 4 [.agg #[ji x28.1, ji x28.2.1]] (.agg #[.bool x33.1, jw x33.2.1, jw x33.2.2.1]) w40 ∧ F21 2 [.agg #[ji x22.1, ji x22.2.1]] (.agg #[.bool x27.1, jw x27.2.1, jw x27.2.2.1]) w40 ∧ True) (fun w39 =>
   call prog 102 [.agg #[.bool x38.1, jw x38.2.1, jw x38.2.2.1]] (.many [aF, oB]) w39 fun (x41 : ((TF) × Bool × Unit)) w42 =>
 (bel w39 w42 ∧ F21 6 [.agg #[.bool x38.1, jw x38.2.1, jw x38.2.2.1]] (.tuple #[.agg #[ji x41.1.1, ji x41.1.2.1], .bool x41.2.1]) w42))
  fun (x43 : ((TF) × Bool × Unit)) =>
 flc bel w20 (fun _w45 => True) (fun w44 =>
   wr prog (Instr.alloc 60 true (.tuple #[])) oA w44 fun (x46 : Addr) w47 =>
 (bel w44 w47 ∧ F21 10 [] (jp x46) w47))
  fun (x48 : Addr) =>
 flend bel w20 (fun w50 => F21 10 [] (jp x48) w50 ∧ F21 6 [.agg #[.bool x38.1, jw x38.2.1, jw x38.2.2.1]] (.tuple #[.agg #[ji x43.1.1, ji x43.1.2.1], .bool x43.2.1]) w50 ∧ F21 5 [.agg #[.bool x27.1, jw x27.2.1, jw x27.2.2.1], .agg #[.bool x33.1, jw x33.2.1, jw x33.2.2.1]] (.agg #[.bool x38.1, jw x38.2.1, jw x38.2.2.1]) w50 ∧ F21 4 [.agg #[ji x28.1, ji x28.2.1]] (.agg #[.bool x33.1, jw x33.2.1, jw x33.2.2.1]) w50 ∧ F21 2 [.agg #[ji x22.1, ji x22.2.1]] (.agg #[.bool x27.1, jw x27.2.1, jw x27.2.2.1]) w50 ∧ True) fun w49 =>
 wu prog (jS 60 x48 (.agg #[ji x43.1.1, ji x43.1.2.1])) w49 fun w51 =>
 br (!x43.2.1) (wu prog (jS 60 x5 (.agg #[ji 0, ji 0])) w51 fun w52 =>
 rd prog (loadVar 60 x5) aF w52 fun (x53 : TF) =>
 R (.tuple #[.agg #[ji x53.1, ji x53.2.1], ji 8]) w52)
 (rd prog (jL 60 x48) aF w51 fun (x54 : TF) =>
 wu prog (jS 60 x5 (.agg #[ji x54.1, ji x54.2.1])) w51 fun w55 =>
 rd prog (loadVar 60 x5) aF w55 fun (x56 : TF) =>
 R (.tuple #[.agg #[ji x56.1, ji x56.2.1], ji 0]) w55))
  fun (K17 : Unit → World → Prop) =>
 rd prog (jL 60 x1) aF w14 fun (x57 : TF) =>
 call prog 113 [.agg #[ji x57.1, ji x57.2.1]] (.one oB) w14 fun (x58 : Bool) w59 =>
 br x58 (rd prog (jL 60 x3) aF w59 fun (x60 : TF) =>
 call prog 113 [.agg #[ji x60.1, ji x60.2.1]] (.one oB) w59 fun (x61 : Bool) w62 =>
 br x61 (call prog 125 [jp cap2_0, jp cap2_1] (.many [oI, oI]) w62 fun (x63 : TF) w64 =>
 call prog 130 [ji x63.1, ji x63.2.1] (.many [aF, oI]) w64 fun (x65 : ((TF) × Int × Unit)) w66 =>
 wu prog (jS 60 x5 (.agg #[ji x65.1.1, ji x65.1.2.1])) w66 fun w67 =>
 rd prog (loadVar 60 x5) aF w67 fun (x68 : TF) =>
 R (.tuple #[.agg #[ji x68.1, ji x68.2.1], ji x65.2.1]) w67)
 (K17 (()) w62))
 (K17 (()) w59)))
def H123mul : Hints := ⟨[(0, 26, [])], [(5, 11)], [], []⟩
theorem S123mul_calls (a_0 a_1 b_0 b_1 : Int) (cap2_0 cap2_1 : Addr) (w0 : World) (R : KR) (h : S123mul a_0 a_1 b_0 b_1 cap2_0 cap2_1 w0 R) : Calls prog 123 #[.agg #[ji a_0, ji a_1], .agg #[ji b_0, ji b_1], (.func (.func 125) #[] #[jp cap2_0, jp cap2_1]), (.func (.func 85) #[] #[])] w0 (ret R) :=
 vcFn_sound (H := H123mul) follows_ Tryz.func123 (Eq.mpr (by kernel_rfl) h)
def S124 (cap0 cap1 : Addr) (w0 : World) (R : KR) : Prop :=
 drw w0 fun w1 =>
 rd prog (jL 2 cap0) oI w1 fun (x2 : Int) =>
 rd prog (jL 2 (Addr.add cap1 1)) oI w1 fun (x3 : Int) =>
 z (IntKind.wrap .i64 (x2 * x3)) fun (z4 : Int) =>
 rd prog (jL 2 cap1) oI w1 fun (x5 : Int) =>
 rd prog (jL 2 (Addr.add cap0 1)) oI w1 fun (x6 : Int) =>
 z (IntKind.wrap .i64 (x5 * x6)) fun (z7 : Int) =>
 z (IntKind.wrap .i64 (z4 + z7)) fun (z8 : Int) =>
 rd prog (jL 2 (Addr.add cap0 1)) oI w1 fun (x9 : Int) =>
 rd prog (jL 2 (Addr.add cap1 1)) oI w1 fun (x10 : Int) =>
 z (IntKind.wrap .i64 (x9 * x10)) fun (z11 : Int) =>
 R (.tuple #[ji z8, ji z11]) w1
def H124 : Hints := ⟨[], [(1, 17)], [], []⟩
theorem S124_calls (cap0 cap1 : Addr) (w0 : World) (R : KR) (h : S124 cap0 cap1 w0 R) : Calls prog 124 #[jp cap0, jp cap1] w0 (ret R) :=
 vcFn_sound (H := H124) follows_ Tryz.func124 (Eq.mpr (by kernel_rfl) h)
def S125 (cap0 cap1 : Addr) (w0 : World) (R : KR) : Prop :=
 drw w0 fun w1 =>
 rd prog (jL 2 cap0) oI w1 fun (x2 : Int) =>
 rd prog (jL 2 cap1) oI w1 fun (x3 : Int) =>
 z (IntKind.wrap .i64 (x2 * x3)) fun (z4 : Int) =>
 rd prog (jL 2 (Addr.add cap0 1)) oI w1 fun (x5 : Int) =>
 rd prog (jL 2 (Addr.add cap1 1)) oI w1 fun (x6 : Int) =>
 z (IntKind.wrap .i64 (x5 * x6)) fun (z7 : Int) =>
 R (.tuple #[ji z4, ji z7]) w1
def H125 : Hints := ⟨[], [(1, 11)], [], []⟩
theorem S125_calls (cap0 cap1 : Addr) (w0 : World) (R : KR) (h : S125 cap0 cap1 w0 R) : Calls prog 125 #[jp cap0, jp cap1] w0 (ret R) :=
 vcFn_sound (H := H125) follows_ Tryz.func125 (Eq.mpr (by kernel_rfl) h)
def S111 (a_0 a_1 b_0 b_1 : Int) (w0 : World) (R : KR) : Prop :=
 wr prog (Instr.box 60 (.agg #[ji a_0, ji a_1])) oA w0 fun (x1 : Addr) w2 =>
 wr prog (Instr.box 60 (.agg #[ji b_0, ji b_1])) oA w2 fun (x3 : Addr) w4 =>
 wr prog (Instr.alloc 60 true (.tuple #[])) oA w4 fun (x5 : Addr) w6 =>
 rd prog (jL 60 x1) aF w6 fun (x7 : TF) =>
 rd prog (jL 60 x3) aF w6 fun (x8 : TF) =>
 call prog 123 [.agg #[ji x7.1, ji x7.2.1], .agg #[ji x8.1, ji x8.2.1], (.func (.func 124) #[] #[jp x1, jp x3]), (.func (.func 83) #[] #[])] (.many [aF, oI]) w6 fun (x9 : ((TF) × Int × Unit)) w10 =>
 wu prog (jS 60 x5 (.agg #[ji x9.1.1, ji x9.1.2.1])) w10 fun w11 =>
 rd prog (loadVar 60 x5) aF w11 fun (x12 : TF) =>
 R (.tuple #[.agg #[ji x12.1, ji x12.2.1], ji x9.2.1]) w11
def H111 : Hints := ⟨[], [], [], []⟩
theorem S111_calls (a_0 a_1 b_0 b_1 : Int) (w0 : World) (R : KR) (h : S111 a_0 a_1 b_0 b_1 w0 R) : Calls prog 111 #[.agg #[ji a_0, ji a_1], .agg #[ji b_0, ji b_1]] w0 (ret R) :=
 vcFn_sound (H := H111) follows_ Tryz.func111 (Eq.mpr (by kernel_rfl) h)
def S94 (a_0 a_1 b_0 b_1 : Int) (w0 : World) (R : KR) : Prop :=
 wr prog (Instr.box 60 (.agg #[ji a_0, ji a_1])) oA w0 fun (x1 : Addr) w2 =>
 wr prog (Instr.box 60 (.agg #[ji b_0, ji b_1])) oA w2 fun (x3 : Addr) w4 =>
 wr prog (Instr.alloc 60 true (.tuple #[])) oA w4 fun (x5 : Addr) w6 =>
 rd prog (jL 60 x3) aF w6 fun (x7 : TF) =>
 call prog 68 [.agg #[ji x7.1, ji x7.2.1]] (.one oB) w6 fun (x8 : Bool) w9 =>
 br (!x8) (wu prog (jS 60 x5 (.agg #[ji 0, ji 0])) w9 fun w10 =>
 rd prog (loadVar 60 x5) aF w10 fun (x11 : TF) =>
 R (.tuple #[.agg #[ji x11.1, ji x11.2.1], ji 1]) w10)
 (rd prog (jL 2 x3) oI w9 fun (x12 : Int) =>
 z (IntKind.wrap .i64 (0 - x12)) fun (z13 : Int) =>
 wu prog (jS 2 x3 (ji z13)) w9 fun w14 =>
 rd prog (jL 60 x1) aF w14 fun (x15 : TF) =>
 rd prog (jL 60 x3) aF w14 fun (x16 : TF) =>
 call prog 111 [.agg #[ji x15.1, ji x15.2.1], .agg #[ji x16.1, ji x16.2.1]] (.many [aF, oI]) w14 fun (x17 : ((TF) × Int × Unit)) w18 =>
 wu prog (jS 60 x5 (.agg #[ji x17.1.1, ji x17.1.2.1])) w18 fun w19 =>
 rd prog (loadVar 60 x5) aF w19 fun (x20 : TF) =>
 R (.tuple #[.agg #[ji x20.1, ji x20.2.1], ji x17.2.1]) w19)
def H94 : Hints := ⟨[], [], [], []⟩
theorem S94_calls (a_0 a_1 b_0 b_1 : Int) (w0 : World) (R : KR) (h : S94 a_0 a_1 b_0 b_1 w0 R) : Calls prog 94 #[.agg #[ji a_0, ji a_1], .agg #[ji b_0, ji b_1]] w0 (ret R) :=
 vcFn_sound (H := H94) follows_ Tryz.func94 (Eq.mpr (by kernel_rfl) h)
def S112 (a_0 a_1 b_0 b_1 : Int) (w0 : World) (R : KR) : Prop :=
 wr prog (Instr.box 60 (.agg #[ji a_0, ji a_1])) oA w0 fun (x1 : Addr) w2 =>
 wr prog (Instr.box 60 (.agg #[ji b_0, ji b_1])) oA w2 fun (x3 : Addr) w4 =>
 wr prog (Instr.alloc 60 true (.tuple #[])) oA w4 fun (x5 : Addr) w6 =>
 rd prog (jL 60 x1) aF w6 fun (x7 : TF) =>
 rd prog (jL 60 x3) aF w6 fun (x8 : TF) =>
 call prog 123 [.agg #[ji x7.1, ji x7.2.1], .agg #[ji x8.1, ji x8.2.1], (.func (.func 125) #[] #[jp x1, jp x3]), (.func (.func 85) #[] #[])] (.many [aF, oI]) w6 fun (x9 : ((TF) × Int × Unit)) w10 =>
 wu prog (jS 60 x5 (.agg #[ji x9.1.1, ji x9.1.2.1])) w10 fun w11 =>
 rd prog (loadVar 60 x5) aF w11 fun (x12 : TF) =>
 R (.tuple #[.agg #[ji x12.1, ji x12.2.1], ji x9.2.1]) w11
def H112 : Hints := ⟨[], [], [], []⟩
theorem S112_calls (a_0 a_1 b_0 b_1 : Int) (w0 : World) (R : KR) (h : S112 a_0 a_1 b_0 b_1 w0 R) : Calls prog 112 #[.agg #[ji a_0, ji a_1], .agg #[ji b_0, ji b_1]] w0 (ret R) :=
 vcFn_sound (H := H112) follows_ Tryz.func112 (Eq.mpr (by kernel_rfl) h)
def S93 (a_0 a_1 b_0 b_1 : Int) (w0 : World) (R : KR) : Prop :=
 wr prog (Instr.box 60 (.agg #[ji a_0, ji a_1])) oA w0 fun (x1 : Addr) w2 =>
 wr prog (Instr.box 60 (.agg #[ji b_0, ji b_1])) oA w2 fun (x3 : Addr) w4 =>
 wr prog (Instr.alloc 60 true (.tuple #[])) oA w4 fun (x5 : Addr) w6 =>
 rd prog (jL 60 x3) aF w6 fun (x7 : TF) =>
 call prog 68 [.agg #[ji x7.1, ji x7.2.1]] (.one oB) w6 fun (x8 : Bool) w9 =>
 br (!x8) (wu prog (jS 60 x5 (.agg #[ji 0, ji 0])) w9 fun w10 =>
 rd prog (loadVar 60 x5) aF w10 fun (x11 : TF) =>
 R (.tuple #[.agg #[ji x11.1, ji x11.2.1], ji 1]) w10)
 (rd prog (jL 2 x3) oI w9 fun (x12 : Int) =>
 br (x12 == 0) (wu prog (jS 60 x5 (.agg #[ji 0, ji 0])) w9 fun w13 =>
 rd prog (loadVar 60 x5) aF w13 fun (x14 : TF) =>
 R (.tuple #[.agg #[ji x14.1, ji x14.2.1], ji 1]) w13)
 (rd prog (jL 2 (Addr.add x3 1)) oI w9 fun (x15 : Int) =>
 rd prog (jL 2 x3) oI w9 fun (x16 : Int) =>
 wr prog (Instr.alloc 60 true (.tuple #[])) oA w9 fun (x17 : Addr) w18 =>
 wu prog (jS 60 x17 (.agg #[ji x15, ji x16])) w18 fun w19 =>
 join (T := Unit) (fun (_s21 : Unit) w22 => ∀ _ : NV,
 rd prog (jL 60 x1) aF w22 fun (x23 : TF) =>
 rd prog (jL 60 x17) aF w22 fun (x24 : TF) =>
 call prog 112 [.agg #[ji x23.1, ji x23.2.1], .agg #[ji x24.1, ji x24.2.1]] (.many [aF, oI]) w22 fun (x25 : ((TF) × Int × Unit)) w26 =>
 wu prog (jS 60 x5 (.agg #[ji x25.1.1, ji x25.1.2.1])) w26 fun w27 =>
 rd prog (loadVar 60 x5) aF w27 fun (x28 : TF) =>
 R (.tuple #[.agg #[ji x28.1, ji x28.2.1], ji x25.2.1]) w27)
  fun (K20 : Unit → World → Prop) =>
 rd prog (jL 2 (Addr.add x17 1)) oI w19 fun (x29 : Int) =>
 br (decide (x29 < 0)) (rd prog (jL 2 x17) oI w19 fun (x30 : Int) =>
 z (IntKind.wrap .i64 (0 - x30)) fun (z31 : Int) =>
 rd prog (jL 2 (Addr.add x17 1)) oI w19 fun (x32 : Int) =>
 z (IntKind.wrap .i64 (0 - x32)) fun (z33 : Int) =>
 wu prog (jS 60 x17 (.agg #[ji z31, ji z33])) w19 fun w34 =>
 K20 (()) w34)
 (K20 (()) w19)))
def H93 : Hints := ⟨[(0, 23, [])], [], [], []⟩
theorem S93_calls (a_0 a_1 b_0 b_1 : Int) (w0 : World) (R : KR) (h : S93 a_0 a_1 b_0 b_1 w0 R) : Calls prog 93 #[.agg #[ji a_0, ji a_1], .agg #[ji b_0, ji b_1]] w0 (ret R) :=
 vcFn_sound (H := H93) follows_ Tryz.func93 (Eq.mpr (by kernel_rfl) h)
end Go.Proofs

/- Package fraction: differences of numbers. -/


namespace Go.Proofs.YtajpdnphamomjaaGreat
open Go.RowKit Go.Q Go.Q.Num Go.V

theorem plain_nats (k : IntKind) (l : List Nat) : plainV (nats k l) = true := by
  unfold plainV nats
  rw [List.all_eq_true]
  intro v hv
  obtain ⟨x, _, rfl⟩ := List.mem_map.1 hv
  rfl
theorem cloneF (a : Option Addr) (n c : Nat) (l : List Nat) (w : World) (hs : Sl w a n c 1 (nats .u32 l)) (hn : n ≤ 1000000000000) :
    call Tryz.prog 122 [.slice a n c] (.one (.one .slice)) w (fun v w' => Own w' w.heap.size 146 1 v.1 v.2.1 v.2.2 (nats .u32 l) ∧ v.2.1 = n ∧ bel w w') := by
  refine call_of (S122_calls a n c w _ ?_)
  unfold S122
  refine rd_nil tyNat (br_mk (fun h => ?_) (fun h => ?_))
  · have ha : a = none := by cases a <;> first | rfl | cases h
    subst ha
    have h1 := hs.nil' rfl
    have h2 := hs.nat
    have : l = [] := List.eq_nil_of_length_eq_zero (by omega)
    subst this
    exact ⟨((none, 0, 0) : Hd), rfl, Own.nil _ _ _ _, h1.1.symm, bel.refl _⟩
  · obtain ⟨ad, rfl⟩ : ∃ ad, a = some ad := by cases a <;> first | exact ⟨_, rfl⟩ | (cases h; done)
    refine wr_lit0 tyNat fun bd w1 L hb1 _ _ => ?_
    have O := L _ (Nat.le_refl _)
    refine wr_app tyNat O (hs.kept hb1) hb1.size rfl (by omega) (plain_nats _ _) (by omega) (by unfold maxLen; omega) fun a' c' w2 O' hg _ _ => ?_
    exact ⟨(a', 0 + n, c'), rfl, O', Nat.zero_add n, hb1.own O hg (Nat.le_refl _)⟩

structure SubI (w0 : World) (la lb : List Nat) (hd : Hd) (i br : Int) (w : World) (k bb : Nat) (out : List Nat) : Prop where
  i : i = (k : Int)
  c : br = (bb : Int)
  small : bb ≤ 1
  most : k ≤ la.length
  own : Own w w0.heap.size 146 1 hd.1 hd.2.1 hd.2.2 (nats .u32 (out ++ la.drop k))
  len : out.length = k
  low : Low 4294967296 out
  val' : val 4294967296 out + val 4294967296 (lb.take k) = val 4294967296 (la.take k) + 4294967296 ^ k * bb
  bel' : bel w0 w
theorem sub_low {B : Nat} (hB : 0 < B) {la lb : List Nat} (h : Low B la) (h' : Low B lb) {k : Nat} {x : Nat} (hx : la[k]? = some x) {bb : Nat} (hb : bb ≤ 1) :
    ∃ d c' : Nat, x + B * c' = d + bb + dg lb k ∧ d < B ∧ c' ≤ 1 ∧ ((x : Int) - bb - dg lb k < 0 ↔ c' = 1) := by
  have h1 := h.get hx
  have h2 := h'.dg hB k
  by_cases hc : x < bb + dg lb k
  · exact ⟨x + B - bb - dg lb k, 1, by omega, by omega, by omega, by omega⟩
  · exact ⟨x - bb - dg lb k, 0, by omega, by omega, by omega, by omega⟩
theorem sub_set {out la : List Nat} {k x d : Nat} (h : out.length = k) (hx : la[k]? = some x) : (out ++ la.drop k).set k d = (out ++ [d]) ++ la.drop (k + 1) := by
  have hk := (List.getElem?_eq_some_iff.1 hx).1
  have hd : la.drop k = x :: la.drop (k + 1) := by
    rw [List.drop_eq_getElem_cons hk]; congr 1; exact (List.getElem?_eq_some_iff.1 hx).2
  rw [hd, List.set_append, if_neg (by omega), h]
  simp
theorem sub_get {out la : List Nat} {k x : Nat} (h : out.length = k) (hx : la[k]? = some x) : (out ++ la.drop k)[k]? = some x := by
  rw [List.getElem?_append_right (by omega), h]; simpa using hx

set_option maxHeartbeats 800000 in
theorem subF (a b : Option Addr) (n m ca cb x y : Nat) (w : World) (ha : NumAt 4294967296 .u32 w a n ca x) (hb : NumAt 4294967296 .u32 w b m cb y) (hn : n ≤ 1000000000000) (hxy : y ≤ x) :
    call Tryz.prog 110 [.slice a n ca, .slice b m cb] (.one (.one .slice)) w (fun v w' => NF w' v (x - y) ∧ v.2.1 ≤ n ∧ Fr w v.1 ∧ bel w w') := by
  obtain ⟨la, hs, hl, rfl⟩ := ha
  obtain ⟨lb, hs', hl', rfl⟩ := hb
  have na := hs.nat
  have nb := hs'.nat
  have hmn : m ≤ n := by rw [← na, ← nb]; exact hl'.length_le (by omega) hl.low hxy
  refine call_of (S110_calls a n ca b m cb w _ ?_)
  unfold S110
  refine call_mono (cloneF a n ca la w hs hn) ?_
  rintro hd w1 ⟨O, hlen, hb⟩
  refine loop_mk (fun s w' => ∃ k bb out, SubI w la lb hd s.2.1 s.1 w' k bb out) (fun s _ => (n - s.2.1).toNat)
    ⟨0, 0, [], ⟨rfl, rfl, by omega, by omega, O, rfl, Low.nil _, by simp [val], hb⟩⟩ ?_
  rintro s1 w2 ⟨k, bb, out, I⟩ again hag _
  have hi := I.i
  have hc := I.c
  have hsm := I.small
  refine br_dec (fun e1 => ?_) (fun e1 => ?_)
  · rw [hi, hlen] at e1
    have hkn : k < n := by omega
    obtain ⟨xk, hxk⟩ : ∃ xk, la[k]? = some xk := ⟨_, List.getElem?_eq_getElem (by omega)⟩
    obtain ⟨d, c', q1, q2, q3, q4⟩ := sub_low (by omega) hl.low hl'.low hxk hsm
    have hx9 := hl.low.get hxk
    have hy9 := hl'.low.dg (by omega) k
    refine join_in ?_
    refine at_mk tyNat scU32 I.own.sl (s := .int .u32) (v := .int .u32 (xk : Int)) (x := (xk : Int)) hi (by rw [nats, List.getElem?_map, sub_get I.len hxk]; rfl) rfl ?_
    refine z_i64 (by omega) (z_i64 (by omega) ?_)
    refine join_mk (fun s w3 => w3 = w2 ∧ s.1 = (xk : Int) - bb - dg lb k) (fun K14 hK14 => ?_) ?_
    · refine br_dec (fun e2 => ?_) (fun e2 => ?_)
      · rw [hi] at e2
        refine at_nat tyNat scU32 (hs'.kept I.bel') hi (by omega) fun dd hdd => ?_
        have := hl'.low.get hdd
        refine z_i64 (by omega) (z_i64 (by omega) (hK14 _ _ ⟨rfl, ?_⟩))
        show (xk : Int) - s1.1 - (dd : Int) = _
        rw [hc, dg_some hdd]
      · rw [hi] at e2
        refine hK14 _ _ ⟨rfl, ?_⟩
        show (xk : Int) - s1.1 = _
        rw [hc, dg_none (l := lb) (by omega)]; simp
    rintro ⟨s3, _⟩ w3 ⟨rfl, hs3⟩ _
    have hs3' : s3 = (xk : Int) - bb - dg lb k := hs3
    refine join_mk (fun s w4 => w4 = w3 ∧ s.1 = (c' : Int) ∧ s.2.1 = (d : Int)) (fun K17 hK17 => ?_) ?_
    · refine br_dec (fun e2 => ?_) (fun e2 => ?_)
      · dsimp only at e2
        have : c' = 1 := q4.1 (by omega)
        subst this
        refine z_i64 (by dsimp only; omega) (hK17 _ _ ⟨rfl, rfl, ?_⟩)
        dsimp only; omega
      · dsimp only at e2
        have : c' = 0 := by
          rcases Nat.lt_or_ge 0 c' with q | q
          · have := q4.2 (by omega); omega
          · omega
        subst this
        refine hK17 _ _ ⟨rfl, rfl, ?_⟩
        dsimp only; omega
    rintro ⟨s4, s5, _⟩ w4 ⟨rfl, hs4, hs5⟩ _
    have hs4' : s4 = (c' : Int) := hs4
    have hs5' : s5 = (d : Int) := hs5
    dsimp only
    rw [hs5', hs4']
    refine z_u32 (by omega) ?_
    refine set_mk tyNat I.own (v := .int .u32 (d : Int)) hi (by omega) rfl fun w5 O5 hg _ => ?_
    intro _
    refine z_i64 (by omega) ?_
    refine hag _ _ ⟨k + 1, c', out ++ [d], ⟨by dsimp only; omega, rfl, q3, by omega, ?_, by simp [I.len], I.low.snoc q2, ?_, I.bel'.own I.own hg (Nat.le_refl _)⟩⟩ (by dsimp only; omega)
    · rw [nats_set, sub_set I.len hxk] at O5; exact O5
    · exact minus_step I.len I.val' (by rw [dg_some hxk]; exact q1)
  · rw [hi, hlen] at e1
    have hkn : k = n := by have := I.most; omega
    have hv := I.val'
    have hO := I.own
    have hlo := I.low
    rw [List.take_of_length_le (by omega), List.take_of_length_le (by omega)] at hv
    rw [List.drop_eq_nil_of_le (by omega), List.append_nil] at hO
    have hout := val_lt (by omega) hlo
    rw [I.len] at hout
    have hb0 : bb = 0 := by
      rcases Nat.lt_or_ge 0 bb with q | q
      · have : bb = 1 := by omega
        subst this
        omega
      · omega
    subst hb0
    refine call_mono (callT (trimF 4294967296 hd.1 hd.2.1 hd.2.2 out w2 hO.sl hlo)) ?_
    rintro v w3 ⟨hv1, _, hN, hle, h'⟩
    refine ⟨v, rfl, ?_, by omega, by rw [hv1]; exact hO.fr rfl, I.bel'.trans h'⟩
    have : val 4294967296 out = val 4294967296 la - val 4294967296 lb := by omega
    rw [← this]; exact hN
end Go.Proofs.YtajpdnphamomjaaGreat

/- Package fraction: numbers doubled. -/

namespace Go.Proofs.YtajpdnphamomjaaGreat
open Go.RowKit Go.Q Go.Q.Num Go.V

theorem ior_nat (k : IntKind) (a b : Nat) (ha : a < 2 ^ k.bits) (hb : b < 2 ^ k.bits) : ior k (a : Int) (b : Int) = k.wrap ((a ||| b : Nat) : Int) := by
  unfold ior
  rw [BitVec.ofInt_natCast, BitVec.ofInt_natCast, BitVec.toNat_or, BitVec.toNat_ofNat, BitVec.toNat_ofNat, Nat.mod_eq_of_lt ha, Nat.mod_eq_of_lt hb]
theorem or_low (i p q : Nat) (hq : q < 2 ^ i) : (2 ^ i * p) ||| q = 2 ^ i * p + q := (Nat.two_pow_add_eq_or_of_lt hq p).symm
theorem dbl_or (x bb : Nat) (hb : bb ≤ 1) : ior .u32 (((2 * x % 4294967296 : Nat)) : Int) (bb : Int) = (((2 * x + bb) % 4294967296 : Nat) : Int) := by
  have e : 2 * x % 4294967296 = 2 ^ 1 * (x % 2147483648) := by omega
  rw [ior_nat .u32 _ _ (by show _ < 2 ^ 32; omega) (by show _ < 2 ^ 32; omega), e, or_low 1 _ _ (by omega), IntKind.wrap_u32]
  omega

structure DblI (w0 : World) (la : List Nat) (b0 : Nat) (bit : Int) (hd : Hd) (i : Int) (w : World) (k bb : Nat) (out : List Nat) : Prop where
  i : i = (k : Int)
  c : bit = (bb : Int)
  small : bb ≤ 1
  most : k ≤ la.length
  len' : hd.2.1 = k
  own : Own w w0.heap.size 146 1 hd.1 hd.2.1 hd.2.2 (nats .u32 out)
  low : Low 4294967296 out
  val' : val 4294967296 out + 4294967296 ^ k * bb = 2 * val 4294967296 (la.take k) + b0
  bel' : bel w0 w
theorem DblI.len {w0 : World} {la : List Nat} {b0 : Nat} {bit : Int} {hd : Hd} {i : Int} {w : World} {k bb : Nat} {out : List Nat} (h : DblI w0 la b0 bit hd i w k bb out) : out.length = k := by
  have := h.own.1; rw [h.len'] at this; simpa [nats_len] using this

set_option maxHeartbeats 800000 in
theorem dblF (a : Option Addr) (n ca x b0 : Nat) (w : World) (ha : NumAt 4294967296 .u32 w a n ca x) (hn : n ≤ 1000000000000) (hb0 : b0 ≤ 1) :
    call Tryz.prog 127 [.slice a n ca, .int .u32 (b0 : Int)] (.one (.one .slice)) w (fun v w' => NF w' v (2 * x + b0) ∧ v.2.1 ≤ n + 1 ∧ Fr w v.1 ∧ bel w w') := by
  obtain ⟨la, hs, hl, rfl⟩ := ha
  have na := hs.nat
  refine call_of (S127_calls a n ca b0 w _ ?_)
  unfold S127
  refine z_eq (m := ((n + 1 : Nat) : Int)) (by rw [IntWalk.i64_in _ (by omega)]; omega) ?_
  refine wr_make0 tyNat (n + 1) rfl (by omega) (by unfold maxLen; omega) fun ad w1 L hb1 _ _ => ?_
  refine loop_mk (fun s w' => ∃ k bb out, DblI w la b0 s.1 s.2.1 s.2.2.1 w' k bb out) (fun s _ => (n - s.2.2.1).toNat)
    ⟨0, b0, [], ⟨rfl, rfl, hb0, by omega, rfl, L _ (Nat.le_refl _), Low.nil _, by simp [val], hb1⟩⟩ ?_
  rintro s1 w2 ⟨k, bb, out, I⟩ again hag _
  have hi := I.i
  have hc := I.c
  have hsm := I.small
  have hlen := I.len
  have hlen' := I.len'
  have hB : w.heap.size ≤ w2.heap.size := I.bel'.size
  refine br_dec (fun e1 => ?_) (fun e1 => ?_)
  · rw [hi] at e1
    refine at_nat tyNat scU32 (hs.kept I.bel') hi (by omega) fun d hd => ?_
    have hd9 := hl.low.get hd
    refine rdp_shl 1 rfl (by decide) ?_
    have e2 : IntKind.u32.wrap ((d : Int) * 2 ^ 1) = ((2 * d % 4294967296 : Nat) : Int) := by rw [IntKind.wrap_u32]; omega
    rw [e2, hc, dbl_or d bb hsm]
    refine z_eq rfl ?_
    refine wr_app1 tyNat I.own hB rfl (by omega) (by omega) rfl rfl (by omega) (by unfold maxLen; omega) fun a' c' w5 O hg _ _ => ?_
    refine rdp_shr 31 rfl (by decide) ?_
    have e3 : ((d : Nat) : Int) / 2 ^ 31 = ((d / 2147483648 : Nat) : Int) := by omega
    rw [e3]
    refine z_i64 (by omega) ?_
    refine hag _ _ ⟨k + 1, d / 2147483648, out ++ [(2 * d + bb) % 4294967296], ⟨by dsimp only; omega, rfl, by omega, by omega, by dsimp only; omega, ?_, I.low.snoc (by omega), ?_, I.bel'.own I.own hg (Nat.le_refl _)⟩⟩ (by dsimp only; omega)
    · rw [nats_app]; exact O
    · have hv := I.val'
      have ht := val_take_succ (B := 4294967296) hd
      rw [val_snoc, hlen, ht]
      have q1 : 4294967296 ^ (k + 1) * (d / 2147483648) = 4294967296 ^ k * (4294967296 * (d / 2147483648)) := by rw [Nat.pow_succ, Nat.mul_assoc]
      have q2 : 4294967296 ^ k * ((2 * d + bb) % 4294967296) + 4294967296 ^ k * (4294967296 * (d / 2147483648)) = 4294967296 ^ k * (2 * d) + 4294967296 ^ k * bb := by
        rw [← Nat.mul_add, ← Nat.mul_add]; congr 1; omega
      have q3 : 4294967296 ^ k * (2 * d) = 2 * (4294967296 ^ k * d) := by rw [Nat.mul_left_comm]
      rw [q1]; omega
  · rw [hi] at e1
    have hkn : k = n := by have := I.most; omega
    have hv := I.val'
    rw [List.take_of_length_le (by omega)] at hv
    rw [hc]
    refine wr_app1 tyNat I.own hB rfl (by omega) (by omega) rfl rfl (by omega) (by unfold maxLen; omega) fun a' c' w5 O hg _ _ => ?_
    have hO : Own w5 w.heap.size 146 1 a' (s1.2.1.2.1 + 1) c' (nats .u32 (out ++ [bb])) := by rw [nats_app]; exact O
    refine call_mono (callT (trimF 4294967296 a' _ c' _ w5 hO.sl (I.low.snoc (by omega)))) ?_
    rintro v w6 ⟨hv1, _, hN, hle, h'⟩
    have hle' : v.2.1 ≤ s1.2.1.2.1 + 1 := hle
    refine ⟨v, rfl, ?_, by omega, by rw [hv1]; exact hO.fr rfl, (I.bel'.own I.own hg (Nat.le_refl _)).trans h'⟩
    rw [val_snoc, hlen, hv] at hN
    exact hN
end Go.Proofs.YtajpdnphamomjaaGreat

/- Plain law of the binary division: bits of digits. -/

namespace Go.Proofs.YtajpdnphamomjaaGreat
open Go.RowKit Go.Q Go.Q.Num Go.V

theorem div_pow {B : Nat} (hB : 0 < B) {l : List Nat} {j d : Nat} (h : Low B l) (hd : l[j]? = some d) : val B l / B ^ j = d + B * val B (l.drop (j + 1)) := by
  have hj := (List.getElem?_eq_some_iff.1 hd).1
  have h1 := val_lt hB (h.take j)
  rw [List.length_take, Nat.min_eq_left (by omega)] at h1
  rw [val_take_split B l j (by omega), Nat.add_mul_div_left _ _ (Nat.pow_pos hB), Nat.div_eq_of_lt h1, Nat.zero_add, val_drop hd]
theorem pow_js (j s : Nat) : 2 ^ (32 * j + s) = 4294967296 ^ j * 2 ^ s := by rw [Nat.pow_add, Nat.pow_mul]
theorem bit_of {l : List Nat} {j d s : Nat} (h : Low 4294967296 l) (hd : l[j]? = some d) (hs : s < 32) : val 4294967296 l / 2 ^ (32 * j + s) % 2 = d / 2 ^ s % 2 := by
  rw [pow_js, ← Nat.div_div_eq_div_mul, div_pow (by omega) h hd]
  generalize val 4294967296 (l.drop (j + 1)) = R
  have e : 4294967296 = 2 ^ s * (2 * 2 ^ (31 - s)) := by
    have : s + 1 + (31 - s) = 32 := by omega
    rw [← Nat.mul_assoc, ← Nat.pow_succ, ← Nat.pow_add, this]
  rw [e, Nat.mul_assoc, Nat.add_mul_div_left _ _ (Nat.pow_pos (by omega)), Nat.mul_assoc]
  omega
theorem set_bit {out : List Nat} {j s o Q : Nat} (h : Low 4294967296 out) (ho : out[j]? = some o) (hv : val 4294967296 out = 2 ^ (32 * j + s + 1) * Q) (hs : s < 32) :
    o ||| 2 ^ s = o + 2 ^ s ∧ o + 2 ^ s < 4294967296 ∧ val 4294967296 (out.set j (o + 2 ^ s)) = val 4294967296 out + 2 ^ (32 * j + s) := by
  have h1 := div_pow (by omega) h ho
  have ho9 := h.get ho
  rw [hv, Nat.add_assoc, pow_js, Nat.mul_assoc, Nat.mul_div_cancel_left _ (Nat.pow_pos (by omega))] at h1
  have e : 4294967296 = 2 ^ (s + 1) * 2 ^ (31 - s) := by
    have : s + 1 + (31 - s) = 32 := by omega
    rw [← Nat.pow_add, this]
  have hc : ∃ c, o = 2 ^ (s + 1) * c := by
    refine ⟨Q - 2 ^ (31 - s) * val 4294967296 (out.drop (j + 1)), ?_⟩
    rw [Nat.mul_sub, h1, ← Nat.mul_assoc, ← e]; omega
  obtain ⟨c, hc⟩ := hc
  have hlt : c < 2 ^ (31 - s) := by
    rw [hc, e] at ho9
    exact Nat.lt_of_mul_lt_mul_left ho9
  have hp : 2 ^ s < 2 ^ (s + 1) := Nat.pow_lt_pow_right (by omega) (by omega)
  refine ⟨by rw [hc]; exact or_low (s + 1) c _ hp, ?_, ?_⟩
  · have h2 : 2 ^ (s + 1) * (c + 1) ≤ 4294967296 := by rw [e]; exact Nat.mul_le_mul_left _ hlt
    rw [Nat.mul_add, ← hc, Nat.mul_one] at h2
    omega
  · have h3 := val_set (B := 4294967296) (y := o + 2 ^ s) ho
    rw [Nat.mul_add, ← pow_js] at h3
    omega
theorem dm_step {X k y Q r b : Nat} (h : X / 2 ^ (k + 1) = Q * y + r) (hb : X / 2 ^ k % 2 = b) : X / 2 ^ k = 2 * Q * y + (2 * r + b) := by
  have e : X / 2 ^ (k + 1) = X / 2 ^ k / 2 := by rw [Nat.pow_succ, Nat.div_div_eq_div_mul]
  rw [e] at h
  have : 2 * Q * y = 2 * (Q * y) := Nat.mul_assoc _ _ _
  omega
theorem iand1 (k : IntKind) (a : Nat) (ha : a < 2 ^ k.bits) (h1 : 1 < 2 ^ k.bits) : iand k (a : Int) 1 = k.wrap ((a % 2 : Nat) : Int) := by
  unfold iand
  have e : BitVec.ofInt k.bits (1 : Int) = BitVec.ofNat k.bits 1 := BitVec.ofInt_natCast k.bits 1
  rw [BitVec.ofInt_natCast, e, BitVec.toNat_and, BitVec.toNat_ofNat, BitVec.toNat_ofNat, Nat.mod_eq_of_lt ha, Nat.mod_eq_of_lt h1, Nat.and_one_is_mod]
theorem short_step {la out : List Nat} {j d b0 rest : Nat} (hd : la[j]? = some d) (hlen : la.length = out.length) (h : val 4294967296 (la.drop (j + 1)) = val 4294967296 (out.drop (j + 1)) * b0 + rest) :
    val 4294967296 (la.drop j) = val 4294967296 ((out.set j ((4294967296 * rest + d) / b0)).drop j) * b0 + (4294967296 * rest + d) % b0 := by
  have hj := (List.getElem?_eq_some_iff.1 hd).1
  have hs : (out.set j ((4294967296 * rest + d) / b0))[j]? = some ((4294967296 * rest + d) / b0) := by rw [List.getElem?_set_self (by omega)]
  rw [val_drop hd, val_drop hs, List.drop_set_of_lt (by omega), h]
  have := Nat.div_add_mod (4294967296 * rest + d) b0
  rw [Nat.add_mul, Nat.mul_comm ((4294967296 * rest + d) / b0) b0, Nat.mul_add, Nat.mul_assoc]
  omega
end Go.Proofs.YtajpdnphamomjaaGreat

/- Package fraction: quotients of numbers. -/

namespace Go.Proofs.YtajpdnphamomjaaGreat
open Go.RowKit Go.Q Go.Q.Num Go.V

structure ShI (w0 : World) (la : List Nat) (b0 : Nat) (od : Addr) (n : Nat) (r i : Int) (w : World) (k rest : Nat) (out : List Nat) : Prop where
  i : i = (k : Int) - 1
  c : r = (rest : Int)
  small : rest < b0
  most : k ≤ n
  own : Own w w0.heap.size 146 1 (some od) n n (nats .u32 out)
  low : Low 4294967296 out
  val' : val 4294967296 (la.drop k) = val 4294967296 (out.drop k) * b0 + rest
  bel' : bel w0 w
theorem ShI.len {w0 : World} {la : List Nat} {b0 : Nat} {od : Addr} {n : Nat} {r i : Int} {w : World} {k rest : Nat} {out : List Nat} (h : ShI w0 la b0 od n r i w k rest out) : out.length = n := by
  have := h.own.1; simpa [nats_len] using this
structure LgI (w0 : World) (X y : Nat) (od : Addr) (n : Nat) (hd : Hd) (i : Int) (w : World) (k r Q : Nat) (out : List Nat) : Prop where
  i : i = (k : Int) - 1
  most : k ≤ 32 * n
  small : r < y
  num : NF w hd r
  off : Off (some od) hd.1
  own : Own w w0.heap.size 146 1 (some od) n n (nats .u32 out)
  low : Low 4294967296 out
  out' : val 4294967296 out = 2 ^ k * Q
  val' : X / 2 ^ k = Q * y + r
  bel' : bel w0 w
theorem LgI.len {w0 : World} {X y : Nat} {od : Addr} {n : Nat} {hd : Hd} {i : Int} {w : World} {k r Q : Nat} {out : List Nat} (h : LgI w0 X y od n hd i w k r Q out) : out.length = n := by
  have := h.own.1; simpa [nats_len] using this
theorem NF.len {w : World} {hd : Hd} {r y m : Nat} (h : NF w hd r) (hr : r < y) (hy : y < 4294967296 ^ m) : hd.2.1 ≤ m := h.len_le (by omega) (Nat.lt_trans hr hy)
theorem js (k : Nat) : k = 32 * (k / 32) + k % 32 := by omega

set_option maxHeartbeats 1600000 in
theorem divF (a b : Option Addr) (n m ca cb x y : Nat) (w : World) (ha : NumAt 4294967296 .u32 w a n ca x) (hb : NumAt 4294967296 .u32 w b m cb y) (hn : n ≤ 1000000000) (hm : m ≤ 1000000000) (hy : 0 < y) :
    call Tryz.prog 119 [.slice a n ca, .slice b m cb] (.many [.one .slice, .one .slice]) w (fun v w' => NF w' v.1 (x / y) ∧ NF w' v.2.1 (x % y) ∧ Fr w v.1.1 ∧ bel w w') := by
  have hb' := hb
  have hym := NumAt.lt (by omega) hb
  obtain ⟨la, hs, hl, rfl⟩ := ha
  obtain ⟨lb, hs', hl', rfl⟩ := hb
  have na := hs.nat
  have nb := hs'.nat
  refine call_of (S119_calls a n ca b m cb w _ ?_)
  unfold S119
  refine wr_make tyNat n rfl rfl (by omega) (by unfold maxLen; omega) fun od w1 L hb1 hod _ => ?_
  have O : Own w1 w.heap.size 146 1 (some od) n n (nats .u32 (List.replicate n 0)) := by
    have := L _ (Nat.le_refl _)
    rwa [show (madeCells (Value.int .u32 0).cells (n * 1)).toList = nats .u32 (List.replicate n 0) by rw [Nat.mul_one]; exact made_nat .u32 n] at this
  refine br_eq (fun e0 => ?_) (fun e0 => ?_)
  · -- one digit
    have e0' : m = 1 := by omega
    subst e0'
    obtain ⟨b0, rfl⟩ : ∃ b0, lb = [b0] := by
      match lb, nb with
      | [b0], _ => exact ⟨b0, rfl⟩
    have hb09 : b0 < 4294967296 := hl'.low b0 (by simp)
    have hvb : val 4294967296 [b0] = b0 := by simp [val]
    rw [hvb] at hy ⊢
    refine z_i64 (by omega) ?_
    refine loop_mk (fun s w' => ∃ k rest out, ShI w la b0 od n s.1 s.2.1 w' k rest out) (fun s _ => (s.2.1 + 1).toNat)
      ⟨n, 0, _, ⟨rfl, rfl, hy, Nat.le_refl _, O, Low.zeros (by omega) _, ?_, hb1⟩⟩ ?_
    · rw [List.drop_eq_nil_of_le (by omega), List.drop_eq_nil_of_le (by simp)]; simp [val]
    rintro s1 w2 ⟨k, rest, out, I⟩ again hag _
    have hi := I.i
    have hc := I.c
    have hsm := I.small
    have hlen := I.len
    have hmo := I.most
    refine br_dec (fun e1 => ?_) (fun e1 => ?_)
    · obtain ⟨j, rfl⟩ : ∃ j, k = j + 1 := ⟨k - 1, by omega⟩
      have hij : s1.2.1 = (j : Int) := by omega
      refine rdp_shl 32 rfl (by decide) ?_
      refine at_nat tyNat scU32 (hs.kept I.bel') hij (by omega) fun d hd => ?_
      have hd9 := hl.low.get hd
      have e2 : IntKind.u64.wrap (s1.1 * 2 ^ 32) = ((4294967296 * rest : Nat) : Int) := by rw [hc, IntWalk.u64_in _ (by omega)]; omega
      refine z_u64 (by omega) ?_
      rw [e2, ior_nat .u64 _ _ (by show _ < 2 ^ 64; omega) (by show _ < 2 ^ 64; omega), show (4294967296 * rest) = 2 ^ 32 * rest from rfl, or_low 32 rest d (by omega)]
      obtain ⟨t, ht⟩ : ∃ t, t = 2 ^ 32 * rest + d := ⟨_, rfl⟩
      rw [← ht]
      have ht64 : t < 18446744073709551616 := by omega
      refine z_u64 (by omega) ?_
      refine drw_mk fun w3 h' _ => ?_
      have hb3 := I.bel'.trans h'
      have O3 := I.own.kept h'
      refine at_nat tyNat scU32 (hs'.kept hb3) (j := 0) rfl (by omega) fun c0 hc0 => ?_
      have hc0' : c0 = b0 := by simpa using hc0.symm
      subst hc0'
      have hq : t / c0 < 4294967296 := by
        rw [Nat.div_lt_iff_lt_mul hy]
        have : 2 ^ 32 * (rest + 1) ≤ 2 ^ 32 * c0 := Nat.mul_le_mul_left _ hsm
        omega
      refine z_u64 (by omega) ?_
      refine rdp_quo (by omega) ?_
      have hqle := Nat.div_le_self t c0
      obtain ⟨qq, hqq⟩ : ∃ qq, qq = t / c0 := ⟨_, rfl⟩
      rw [← hqq] at hq hqle
      rw [← Int.ofNat_tdiv, ← hqq, IntWalk.u64_in _ (by omega)]
      refine z_u32 (by omega) ?_
      refine at_nat tyNat scU32 (hs'.kept hb3) (j := 0) rfl (by omega) fun c1 hc1 => ?_
      have hc1' : c1 = c0 := by simpa using hc1.symm
      subst hc1'
      refine z_u64 (by omega) ?_
      refine rdp_rem (by omega) ?_
      rw [← Int.ofNat_tmod]
      refine set_mk tyNat O3 (v := .int .u32 (qq : Int)) hij (by omega) rfl fun w5 O5 hg _ => ?_
      rw [nats_set] at O5
      refine z_i64 (by omega) ?_
      refine hag _ _ ⟨j, t % c1, out.set j qq, ⟨by dsimp only; omega, rfl, Nat.mod_lt _ hy, by omega, O5, I.low.set j hq, ?_, hb3.own O3 hg (Nat.le_refl _)⟩⟩ (by dsimp only; omega)
      rw [hqq, ht]
      exact short_step hd (by omega) I.val'
    · have hk0 : k = 0 := by omega
      subst hk0
      have hv := I.val'
      rw [List.drop_zero, List.drop_zero] at hv
      have hdm := (Nat.div_mod_unique (a := val 4294967296 la) (b := b0) (c := rest) (d := val 4294967296 out) hy).2 ⟨by rw [hv, Nat.mul_comm]; omega, hsm⟩
      refine call_mono (callT (trimF 4294967296 (some od) n n out w2 I.own.sl I.low)) ?_
      rintro v w6 ⟨hv1, _, hN, hle, h'⟩
      rw [hc]
      refine call_mono (callF (natOfF rest w6 (by omega))) ?_
      rintro u w7 ⟨hM, _, h''⟩
      refine ⟨((v, u, ()) : Hd × Hd × Unit), rfl, ?_, ?_, by rw [show ((v, u, ()) : Hd × Hd × Unit).1.1 = v.1 from rfl, hv1]; exact I.own.fr rfl, (I.bel'.trans h').trans h''⟩
      · rw [hdm.1]; exact hN.kept h''
      · rw [hdm.2]; exact hM
  · -- bit by bit
    refine z_i64 (by omega) (z_i64 (by omega) ?_)
    refine loop_mk (fun s w' => ∃ k r Q out, LgI w (val 4294967296 la) (val 4294967296 lb) od n s.1 s.2.1 w' k r Q out) (fun s _ => (s.2.1 + 1).toNat)
      ⟨32 * n, 0, 0, _, ⟨by dsimp only; omega, Nat.le_refl _, hy, NumAt.zero _ _ _, (fun _ _ _ h => by cases h), O, Low.zeros (by omega) _, by rw [val_zeros, Nat.mul_zero], ?_, hb1⟩⟩ ?_
    · have := val_lt (by omega) hl.low
      rw [na, show 4294967296 = 2 ^ 32 from rfl, ← Nat.pow_mul] at this
      rw [Nat.div_eq_of_lt this]; simp
    rintro s1 w2 ⟨k, r, Q, out, I⟩ again hag _
    have hi := I.i
    have hsm := I.small
    have hlen := I.len
    have hmo := I.most
    refine br_dec (fun e1 => ?_) (fun e1 => ?_)
    · obtain ⟨t, rfl⟩ : ∃ t, k = t + 1 := ⟨k - 1, by omega⟩
      have hit : s1.2.1 = (t : Int) := by omega
      refine join_in ?_
      have q1 : (t : Int).tdiv 32 = ((t / 32 : Nat) : Int) := (Int.ofNat_tdiv t 32).symm
      have q2 : (t : Int).tmod 32 = ((t % 32 : Nat) : Int) := (Int.ofNat_tmod t 32).symm
      rw [hit]
      refine rdp_quo (by omega) ?_
      rw [q1, IntWalk.i64_in _ (by omega)]
      have hjn : t / 32 < n := by omega
      refine at_nat tyNat scU32 (hs.kept I.bel') rfl hjn fun d hd => ?_
      have hd9 := hl.low.get hd
      refine rdp_rem (by omega) ?_
      rw [q2]
      refine rdp_shr (t % 32) rfl (by show _ ≤ 32; omega) ?_
      have q3 : ((d : Nat) : Int) / 2 ^ (t % 32) = ((d / 2 ^ (t % 32) : Nat) : Int) := by rw [Int.natCast_ediv]; simp
      have q4 : d / 2 ^ (t % 32) ≤ d := Nat.div_le_self _ _
      rw [q3, iand1 .u32 _ (by show _ < 2 ^ 32; omega) (by decide)]
      obtain ⟨bb, hbb⟩ : ∃ bb, bb = d / 2 ^ (t % 32) % 2 := ⟨_, rfl⟩
      rw [← hbb]
      have hbit : val 4294967296 la / 2 ^ t % 2 = bb := by
        rw [hbb, js t]
        rw [show (32 * (t / 32) + t % 32) % 32 = t % 32 by omega]
        exact bit_of hl.low hd (by omega)
      have hst := dm_step I.val' hbit
      refine z_u32 (by omega) ?_
      have hrl := NF.len I.num hsm hym
      refine call_mono (dblF s1.1.1 s1.1.2.1 s1.1.2.2 r bb w2 I.num (by omega) (by omega)) ?_
      rintro v w3 ⟨hV, hvl, hvf, h'⟩
      have hb3 := I.bel'.trans h'
      have O3 := I.own.kept h'
      refine call_mono (callC (compareF v.1 b v.2.1 m v.2.2 cb _ _ w3 hV (hb'.kept hb3))) ?_
      rintro cc w4 ⟨rfl, h''⟩
      have hb4 := hb3.trans h''
      have O4 := O3.kept h''
      have hV4 : NF w4 v (2 * r + bb) := hV.kept h''
      refine br_dec (fun e2 => ?_) (fun e2 => ?_)
      · have hge : val 4294967296 lb ≤ 2 * r + bb := by
          rcases Nat.lt_or_ge (2 * r + bb) (val 4294967296 lb) with q | q
          · unfold cmpn at e2; rw [if_pos q] at e2; omega
          · exact q
        refine call_mono (subF v.1 b v.2.1 m v.2.2 cb _ _ w4 hV4 (hb'.kept hb4) (by omega) hge) ?_
        rintro u w5 ⟨hU, hul, huf, h5⟩
        have hb5 := hb4.trans h5
        have O5 := O4.kept h5
        refine drw_mk fun w6 h6 _ => ?_
        have hb6 := hb5.trans h6
        have O6 := O5.kept h6
        have hU6 : NF w6 u _ := hU.kept h6
        refine rdp_quo (by omega) ?_
        rw [q1, IntWalk.i64_in _ (by omega)]
        obtain ⟨o, ho⟩ : ∃ o, out[t / 32]? = some o := ⟨_, List.getElem?_eq_getElem (by omega)⟩
        have ho9 := I.low.get ho
        refine at_mk tyNat scU32 O6.sl (s := .int .u32) (v := .int .u32 (o : Int)) (x := (o : Int)) rfl (by simp [nats, ho]) rfl ?_
        refine rdp_rem (by omega) ?_
        rw [q2]
        refine rdp_shl (t % 32) rfl (by show _ ≤ 32; omega) ?_
        have hp : 2 ^ (t % 32) < 4294967296 := by
          have : 2 ^ (t % 32) ≤ 2 ^ 31 := Nat.pow_le_pow_right (by omega) (by omega)
          omega
        have q5 : IntKind.u32.wrap (1 * 2 ^ (t % 32)) = ((2 ^ (t % 32) : Nat) : Int) := by
          have : (1 : Int) * 2 ^ (t % 32) = ((2 ^ (t % 32) : Nat) : Int) := by simp
          rw [this]
          generalize 2 ^ (t % 32) = pp at hp
          rw [IntWalk.u32_in _ (by omega)]
        have hov := I.out'
        rw [show t + 1 = 32 * (t / 32) + t % 32 + 1 by omega] at hov
        obtain ⟨r1, r2, r3⟩ := set_bit I.low ho hov (by omega)
        rw [show 32 * (t / 32) + t % 32 = t by omega] at r3
        rw [q5, ior_nat .u32 _ _ (by show _ < 2 ^ 32; omega) (by show _ < 2 ^ 32; omega), r1]
        refine z_u32 (by omega) ?_
        refine set_mk tyNat O6 (v := .int .u32 ((o + 2 ^ (t % 32) : Nat) : Int)) rfl hjn rfl fun w7 O7 hg _ => ?_
        rw [nats_set] at O7
        intro _
        refine z_i64 (by omega) ?_
        have hoff : Off (some od) u.1 := Off.fresh O4 huf
        refine hag _ _ ⟨t, 2 * r + bb - val 4294967296 lb, 2 * Q + 1, out.set (t / 32) (o + 2 ^ (t % 32)), ⟨rfl, by omega, by omega, hU6.off hoff hg, hoff, O7, I.low.set _ r2, ?_, ?_, hb6.own O6 hg (Nat.le_refl _)⟩⟩ (by dsimp only; omega)
        · rw [r3, I.out', Nat.pow_succ, Nat.mul_add, Nat.mul_one, Nat.mul_assoc, Nat.mul_left_comm]
        · rw [hst, Nat.add_mul, Nat.one_mul]; omega
      · have hlt : 2 * r + bb < val 4294967296 lb := by
          rcases Nat.lt_or_ge (2 * r + bb) (val 4294967296 lb) with q | q
          · exact q
          · unfold cmpn at e2; rw [if_neg (by omega)] at e2; split at e2 <;> omega
        intro _
        refine z_i64 (by omega) ?_
        refine hag _ _ ⟨t, 2 * r + bb, 2 * Q, out, ⟨rfl, by omega, hlt, hV4, Off.fresh I.own hvf, O4, I.low, ?_, hst, hb4⟩⟩ (by dsimp only; omega)
        rw [I.out', Nat.pow_succ, Nat.mul_assoc]
    · have hk0 : k = 0 := by omega
      subst hk0
      have hv := I.val'
      have ho := I.out'
      rw [Nat.pow_zero, Nat.div_one] at hv
      rw [Nat.pow_zero, Nat.one_mul] at ho
      have hdm := (Nat.div_mod_unique (a := val 4294967296 la) (b := val 4294967296 lb) (c := r) (d := Q) hy).2 ⟨by rw [hv, Nat.mul_comm]; omega, hsm⟩
      refine call_mono (callT (trimF 4294967296 (some od) n n out w2 I.own.sl I.low)) ?_
      rintro v w6 ⟨hv1, _, hN, hle, h'⟩
      refine ⟨((v, s1.1, ()) : Hd × Hd × Unit), rfl, ?_, ?_, by rw [show ((v, s1.1, ()) : Hd × Hd × Unit).1.1 = v.1 from rfl, hv1]; exact I.own.fr rfl, I.bel'.trans h'⟩
      · rw [hdm.1, ← ho]; exact hN
      · rw [hdm.2]; exact I.num.kept h'
end Go.Proofs.YtajpdnphamomjaaGreat

/- Package fraction: the greatest common divisor, small numbers, lowest terms. -/

namespace Go.Proofs.YtajpdnphamomjaaGreat
open Go.RowKit Go.Q Go.Q.Num Go.V

theorem gcdB (a b : Option Addr) (n m ca cb x y : Nat) (w : World) (ha : NumAt 4294967296 .u32 w a n ca x) (hb : NumAt 4294967296 .u32 w b m cb y) (hn : n ≤ 1000000000) (hm : m ≤ 1000000000) :
    call Tryz.prog 118 [.slice a n ca, .slice b m cb] (.one (.one .slice)) w (fun v w' => NF w' v (Nat.gcd x y) ∧ v.2.1 ≤ max n m ∧ bel w w') := by
  have hx := ha.lt (by omega)
  have hy := hb.lt (by omega)
  have hL := gcd_fits (B := 4294967296) (by omega) hx hy
  have g1 : 4294967296 ^ n ≤ 4294967296 ^ max n m := Nat.pow_le_pow_right (by omega) (by omega)
  have g2 : 4294967296 ^ m ≤ 4294967296 ^ max n m := Nat.pow_le_pow_right (by omega) (by omega)
  refine call_of (S118_calls a n ca b m cb w _ ?_)
  unfold S118
  refine loop_gh (G := Nat × Nat) (fun g s w' => NF w' s.1 g.1 ∧ NF w' s.2.1 g.2 ∧ g.1 < 4294967296 ^ max n m ∧ g.2 < 4294967296 ^ max n m ∧ Nat.gcd g.1 g.2 = Nat.gcd x y ∧ bel w w') (fun g => g.2)
    (x, y) ⟨ha, hb, by dsimp only; omega, by dsimp only; omega, rfl, bel.refl _⟩ ?_
  rintro ⟨p, q⟩ s1 w1 ⟨hp, hq, hp9, hq9, hg, hbel⟩ again hag _
  dsimp only at hp hq hp9 hq9 hg hag
  have hpl := hp.len_le (by omega) hp9
  have hql := hq.len_le (by omega) hq9
  refine br_dec (fun e1 => ?_) (fun e1 => ?_)
  · have hq0 : 0 < q := by
      rcases Nat.eq_zero_or_pos q with h0 | h0
      · subst h0
        have := hq.len_le (L := 0) (by omega) (by simp)
        omega
      · exact h0
    refine call_mono (divF _ _ _ _ _ _ _ _ w1 hp hq (by omega) (by omega) hq0) ?_
    rintro v w2 ⟨_, hr, _, h'⟩
    have hq2 : NF w2 s1.2.1 q := hq.kept h'
    have hlt := Nat.mod_lt p hq0
    refine hag (q, p % q) _ _ ⟨hq2, hr, hq9, by dsimp only; omega, ?_, hbel.trans h'⟩ hlt
    dsimp only
    rw [← hg, Nat.gcd_comm q, ← Nat.gcd_rec, Nat.gcd_comm]
  · have hq0 : q = 0 := by
      have h1 := hq.lt (by omega)
      have : s1.2.1.2.1 = 0 := by omega
      rw [this] at h1; simpa using h1
    subst hq0
    rw [Nat.gcd_zero_right] at hg
    subst hg
    exact ⟨s1.1, rfl, hp, hpl, hbel⟩

theorem numF (a : Option Addr) (n ca x : Nat) (w : World) (ha : NumAt 4294967296 .u32 w a n ca x) :
    call Tryz.prog 116 [.slice a n ca] (.many [.one (.int .i64), .one .bool]) w (fun v w' => v.2.1 = decide (x ≤ 100000000000000000) ∧ (x ≤ 100000000000000000 → v.1 = (x : Int)) ∧ bel w w') := by
  refine call_of (S116_calls a n ca w _ ?_)
  unfold S116
  obtain ⟨la, hs, hl, rfl⟩ := ha
  have na := hs.nat
  refine br_dec (fun e1 => ?_) (fun e1 => ?_)
  · have hge := hl.ge (by omega) (by rintro rfl; simp at na; omega)
    have : 4294967296 ^ 2 ≤ 4294967296 ^ (la.length - 1) := Nat.pow_le_pow_right (by omega) (by omega)
    have q : decide (val 4294967296 la ≤ 100000000000000000) = false := decide_eq_false (by omega)
    exact ⟨((0, false, ()) : Int × Bool × Unit), rfl, q.symm, (fun h => by omega), bel.refl _⟩
  · refine loop_gh (G := Nat) (fun k s w' => s.1 = ((val 4294967296 (la.take k) : Nat) : Int) ∧ s.2.1 = (k : Int) ∧ k ≤ n ∧ w' = w) (fun k => n - k) 0 ⟨by simp [val], rfl, by omega, rfl⟩ ?_
    rintro k s1 w1 ⟨hv, hk, hkn, rfl⟩ again hag _
    refine br_dec (fun e2 => ?_) (fun e2 => ?_)
    · refine at_nat tyNat scU32 hs hk (by omega) fun d hd => ?_
      have hd9 := hl.low.get hd
      have hlt := val_lt (by omega) (hl.low.take k)
      rw [List.length_take, Nat.min_eq_left (by omega)] at hlt
      have hk2 : k = 0 ∨ k = 1 := by omega
      refine z_u64 (by omega) ?_
      refine z_i64 (by omega) ?_
      refine rdp_shl (32 * k) (by omega) (by show _ ≤ 64; omega) ?_
      have h4 := val_take_succ (B := 4294967296) hd
      have hor : 4294967296 ^ k * d ||| val 4294967296 (la.take k) = 4294967296 ^ k * d + val 4294967296 (la.take k) := by
        have h5 : 4294967296 ^ k = 2 ^ (32 * k) := by rw [Nat.pow_mul]
        rw [h5] at hlt ⊢
        exact or_low _ _ _ hlt
      have hb : 4294967296 ^ k * d + val 4294967296 (la.take k) < 18446744073709551616 := by
        rcases hk2 with q | q <;> subst q <;> omega
      have e3 : IntKind.u64.wrap ((d : Int) * 2 ^ (32 * k)) = ((4294967296 ^ k * d : Nat) : Int) := by
        have : (d : Int) * 2 ^ (32 * k) = ((4294967296 ^ k * d : Nat) : Int) := by
          rw [Int.natCast_mul, Int.mul_comm]; congr 1; rw [Int.pow_mul]; simp
        rw [this, IntWalk.u64_in _ (by omega)]
      rw [e3, hv, ior_nat .u64 _ _ (by show _ < 2 ^ 64; omega) (by show _ < 2 ^ 64; omega), Nat.or_comm, hor]
      refine z_u64 (by omega) ?_
      refine z_i64 (by omega) ?_
      exact hag (k + 1) _ _ ⟨by dsimp only; rw [h4]; omega, by dsimp only; omega, by omega, rfl⟩ (by omega)
    · have hkk : k = n := by omega
      rw [List.take_of_length_le (by omega)] at hv
      refine z_eq rfl ?_
      have q : decide (s1.1 ≤ 100000000000000000) = decide (val 4294967296 la ≤ 100000000000000000) := decide_eq_decide.2 (by rw [hv]; omega)
      refine ⟨((IntKind.i64.wrap s1.1, decide (s1.1 ≤ 100000000000000000), ()) : Int × Bool × Unit), rfl, q, ?_, bel.refl _⟩
      · intro h; dsimp only; rw [hv, IntWalk.i64_in _ (by omega)]
end Go.Proofs.YtajpdnphamomjaaGreat

/- Package fraction: fractions of any size: lowest terms, sums, products. -/

namespace Go.Proofs.YtajpdnphamomjaaGreat
open Go.RowKit Go.Q Go.Q.Num Go.V

abbrev TE := Bool × Hd × Hd × Unit
abbrev EX (L : Nat) (w : World) (t : TE) (r : Rat) : Prop := t.1 = decide (r.num < 0) ∧ NF w t.2.1 r.num.natAbs ∧ NF w t.2.2.1 r.den ∧ t.2.1.2.1 ≤ L ∧ t.2.2.1.2.1 ≤ L
theorem EX.at {L : Nat} {w : World} {t : TE} {r : Rat} (h : EX L w t r) : ExAt L w (sBig.val t) r := by
  obtain ⟨h1, h2, h3, h4, h5⟩ := h
  exact ⟨_, _, _, _, _, _, by rw [← h1]; rfl, h2, h3, h4, h5⟩
theorem NF.up {w w' : World} {s : Hd} {x : Nat} (h : NF w s x) (hb : bel w w') : NF w' s x := h.kept hb
theorem EX.up {L : Nat} {w w' : World} {t : TE} {r : Rat} (h : EX L w t r) (hb : bel w w') : EX L w' t r := ⟨h.1, h.2.1.kept hb, h.2.2.1.kept hb, h.2.2.2⟩

def Apart (x1 : Addr) (s : Hd) (y : Nat) : Prop := ∀ ad, s.1 = some ad → y ≠ 0 → ad.block ≠ x1.block
theorem Apart.grown {x1 : Addr} {s : Hd} {y : Nat} {w w' : World} (h : Apart x1 s y) (hN : NF w s y) (hg : w.grownBy w' (some x1.block)) : NF w' s y :=
  NumAt.grown hN hg fun ad ha hy _ e => h ad ha hy (by injection e)
theorem Apart.fr {x1 : Addr} {s : Hd} {y : Nat} {w : World} {cs : List Value} (hb : Box w x1 cs) (h : Fr w s.1) : Apart x1 s y := fun ad ha _ e => by
  have := h ad ha; have := hb.lt; omega
theorem Apart.old {x1 : Addr} {s : Hd} {y : Nat} {w : World} (hN : NF w s y) (h : w.heap.size ≤ x1.block) : Apart x1 s y := fun ad ha hy e => by
  have := NumAt.lt_heap hN hy ad ha; omega
theorem pow_lt {n L : Nat} (h : n ≤ L) {x : Nat} (hx : x < 4294967296 ^ n) : x < 4294967296 ^ L := Nat.lt_of_lt_of_le hx (Nat.pow_le_pow_right (by omega) h)

theorem low_num (s : Bool) (p q : Nat) (hq : q ≠ 0) : (Rat.normalize (sg s p) q hq).num.natAbs = p / Nat.gcd p q ∧ (Rat.normalize (sg s p) q hq).den = q / Nat.gcd p q ∧ decide ((Rat.normalize (sg s p) q hq).num < 0) = (s && decide (p ≠ 0)) := by
  by_cases hp : p = 0
  · subst hp
    have e : Rat.normalize (sg s 0) q hq = 0 := by
      have : sg s 0 = 0 := by unfold sg; split <;> rfl
      rw [this]; exact Rat.normalize_zero hq
    rw [e, Nat.gcd_zero_left, Nat.zero_div, Nat.div_self (by omega)]
    exact ⟨rfl, rfl, by simp⟩
  · obtain ⟨h1, h2, h3⟩ := norm_num s p q hq hp
    exact ⟨h1, h2, by rw [h3]; simp [hp]⟩

set_option maxHeartbeats 800000 in
theorem lowE (s : Bool) (a b : Option Addr) (n m ca cb p q L : Nat) (w : World) (r : Rat) (ha : NumAt 4294967296 .u32 w a n ca p) (hb : NumAt 4294967296 .u32 w b m cb q) (hn : n ≤ L) (hm : m ≤ L) (hL : L ≤ 1000000000) (hr : ∃ hq : q ≠ 0, r = Rat.normalize (sg s p) q hq) :
    call Tryz.prog 107 [.bool s, .slice a n ca, .slice b m cb] (.one sBig) w (fun t w' => EX L w' t r ∧ (Fr w t.2.1.1 ∨ t.2.1.1 = a) ∧ (Fr w t.2.2.1.1 ∨ t.2.2.1.1 = b) ∧ bel w w') := by
  obtain ⟨hq, rfl⟩ := hr
  refine call_of (S107_calls s a n ca b m cb w _ ?_)
  unfold S107
  have hp9 := pow_lt hn (ha.lt (by omega))
  have hq9 := pow_lt hm (hb.lt (by omega))
  have hg : 0 < Nat.gcd p q := Nat.gcd_pos_of_pos_right _ (by omega)
  refine wr_alloc (z := .agg #[.bool false, .slice none 0 0, .slice none 0 0]) (by kernel_rfl) fun x1 w2 X h hx _ => ?_
  have hne : w.heap.size ≤ x1.block := by omega
  refine join_mk (fun s' w' => NF w' s'.1 (p / Nat.gcd p q) ∧ NF w' s'.2.1 (q / Nat.gcd p q) ∧ Apart x1 s'.1 (p / Nat.gcd p q) ∧ Apart x1 s'.2.1 (q / Nat.gcd p q) ∧ (Fr w s'.1.1 ∨ s'.1.1 = a) ∧ (Fr w s'.2.1.1 ∨ s'.2.1.1 = b) ∧ bel w w' ∧ Box w' x1 [.bool false, .slice none 0 0, .slice none 0 0]) (fun K hK => ?_) ?_
  · refine call_mono (gcdB a b n m ca cb p q w2 (ha.kept h) (hb.kept h) (by omega) (by omega)) ?_
    rintro g w3 ⟨hG, hgl, h'⟩
    replace h := h.trans h'; replace X := X.up h'; clear h'
    refine call_mono (callF (natOfF 1 w3 (by omega))) ?_
    rintro o w4 ⟨hO, _, h'⟩
    replace hG := hG.up h'
    replace h := h.trans h'; replace X := X.up h'; clear h'
    refine call_mono (callC (compareF g.1 o.1 g.2.1 o.2.1 g.2.2 o.2.2 _ _ w4 hG hO)) ?_
    rintro c w5 ⟨rfl, h'⟩
    replace hG := hG.up h'
    replace h := h.trans h'; replace X := X.up h'; clear h'
    refine br_ne (fun e1 => ?_) (fun e1 => ?_)
    · refine call_mono (divF a g.1 n g.2.1 ca g.2.2 p _ w5 (ha.kept h) hG (by omega) (by omega) hg) ?_
      rintro u w6 ⟨hU, _, fU, h'⟩
      have aU : Apart x1 u.1 (p / Nat.gcd p q) := Apart.fr X fU
      have fU' : Fr w u.1.1 := Fr.mono fU h.size
      replace hG := hG.up h'
      replace h := h.trans h'; replace X := X.up h'; clear h'
      refine call_mono (divF b g.1 m g.2.1 cb g.2.2 q _ w6 (hb.kept h) hG (by omega) (by omega) hg) ?_
      rintro v w7 ⟨hV, _, fV, h'⟩
      have aV : Apart x1 v.1 (q / Nat.gcd p q) := Apart.fr X fV
      have fV' : Fr w v.1.1 := Fr.mono fV h.size
      replace hU := NF.up hU h'
      replace h := h.trans h'; replace X := X.up h'; clear h'
      exact hK _ _ ⟨hU, hV, aU, aV, .inl fU', .inl fV', h, X⟩
    · have h1 : Nat.gcd p q = 1 := by
        unfold cmpn at e1
        split at e1
        · omega
        · split at e1 <;> omega
      refine hK _ _ ⟨?_, ?_, ?_, ?_, .inr rfl, .inr rfl, h, X⟩ <;> rw [h1, Nat.div_one]
      · exact ha.kept h
      · exact hb.kept h
      · exact Apart.old (s := (a, n, ca)) ha hne
      · exact Apart.old (s := (b, m, cb)) hb hne
  rintro ⟨u, v, _⟩ w5 ⟨hU, hV, aU, aV, fU, fV, h, X⟩ _
  dsimp only at hU hV aU aV fU fV ⊢
  have hgp : 0 < Nat.gcd p q := hg
  have hul : u.2.1 ≤ L := hU.len_le (by omega) (Nat.lt_of_le_of_lt (Nat.div_le_self _ _) hp9)
  have hvl : v.2.1 ≤ L := hV.len_le (by omega) (Nat.lt_of_le_of_lt (Nat.div_le_self _ _) hq9)
  obtain ⟨n1, n2, n3⟩ := low_num s p q hq
  have hpos : decide (((u.2.1 : Nat) : Int) > 0) = decide (p ≠ 0) := decide_eq_decide.2 (by
    constructor
    · rintro h0 rfl
      rw [Nat.zero_div] at hU
      have := hU.len_le (L := 0) (by omega) (by simp)
      omega
    · intro h0
      rcases Nat.eq_zero_or_pos u.2.1 with h1 | h1
      · have h2 := hU.lt (by omega)
        rw [h1, Nat.pow_zero] at h2
        have : 0 < p / Nat.gcd p q := Nat.div_pos (Nat.gcd_le_left q (by omega)) hgp
        omega
      · omega)
  have fin : ∀ (c : Bool), c = (s && decide (p ≠ 0)) → wu Tryz.prog (Instr.storeAt 118 (.pointer (some x1)) (.agg #[.bool c, .slice u.1 u.2.1 u.2.2, .slice v.1 v.2.1 v.2.2])) w5 fun w6 =>
      rd Tryz.prog (loadVar 118 x1) (.agg [.bool, .slice, .slice]) w6 fun (x7 : TE) => ∃ x : TE, Value.agg #[.bool x7.1, .slice x7.2.1.1 x7.2.1.2.1 x7.2.1.2.2, .slice x7.2.2.1.1 x7.2.2.1.2.1 x7.2.2.1.2.2] = sBig.val x ∧ EX L w6 x (Rat.normalize (sg s p) q hq) ∧ (Fr w x.2.1.1 ∨ x.2.1.1 = a) ∧ (Fr w x.2.2.1.1 ∨ x.2.2.1.1 = b) ∧ bel w w6 := by
    intro c hc
    refine wu_box X (by kernel_rfl) (Nat.le_refl 3) rfl fun w6 X' hg6 _ => ?_
    have h6 := h.grownAt hg6 hne
    refine rd_boxV X' (by kernel_rfl) rfl ?_
    refine ⟨((c, u, v, ()) : TE), rfl, ⟨?_, ?_, ?_, hul, hvl⟩, fU, fV, h6⟩
    · rw [hc]; exact n3.symm
    · rw [n1]; exact aU.grown hU hg6
    · rw [n2]; exact aV.grown hV hg6
  refine br_mk (fun e1 => fin _ (by rw [e1, Bool.true_and]; exact hpos)) (fun e1 => fin _ (by rw [e1]; rfl))
end Go.Proofs.YtajpdnphamomjaaGreat

/- Package fraction: sums and products of fractions of any size. -/

namespace Go.Proofs.YtajpdnphamomjaaGreat
open Go.RowKit Go.Q Go.Q.Num Go.V

abbrev exV (t : TE) : Value := .agg #[.bool t.1, .slice t.2.1.1 t.2.1.2.1 t.2.1.2.2, .slice t.2.2.1.1 t.2.2.1.2.1 t.2.2.1.2.2]
def NFv (B : Nat) (v : Value) (x L : Nat) (w : World) : Prop := ∃ s : Hd, v = .slice s.1 s.2.1 s.2.2 ∧ NF w s x ∧ s.2.1 ≤ L ∧ ∀ ad, s.1 = some ad → B ≤ ad.block
theorem NFv.up {B : Nat} {v : Value} {x L : Nat} {w w' : World} (h : NFv B v x L w) (hb : bel w w') : NFv B v x L w' := by
  obtain ⟨s, h1, h2, h3⟩ := h; exact ⟨s, h1, h2.up hb, h3⟩
theorem NFv.get {B : Nat} {s : Hd} {x L : Nat} {w : World} (h : NFv B (.slice s.1 s.2.1 s.2.2) x L w) : NF w s x ∧ s.2.1 ≤ L ∧ ∀ ad, s.1 = some ad → B ≤ ad.block := by
  obtain ⟨u, h1, h2, h3⟩ := h
  injection h1 with e1 e2 e3
  obtain ⟨a, n, c⟩ := s
  obtain ⟨a', n', c'⟩ := u
  dsimp only at e1 e2 e3 h3
  subst e1 e2 e3
  exact ⟨h2, h3⟩
theorem callF' {f : FuncId} {args : List Value} {w : World} {x L : Nat} (h : Calls Tryz.prog f args.toArray w (QNum 4294967296 .u32 x L w)) : call Tryz.prog f args (.one (.one .slice)) w (fun v w' => NF w' v x ∧ v.2.1 ≤ L ∧ Fr w v.1 ∧ bel w w') :=
  Calls.mono h fun _ _ ⟨a, n, c, he, h1, h2, h3, h4⟩ => ⟨(a, n, c), he, h1, h2, h4, h3⟩
theorem mulC2 (s u : Hd) (x y L M : Nat) (w : World) (h1 : NF w s x) (h2 : NF w u y) (hl1 : s.2.1 ≤ L) (hl2 : u.2.1 ≤ M) (hL : L ≤ 1000000) (hM : M ≤ 1000000) (B : Nat) (hB : B ≤ w.heap.size) :
    call Tryz.prog 106 [.slice s.1 s.2.1 s.2.2, .slice u.1 u.2.1 u.2.2] (.one (.one .slice)) w (fun v w' => bel w w' ∧ NFv B (.slice v.1 v.2.1 v.2.2) (x * y) (L + M) w') :=
  call_mono (callF' (mulF s.1 u.1 s.2.1 u.2.1 s.2.2 u.2.2 x y w h1 h2 (by omega) (by omega))) fun v w' ⟨hN, hl, hf, hb⟩ => ⟨hb, v, rfl, hN, by omega, fun ad ha => Nat.le_trans hB (hf ad ha)⟩
theorem past {w : World} {B : Nat} {p q : Option Addr} (hB : B < w.heap.size) (f : ∀ ad, q = some ad → B + 1 ≤ ad.block) (g : Fr w p ∨ p = q) : ∀ ad, p = some ad → B < ad.block := by
  intro ad ha
  rcases g with g | g
  · have := g ad ha; omega
  · have := f ad (by rw [← g]; exact ha); omega
theorem EX.grown {L : Nat} {w w' : World} {t : TE} {r : Rat} {b : Addr} (h : EX L w t r) (hg : w.grownBy w' (some b.block)) (k1 : ∀ ad, t.2.1.1 = some ad → b.block < ad.block) (k2 : ∀ ad, t.2.2.1.1 = some ad → b.block < ad.block) : EX L w' t r :=
  ⟨h.1, NumAt.grown h.2.1 hg (fun ad ha _ _ e => by have := k1 ad ha; injection e; omega), NumAt.grown h.2.2.1 hg (fun ad ha _ _ e => by have := k2 ad ha; injection e; omega), h.2.2.2⟩
theorem times_normE (r s : Rat) (b c : Bool) (h : b = decide (r.num < 0)) (h' : c = decide (s.num < 0)) : ∃ hq : r.den * s.den ≠ 0, r * s = Rat.normalize (sg (!(b == c)) (r.num.natAbs * s.num.natAbs)) (r.den * s.den) hq :=
  ⟨Nat.mul_ne_zero r.den_nz s.den_nz, (times_norm r s b c h h').symm⟩

set_option maxHeartbeats 800000 in
theorem mulE (t u : TE) (r s : Rat) (L M : Nat) (w : World) (h1 : EX L w t r) (h2 : EX M w u s) (hL : L ≤ 1000000) (hM : M ≤ 1000000) :
    call Tryz.prog 85 [exV t, exV u] (.one sBig) w (fun x w' => EX (L + M) w' x (r * s) ∧ Fr w x.2.1.1 ∧ Fr w x.2.2.1.1 ∧ bel w w') := by
  obtain ⟨t0, tn, td, _⟩ := t
  obtain ⟨u0, un, ud, _⟩ := u
  obtain ⟨a1, a2, a3, a4, a5⟩ := h1
  obtain ⟨b1, b2, b3, b4, b5⟩ := h2
  dsimp only at a1 a2 a3 a4 a5 b1 b2 b3 b4 b5
  refine call_of (S85_calls t0 tn.1 tn.2.1 tn.2.2 td.1 td.2.1 td.2.2 u0 un.1 un.2.1 un.2.2 ud.1 ud.2.1 ud.2.2 w _ ?_)
  unfold S85
  refine wr_box fun x1 w1 X1 h _ _ => ?_
  refine wr_box fun x3 w2 X3 h' _ _ => ?_
  replace h := h.trans h'; replace X1 := X1.up h'; clear h'
  refine wr_alloc (z := .agg #[.bool false, .slice none 0 0, .slice none 0 0]) (by kernel_rfl) fun x5 w3 Y h' hy _ => ?_
  have hne : w.heap.size ≤ x5.block := by rw [hy]; exact h.size
  replace h := h.trans h'; replace X1 := X1.up h'; replace X3 := X3.up h'; clear h'
  refine drw_mk fun w4 h' _ => ?_
  replace h := h.trans h'; replace X1 := X1.up h'; replace X3 := X3.up h'; replace Y := Y.up h'; clear h'
  refine flEx_mk (fun i _ v w => match i with
    | 9 => NFv (x5.block + 1) v (r.num.natAbs * s.num.natAbs) (L + M) w | 14 => NFv (x5.block + 1) v (r.den * s.den) (L + M) w
    | _ => True) (fun i _ _ _ _ h hb => by
      revert h
      split <;> intro h <;> first | exact h.up hb | trivial) ?_
  refine rd_box0 (by kernel_rfl) X1 rfl rfl ?_
  refine rd_box0 (by kernel_rfl) X3 rfl rfl ?_
  refine rd_box (by kernel_rfl) X1 rfl rfl ?_
  refine rd_box (by kernel_rfl) X3 rfl rfl ?_
  refine flc_mk (fun w' hb _ => mulC2 tn un _ _ L M w' (a2.up (h.trans hb)) (b2.up (h.trans hb)) a4 b4 hL hM _ (by have := Y.lt; have := hb.size; omega)) (fun x17 => ?_)
  refine rd_box (by kernel_rfl) X1 rfl rfl ?_
  refine rd_box (by kernel_rfl) X3 rfl rfl ?_
  refine flc_mk (fun w' hb _ => mulC2 td ud _ _ L M w' (a3.up (h.trans hb)) (b3.up (h.trans hb)) a5 b5 hL hM _ (by have := Y.lt; have := hb.size; omega)) (fun x24 => ?_)
  refine flend_mk fun w5 h' hp => ?_
  obtain ⟨p2, p1, _⟩ := hp
  replace h := h.trans h'; replace X1 := X1.up h'; replace X3 := X3.up h'; replace Y := Y.up h'; clear h'
  obtain ⟨n1, l1, f1⟩ := NFv.get p1
  obtain ⟨n2, l2, f2⟩ := NFv.get p2
  refine call_mono (lowE (!(t0 == u0)) x17.1 x24.1 x17.2.1 x24.2.1 x17.2.2 x24.2.2 _ _ (L + M) w5 (r * s) n1 n2 l1 l2 (by omega) (times_normE r s t0 u0 a1 b1)) ?_
  rintro (x : TE) w6 ⟨hE, g1, g2, h'⟩
  have hlt := Y.lt
  have k1 := past hlt f1 g1
  have k2 := past hlt f2 g2
  replace h := h.trans h'; replace Y := Y.up h'; clear h'
  refine wu_box Y (by kernel_rfl) (Nat.le_refl 3) rfl fun w7 Y' hg _ => ?_
  refine rd_boxV Y' (by kernel_rfl) rfl ?_
  exact ⟨x, rfl, hE.grown hg k1 k2, (fun ad ha => by have := k1 ad ha; omega), (fun ad ha => by have := k2 ad ha; omega), h.grownAt hg hne⟩
end Go.Proofs.YtajpdnphamomjaaGreat

/- Package fraction: sums of fractions of any size. -/

namespace Go.Proofs.YtajpdnphamomjaaGreat
open Go.RowKit Go.Q Go.Q.Num Go.V

set_option maxHeartbeats 1600000 in
theorem addE (t u : TE) (r s : Rat) (L M : Nat) (w : World) (h1 : EX L w t r) (h2 : EX M w u s) (hL : L ≤ 1000000) (hM : M ≤ 1000000) :
    call Tryz.prog 83 [exV t, exV u] (.one sBig) w (fun x w' => EX (L + M + 1) w' x (r + s) ∧ Fr w x.2.1.1 ∧ Fr w x.2.2.1.1 ∧ bel w w') := by
  obtain ⟨t0, tn, td, _⟩ := t
  obtain ⟨u0, un, ud, _⟩ := u
  obtain ⟨a1, a2, a3, a4, a5⟩ := h1
  obtain ⟨b1, b2, b3, b4, b5⟩ := h2
  dsimp only at a1 a2 a3 a4 a5 b1 b2 b3 b4 b5
  refine call_of (S83_calls t0 tn.1 tn.2.1 tn.2.2 td.1 td.2.1 td.2.2 u0 un.1 un.2.1 un.2.2 ud.1 ud.2.1 ud.2.2 w _ ?_)
  unfold S83
  refine wr_box fun x1 w1 X1 h _ _ => ?_
  refine wr_box fun x3 w2 X3 h' _ _ => ?_
  replace h := h.trans h'; replace X1 := X1.up h'; clear h'
  refine wr_alloc (z := .agg #[.bool false, .slice none 0 0, .slice none 0 0]) (by kernel_rfl) fun x5 w3 Y h' hy _ => ?_
  have hne : w.heap.size ≤ x5.block := by rw [hy]; exact h.size
  replace h := h.trans h'; replace X1 := X1.up h'; replace X3 := X3.up h'; clear h'
  refine drw_mk fun w4 h' _ => ?_
  replace h := h.trans h'; replace X1 := X1.up h'; replace X3 := X3.up h'; replace Y := Y.up h'; clear h'
  refine flEx_mk (fun _ _ v w => NFv (x5.block + 1) v (r.num.natAbs * s.den) (L + M) w) (fun _ _ _ _ _ h hb => h.up hb) ?_
  refine rd_box (by kernel_rfl) X1 rfl rfl ?_
  refine rd_box (by kernel_rfl) X3 rfl rfl ?_
  refine flc_mk (fun w' hb _ => mulC2 tn ud _ _ L M w' (a2.up (h.trans hb)) (b3.up (h.trans hb)) a4 b5 hL hM _ (by have := Y.lt; have := hb.size; omega)) (fun x15 => ?_)
  refine rd_box (by kernel_rfl) X3 rfl rfl ?_
  refine rd_box (by kernel_rfl) X1 rfl rfl ?_
  refine flend_mk fun w5 h' hp => ?_
  obtain ⟨p1, _⟩ := hp
  replace h := h.trans h'; replace X1 := X1.up h'; replace X3 := X3.up h'; replace Y := Y.up h'; clear h'
  refine call_mono (mulC2 un td (s.num.natAbs) r.den M L w5 (b2.up h) (a3.up h) b4 a5 hM hL (x5.block + 1) Y.lt) ?_
  rintro x20 w6 ⟨h', p2⟩
  replace p1 := p1.up h'
  replace h := h.trans h'; replace X1 := X1.up h'; replace X3 := X3.up h'; replace Y := Y.up h'; clear h'
  refine rd_box (by kernel_rfl) X1 rfl rfl ?_
  refine rd_box (by kernel_rfl) X3 rfl rfl ?_
  refine call_mono (mulC2 td ud r.den s.den L M w6 (a3.up h) (b3.up h) a5 b5 hL hM (x5.block + 1) Y.lt) ?_
  rintro x24 w7 ⟨h', p3⟩
  replace p1 := p1.up h'
  replace p2 := p2.up h'
  replace h := h.trans h'; replace X1 := X1.up h'; replace X3 := X3.up h'; replace Y := Y.up h'; clear h'
  refine rd_box0 (by kernel_rfl) X1 rfl rfl ?_
  refine rd_box0 (by kernel_rfl) X3 rfl rfl ?_
  obtain ⟨n1, l1, f1⟩ := NFv.get p1
  obtain ⟨n2, l2, f2⟩ := NFv.get p2
  have fin : ∀ (w8 : World) (b : Bool) (z : Hd) (v : Nat), bel w w8 → bel w7 w8 → Box w8 x5 [.bool false, .slice none 0 0, .slice none 0 0] → NFv (x5.block + 1) (.slice z.1 z.2.1 z.2.2) v (L + M + 1) w8 → (∃ hq : r.den * s.den ≠ 0, r + s = Rat.normalize (sg b v) (r.den * s.den) hq) →
      call Tryz.prog 107 [.bool b, .slice z.1 z.2.1 z.2.2, .slice x24.1 x24.2.1 x24.2.2] (.one sBig) w8 fun (x : TE) w9 =>
        wu Tryz.prog (Instr.storeAt 118 (.pointer (some x5)) (exV x)) w9 fun w10 => rd Tryz.prog (loadVar 118 x5) (.agg [.bool, .slice, .slice]) w10 fun (y : TE) =>
          ∃ x : TE, exV y = sBig.val x ∧ EX (L + M + 1) w10 x (r + s) ∧ Fr w x.2.1.1 ∧ Fr w x.2.2.1.1 ∧ bel w w10 := by
    intro w8 b z v h hb Y hz hr
    obtain ⟨n4, l4, f4⟩ := NFv.get hz
    obtain ⟨n3, l3, f3⟩ := NFv.get (p3.up hb)
    have hlt := Y.lt
    refine call_mono (lowE b z.1 x24.1 z.2.1 x24.2.1 z.2.2 x24.2.2 _ _ (L + M + 1) w8 (r + s) n4 n3 l4 (by omega) (by omega) hr) ?_
    rintro (x : TE) w9 ⟨hE, g1, g2, h'⟩
    have k1 := past hlt f4 g1
    have k2 := past hlt f3 g2
    replace h := h.trans h'; replace Y := Y.up h'; clear h'
    refine wu_box Y (by kernel_rfl) (Nat.le_refl 3) rfl fun w10 Y' hg _ => ?_
    refine rd_boxV Y' (by kernel_rfl) rfl ?_
    exact ⟨x, rfl, hE.grown hg k1 k2, (fun ad ha => by have := k1 ad ha; omega), (fun ad ha => by have := k2 ad ha; omega), h.grownAt hg hne⟩
  refine br_mk (fun e1 => ?_) (fun e1 => ?_)
  · have e1' : t0 = u0 := by simpa using e1
    refine drw_mk fun w8 h' _ => ?_
    have hb8 : bel w7 w8 := h'
    replace h := h.trans h'; replace X1 := X1.up h'; replace X3 := X3.up h'; replace Y := Y.up h'; clear h'
    refine flEx_mk (fun _ _ v w => NFv (x5.block + 1) v (r.num.natAbs * s.den + s.num.natAbs * r.den) (L + M + 1) w) (fun _ _ _ _ _ h hb => h.up hb) ?_
    refine rd_box0 (by kernel_rfl) X1 rfl rfl ?_
    refine flc_mk (fun w' hb _ => call_mono (addF x15.1 x20.1 x15.2.1 x20.2.1 x15.2.2 x20.2.2 _ _ w' ((n1.up hb8).up hb) ((n2.up hb8).up hb) (by omega) (by omega)) fun v w'' ⟨q1, q2, q3, q4⟩ => ⟨q4, v, rfl, q1, by omega, fun ad ha => by have := q3 ad ha; have := Y.lt; have := hb.size; omega⟩) (fun x35 => ?_)
    refine flend_mk fun w9 h' hp => ?_
    have hb9 := hb8.trans h'
    replace h := h.trans h'; replace Y := Y.up h'; clear h'
    exact fin w9 _ x35 _ h hb9 Y hp.1 (plus_same r s t0 a1 (by rw [e1']; exact b1))
  · have e1' : t0 ≠ u0 := by simpa using e1
    refine call_mono (callC (compareF x15.1 x20.1 x15.2.1 x20.2.1 x15.2.2 x20.2.2 _ _ w7 n1 n2)) ?_
    rintro c w8 ⟨rfl, h'⟩
    have hb8 : bel w7 w8 := h'
    replace h := h.trans h'; replace X1 := X1.up h'; replace X3 := X3.up h'; replace Y := Y.up h'; clear h'
    refine br_dec (fun e2 => ?_) (fun e2 => ?_)
    · have hge : s.num.natAbs * r.den ≤ r.num.natAbs * s.den := by
        rcases Nat.lt_or_ge (r.num.natAbs * s.den) (s.num.natAbs * r.den) with q | q
        · unfold cmpn at e2; rw [if_pos q] at e2; omega
        · exact q
      refine drw_mk fun w9 h' _ => ?_
      have hb9 := hb8.trans h'
      replace h := h.trans h'; replace X1 := X1.up h'; replace X3 := X3.up h'; replace Y := Y.up h'; clear h'
      refine flEx_mk (fun _ _ v w => NFv (x5.block + 1) v (r.num.natAbs * s.den - s.num.natAbs * r.den) (L + M + 1) w) (fun _ _ _ _ _ h hb => h.up hb) ?_
      refine rd_box0 (by kernel_rfl) X1 rfl rfl ?_
      refine flc_mk (fun w' hb _ => call_mono (subF x15.1 x20.1 x15.2.1 x20.2.1 x15.2.2 x20.2.2 _ _ w' ((n1.up hb9).up hb) ((n2.up hb9).up hb) (by omega) hge) fun v w'' ⟨q1, q2, q3, q4⟩ => ⟨q4, v, rfl, q1, by omega, fun ad ha => by have := q3 ad ha; have := Y.lt; have := hb.size; omega⟩) (fun x35 => ?_)
      refine flend_mk fun w10 h' hp => ?_
      have hb10 := hb9.trans h'
      replace h := h.trans h'; replace Y := Y.up h'; clear h'
      exact fin w10 _ x35 _ h hb10 Y hp.1 (plus_ge r s t0 u0 a1 b1 e1' hge)
    · have hge : r.num.natAbs * s.den ≤ s.num.natAbs * r.den := by
        rcases Nat.lt_or_ge (s.num.natAbs * r.den) (r.num.natAbs * s.den) with q | q
        · unfold cmpn at e2; rw [if_neg (by omega), if_pos q] at e2; omega
        · exact q
      refine drw_mk fun w9 h' _ => ?_
      have hb9 := hb8.trans h'
      replace h := h.trans h'; replace X1 := X1.up h'; replace X3 := X3.up h'; replace Y := Y.up h'; clear h'
      refine flEx_mk (fun _ _ v w => NFv (x5.block + 1) v (s.num.natAbs * r.den - r.num.natAbs * s.den) (L + M + 1) w) (fun _ _ _ _ _ h hb => h.up hb) ?_
      refine rd_box0 (by kernel_rfl) X3 rfl rfl ?_
      refine flc_mk (fun w' hb _ => call_mono (subF x20.1 x15.1 x20.2.1 x15.2.1 x20.2.2 x15.2.2 _ _ w' ((n2.up hb9).up hb) ((n1.up hb9).up hb) (by omega) hge) fun v w'' ⟨q1, q2, q3, q4⟩ => ⟨q4, v, rfl, q1, by omega, fun ad ha => by have := q3 ad ha; have := Y.lt; have := hb.size; omega⟩) (fun x35 => ?_)
      refine flend_mk fun w10 h' hp => ?_
      have hb10 := hb9.trans h'
      replace h := h.trans h'; replace Y := Y.up h'; clear h'
      exact fin w10 _ x35 _ h hb10 Y hp.1 (plus_lt r s t0 u0 a1 b1 e1' hge)
end Go.Proofs.YtajpdnphamomjaaGreat

/- Package fraction: Frac of an Exact, Of. -/

namespace Go.Proofs.YtajpdnphamomjaaGreat
open Go.RowKit Go.Q Go.Q.Num Go.V

abbrev FBo := (Int × Int × Unit) × Bool × Unit
def fracT (r : Rat) : FBo := if Fits r then ((r.num, ((r.den : Nat) : Int), ()), true, ()) else ((0, 0, ()), false, ())
abbrev rFB : RS := .many [.agg [.int .i64, .int .i64], .one .bool]
theorem callU {f : FuncId} {args : List Value} {w : World} {x : Nat} (h : Calls Tryz.prog f args.toArray w (QU64 x w)) : call Tryz.prog f args (.one (.one (.int .u64))) w (fun v w' => v = (x : Int) ∧ bel w w') :=
  Calls.mono h fun _ _ ⟨he, h1⟩ => ⟨(x : Int), he, rfl, h1.below⟩

set_option maxHeartbeats 400000 in
theorem fracE (t : TE) (r : Rat) (L : Nat) (w : World) (h1 : EX L w t r) :
    call Tryz.prog 102 [exV t] rFB w (fun x w' => x = fracT r ∧ bel w w') := by
  obtain ⟨t0, tn, td, _⟩ := t
  obtain ⟨a1, a2, a3, a4, a5⟩ := h1
  dsimp only at a1 a2 a3 a4 a5
  refine call_of (S102_calls t0 tn.1 tn.2.1 tn.2.2 td.1 td.2.1 td.2.2 w _ ?_)
  unfold S102
  refine wr_box fun x1 w1 X h _ _ => ?_
  refine wr_alloc (z := fracv 0 0) (by kernel_rfl) fun x3 w3 Y h' hy _ => ?_
  have hne : w.heap.size ≤ x3.block := by rw [hy]; exact h.size
  replace h := h.trans h'; replace X := X.up h'; clear h'
  refine rd_box (by kernel_rfl) X rfl rfl ?_
  refine call_mono (numF tn.1 tn.2.1 tn.2.2 _ _ (a2.up h)) ?_
  rintro (u : Int × Bool × Unit) w4 ⟨u1, u2, h'⟩
  replace h := h.trans h'; replace X := X.up h'; replace Y := Y.up h'; clear h'
  refine rd_box (by kernel_rfl) X rfl rfl ?_
  refine call_mono (numF td.1 td.2.1 td.2.2 _ _ (a3.up h)) ?_
  rintro (v : Int × Bool × Unit) w5 ⟨v1, v2, h'⟩
  replace h := h.trans h'; replace X := X.up h'; replace Y := Y.up h'; clear h'
  have put : ∀ (p q : Int) (b : Bool) (k : World → Prop), (∀ w6, bel w w6 → Box w6 x3 [.int .i64 p, .int .i64 q] → k w6) → wu Tryz.prog (Instr.storeAt 60 (.pointer (some x3)) (.agg #[.int .i64 p, .int .i64 q])) w5 k := by
    intro p q _ k hk
    exact wu_box Y (by kernel_rfl) (Nat.le_refl 2) rfl fun w6 Y h' _ => hk w6 (h.grownAt h' hne) Y
  have no : ¬ Fits r → wu Tryz.prog (Instr.storeAt 60 (.pointer (some x3)) (.agg #[.int .i64 0, .int .i64 0])) w5 fun w6 =>
      rd Tryz.prog (loadVar 60 x3) (.agg [.int .i64, .int .i64]) w6 fun y => ∃ x : FBo, Value.tuple #[.agg #[.int .i64 y.1, .int .i64 y.2.1], .bool false] = rFB.val x ∧ x = fracT r ∧ bel w w6 := by
    intro hn
    refine put 0 0 false _ fun w6 h Y => ?_
    refine rd_boxV Y (by kernel_rfl) rfl ⟨(((0, 0, ()), false, ()) : FBo), rfl, ?_, h⟩
    unfold fracT; rw [if_neg hn]
  refine br_not (fun e1 => no ?_) (fun e1 => ?_)
  · rintro ⟨f1, f2, f3⟩
    rw [u1] at e1
    have e1' : ¬ (r.num.natAbs ≤ 100000000000000000) := by simpa using e1
    omega
  refine br_not (fun e2 => no ?_) (fun e2 => ?_)
  · rintro ⟨f1, f2, f3⟩
    rw [v1] at e2
    have e2' : ¬ (r.den ≤ 100000000000000000) := by simpa using e2
    omega
  have e1' : r.num.natAbs ≤ 100000000000000000 := by rw [u1] at e1; simpa using e1
  have e2' : r.den ≤ 100000000000000000 := by rw [v1] at e2; simpa using e2
  have hf : Fits r := ⟨by omega, by omega, e2'⟩
  refine join_mk (fun s w6 => s.1 = r.num ∧ w6 = w5) (fun K hK => ?_) ?_
  · refine rd_box0 (by kernel_rfl) X rfl rfl ?_
    have hu := u2 e1'
    refine br_mk (fun e3 => ?_) (fun e3 => ?_)
    · have hneg : r.num < 0 := by rw [a1] at e3; simpa using e3
      refine z_eq (m := r.num) ?_ (hK _ _ ⟨rfl, rfl⟩)
      rw [hu, IntWalk.i64_in _ (by omega)]; omega
    · have hneg : ¬ r.num < 0 := by rw [a1] at e3; simpa using e3
      refine hK _ _ ⟨?_, rfl⟩
      show u.1 = r.num
      rw [hu]; omega
  rintro ⟨s, _⟩ w6 ⟨hs, rfl⟩ _
  have hs' : s = r.num := hs
  have hv := v2 e2'
  refine put _ _ true _ fun w7 h Y => ?_
  refine rd_boxV Y (by kernel_rfl) rfl ⟨((r.num, ((r.den : Nat) : Int), ()), true, ()), ?_, ?_, h⟩
  · dsimp only; rw [hs', hv]; rfl
  · unfold fracT; exact (if_pos hf).symm

def ofT (n d : Int) : FE := if d = 0 then invT else fitT (Rat.divInt n d)
theorem of_norm {n d : Int} (h0 : d ≠ 0) : ∃ hq : d.natAbs ≠ 0, Rat.normalize (sg (decide (n < 0) != decide (d < 0)) n.natAbs) d.natAbs hq = Rat.divInt n d := by
  refine ⟨by omega, ?_⟩
  rw [Rat.normalize_eq_mkRat, ← Rat.divInt_ofNat, Rat.divInt_eq_divInt_iff (by omega) h0]
  have h := sg_cross (n := n) (n' := d) (a := 1) (b := 1) (by omega) (by omega)
  simpa using h

set_option maxHeartbeats 800000 in
theorem ofF (n d : Int) (w : World) (hn : I64 n) (hd : I64 d) : call Tryz.prog 130 [.int .i64 n, .int .i64 d] rFE w (fun x w' => x = ofT n d ∧ bel w w') := by
  refine call_of (S130_calls n d w _ ?_)
  unfold S130
  refine wr_alloc (z := fracv 0 0) (by kernel_rfl) fun x1 w1 Y h hy _ => ?_
  have hne : w.heap.size ≤ x1.block := by omega
  have put : ∀ (w4 : World) (cs : List Value) (p q e : Int), cs.length = 2 → bel w w4 → Box w4 x1 cs → (((p, q, ()), e, ()) : FE) = ofT n d → wu Tryz.prog (Instr.storeAt 60 (.pointer (some x1)) (.agg #[.int .i64 p, .int .i64 q])) w4 fun w10 =>
      rd Tryz.prog (loadVar 60 x1) (.agg [.int .i64, .int .i64]) w10 fun y => ∃ x : FE, Value.tuple #[.agg #[.int .i64 y.1, .int .i64 y.2.1], .int .i64 e] = rFE.val x ∧ x = ofT n d ∧ bel w w10 := by
    intro w4 cs p q e hl h Y he
    refine wu_box Y (by kernel_rfl) (by rw [hl]; exact Nat.le_refl 2) rfl fun w5 Y h' _ => ?_
    have hl' : putAt cs 0 [.int .i64 p, .int .i64 q] = [.int .i64 p, .int .i64 q] := by
      match cs, hl with
      | [_, _], _ => rfl
    have Y2 : Box w5 x1 [.int .i64 p, .int .i64 q] := by rw [← hl']; exact Y
    exact rd_boxV Y2 (by kernel_rfl) rfl ⟨(((p, q, ()), e, ()) : FE), rfl, he, h.grownAt h' hne⟩
  refine br_eq (fun e0 => put _ _ _ _ _ rfl h Y (by unfold ofT; rw [if_pos e0]; rfl)) (fun e0 => ?_)
  refine call_mono (callU (sizeF n _ hn.1 hn.2)) ?_
  rintro _ w2 ⟨rfl, h'⟩
  replace h := h.trans h'; replace Y := Y.up h'; clear h'
  refine call_mono (callU (sizeF d _ hd.1 hd.2)) ?_
  rintro _ w3 ⟨rfl, h'⟩
  replace h := h.trans h'; replace Y := Y.up h'; clear h'
  refine call_mono (callU (gcdF n.natAbs d.natAbs _ (by omega) (by omega))) ?_
  rintro _ w4 ⟨rfl, h'⟩
  replace h := h.trans h'; replace Y := Y.up h'; clear h'
  refine drw_mk fun w5 h' _ => ?_
  replace h := h.trans h'; replace Y := Y.up h'; clear h'
  obtain ⟨hq, hr⟩ := of_norm (n := n) e0
  obtain ⟨m1, m2, m3⟩ := low_num (decide (n < 0) != decide (d < 0)) n.natAbs d.natAbs hq
  rw [hr] at m1 m2 m3
  have hg : 0 < Nat.gcd n.natAbs d.natAbs := Nat.gcd_pos_of_pos_right _ (by omega)
  have l1 := Nat.div_le_self n.natAbs (Nat.gcd n.natAbs d.natAbs)
  have l2 := Nat.div_le_self d.natAbs (Nat.gcd n.natAbs d.natAbs)
  obtain ⟨r, hr'⟩ : ∃ r, r = Rat.divInt n d := ⟨_, rfl⟩
  have hT : ofT n d = fitT r := by unfold ofT; rw [if_neg e0, hr']
  rw [← hr'] at m1 m2 m3
  refine rdp_quo (by omega) ?_
  rw [← Int.ofNat_tdiv, ← m1]
  rw [← m1] at l1
  rw [← m2] at l2
  rw [IntWalk.u64_in _ (by omega)]
  refine rdp_quo (by omega) ?_
  rw [← Int.ofNat_tdiv, ← m2, IntWalk.u64_in _ (by omega)]
  have bad : ¬ Fits r → (((0, 0, ()), 8, ()) : FE) = ofT n d := fun hf => by rw [hT]; unfold fitT; rw [if_neg hf]
  refine br_dec (fun e1 => put _ _ _ _ _ rfl h Y (bad fun hf => by have := hf.1; have := hf.2.1; omega)) (fun e1 => ?_)
  refine br_dec (fun e2 => put _ _ _ _ _ rfl h Y (bad fun hf => by have := hf.2.2; omega)) (fun e2 => ?_)
  have hf : Fits r := ⟨by omega, by omega, by omega⟩
  refine z_i64 (by omega) (z_i64 (by omega) ?_)
  refine wr_alloc (z := fracv 0 0) (by kernel_rfl) fun x20 w6 Z h' hz _ => ?_
  have hne2 : w.heap.size ≤ x20.block := by rw [hz]; exact h.size
  have hyz : x1.block < x20.block := by rw [hz]; exact Y.lt
  replace h := h.trans h'; replace Y := Y.up h'; clear h'
  refine wu_box Z (by kernel_rfl) (Nat.le_refl 2) rfl fun w7 Z hg7 _ => ?_
  replace h := h.grownAt hg7 hne2
  replace Y := Y.grown hg7 (by intro e; injection e; omega)
  have hP : r.num < 0 ↔ (!(decide (n < 0) == decide (d < 0))) = true ∧ r.num ≠ 0 := by
    have q : (decide (n < 0) != decide (d < 0)) = !(decide (n < 0) == decide (d < 0)) := rfl
    rw [q] at m3
    have m1' : n.natAbs = 0 → r.num = 0 := by
      intro h0; rw [h0, Nat.zero_div] at m1; omega
    have m1'' : r.num = 0 → n.natAbs = 0 := by
      intro h0
      rw [h0] at m1
      rcases Nat.eq_zero_or_pos n.natAbs with q | q
      · exact q
      · have : 0 < n.natAbs / Nat.gcd n.natAbs d.natAbs := Nat.div_pos (Nat.gcd_le_left _ q) hg
        have e : (0 : Int).natAbs = 0 := rfl
        omega
    constructor
    · intro hneg
      have m3' := m3
      rw [decide_eq_true hneg] at m3'
      have := m3'.symm
      rw [Bool.and_eq_true] at this
      exact ⟨this.1, by omega⟩
    · rintro ⟨q1, q2⟩
      have : decide (n.natAbs ≠ 0) = true := decide_eq_true (fun h0 => q2 (m1' h0))
      rw [q1, this] at m3
      simpa using m3
  refine join_mk (fun _ w8 => Box w8 x20 [.int .i64 r.num, .int .i64 ((r.den : Nat) : Int)] ∧ bel w w8 ∧ Box w8 x1 [.int .i64 0, .int .i64 0]) (fun K hK => ?_) ?_
  · refine br_mk (fun e3 => ?_) (fun e3 => ?_)
    · refine rd_box0 (by kernel_rfl) Z rfl rfl ?_
      refine z_i64 (by omega) ?_
      have Z0 := wu_boxi (P := Tryz.prog) (t := 2) (i := 0) (v := .int .i64 (0 - ((r.num.natAbs : Nat) : Int))) (k := K ()) Z (by kernel_rfl) (by show 0 < 2; omega) rfl fun w8 Z h' _ => hK _ _ ⟨?_, h.grownAt h' hne2, Y.grown h' (by intro e; injection e; omega)⟩
      · rwa [add_zero] at Z0
      · have : 0 - ((r.num.natAbs : Nat) : Int) = r.num := by
          rcases Decidable.em (r.num = 0) with q | q
          · omega
          · have := hP.2 ⟨e3, q⟩; omega
        rw [← this]
        exact Z
    · refine hK _ _ ⟨?_, h, Y⟩
      have : ((r.num.natAbs : Nat) : Int) = r.num := by
        rcases Decidable.em (r.num < 0) with q | q
        · have := (hP.1 q).1; rw [e3] at this; cases this
        · omega
      rw [← this]
      exact Z
  rintro _ w8 ⟨Z, h, Y⟩ _
  refine rd_boxN Z (by kernel_rfl) rfl ?_
  refine put _ _ _ _ _ rfl h Y ?_
  rw [hT]; unfold fitT; rw [if_pos hf]
end Go.Proofs.YtajpdnphamomjaaGreat

/- Package fraction: operate, Add, Mul. -/

namespace Go.Proofs.YtajpdnphamomjaaGreat
open Go.RowKit Go.Q Go.Q.Num Go.V

theorem small_mul {a b : Int} (h1 : -1073741824 < a) (h2 : a < 1073741824) (h3 : -1073741824 < b) (h4 : b < 1073741824) : -1152921504606846976 ≤ a * b ∧ a * b ≤ 1152921504606846976 := by
  have : (a * b).natAbs ≤ 1073741824 * 1073741824 := by
    rw [Int.natAbs_mul]; exact Nat.mul_le_mul (by omega) (by omega)
  omega
theorem EX.of {L : Nat} {w : World} {t : TE} {r : Rat} (h : ExAt L w (exV t) r) : EX L w t r := by
  obtain ⟨a, n, c, b, m, d, h1, h2, h3, h4, h5⟩ := h
  injection h1 with h1
  injection h1 with h1
  injection h1 with e0 h1
  injection h1 with e1 h1
  injection h1 with e2 _
  injection e0 with e0
  injection e1 with q1 q2 q3
  injection e2 with q4 q5 q6
  subst q1 q2 q3 q4 q5 q6
  exact ⟨e0, h2, h3, h4, h5⟩
theorem EX.mono {L M : Nat} {w : World} {t : TE} {r : Rat} (h : EX L w t r) (hl : L ≤ M := by omega) : EX M w t r := ⟨h.1, h.2.1, h.2.2.1, by have := h.2.2.2.1; omega, by have := h.2.2.2.2; omega⟩
theorem callE {f : FuncId} {args : List Value} {w : World} {L : Nat} {r : Rat} (h : Calls Tryz.prog f args.toArray w (fun e w' => ∃ v, e = .returned v ∧ ExAt L w' v r ∧ Below w.heap.size w w')) : call Tryz.prog f args (.one sBig) w (fun (x : TE) w' => EX L w' x r ∧ bel w w') :=
  Calls.mono h fun _ _ ⟨v, he, ⟨a, n, c, b, m, d, hv, h1, h2, h3, h4⟩, h5⟩ => ⟨((decide (r.num < 0), (a, n, c), (b, m, d), ()) : TE), by rw [he, hv]; rfl, ⟨rfl, h1, h2, h3, h4⟩, h5⟩
theorem fb_inj {x : (Int × Int × Unit) × Bool × Unit} {y : FBo} (h : Value.tuple #[.agg #[.int .i64 x.1.1, .int .i64 x.1.2.1], .bool x.2.1] = rFB.val y) : x = y := by
  obtain ⟨⟨a, b, _⟩, c, _⟩ := x
  obtain ⟨⟨a', b', _⟩, c', _⟩ := y
  have h : Value.tuple #[.agg #[.int .i64 a, .int .i64 b], .bool c] = Value.tuple #[.agg #[.int .i64 a', .int .i64 b'], .bool c'] := h
  simp at h
  obtain ⟨⟨rfl, rfl⟩, rfl⟩ := h
  rfl
theorem valid10f (n d : Int) (w : World) (a : I64 n) (b : I64 d) : Calls Tryz.prog 68 #[fracv n d] w (QBool (decide (IsFrac n d)) w) := validF n d w a.1 a.2 b.1 b.2
theorem add_div {n d n' d' : Int} (h : IsFrac n d) (h' : IsFrac n' d') : Rat.divInt (n * d' + n' * d) (d * d') = Rat.divInt n d + Rat.divInt n' d' := (Rat.divInt_add_divInt n n' (by have := h.1; omega) (by have := h'.1; omega)).symm

set_option maxHeartbeats 400000 in
theorem nearA (c0 c1 : Addr) (n d n' d' : Int) (w : World) (X : Box w c0 [.int .i64 n, .int .i64 d]) (X1 : Box w c1 [.int .i64 n', .int .i64 d']) (s : Small n d) (s' : Small n' d') (hd : 1 ≤ d) (hd' : 1 ≤ d') :
    call Tryz.prog 124 [.pointer (some c0), .pointer (some c1)] (.many [.one (.int .i64), .one (.int .i64)]) w (fun x w' => x.1 = n * d' + n' * d ∧ x.2.1 = d * d' ∧ bel w w') := by
  obtain ⟨s1, s2, s3⟩ := s
  obtain ⟨s4, s5, s6⟩ := s'
  have m1 := small_mul s1 s2 (show -1073741824 < d' by omega) s6
  have m2 := small_mul s4 s5 (show -1073741824 < d by omega) s3
  have m3 := small_mul (show -1073741824 < d by omega) s3 (show -1073741824 < d' by omega) s6
  have m4 := small_mul s1 s2 s4 s5
  refine call_of (S124_calls c0 c1 w _ ?_)
  unfold S124
  refine drw_mk fun w1 h _ => ?_
  replace X := X.up h
  replace X1 := X1.up h
  refine rd_box0 (by kernel_rfl) X rfl rfl ?_
  refine rd_box (by kernel_rfl) X1 rfl rfl ?_
  refine z_i64 (by omega) ?_
  refine rd_box0 (by kernel_rfl) X1 rfl rfl ?_
  refine rd_box (by kernel_rfl) X rfl rfl ?_
  refine z_i64 (by omega) (z_i64 (by omega) ?_)
  refine rd_box (by kernel_rfl) X rfl rfl ?_
  refine rd_box (by kernel_rfl) X1 rfl rfl ?_
  refine z_i64 (by omega) ?_
  exact ⟨((n * d' + n' * d, d * d', ()) : Int × Int × Unit), rfl, rfl, rfl, h⟩

set_option maxHeartbeats 1600000 in
theorem operA (c0 c1 : Addr) (n d n' d' : Int) (w : World) (X : Box w c0 [.int .i64 n, .int .i64 d]) (X1 : Box w c1 [.int .i64 n', .int .i64 d']) (a : I64 n ∧ I64 d) (b : I64 n' ∧ I64 d') :
    call Tryz.prog 123 [fracv n d, fracv n' d', .func (.func 124) #[] #[.pointer (some c0), .pointer (some c1)], .func (.func 83) #[] #[]] rFE w (fun x w' => x = opT n d n' d' (fun r s => r + s) ∧ bel w w') := by
  refine call_of (S123add_calls n d n' d' c0 c1 w _ ?_)
  unfold S123add
  refine wr_box fun x1 w1 X2 h _ _ => ?_
  refine wr_box fun x3 w2 X3 h' _ _ => ?_
  replace h := h.trans h'; replace X2 := X2.up h'; clear h'
  refine wr_alloc (z := fracv 0 0) (by kernel_rfl) fun x5 w3 Y h' hy _ => ?_
  have hne : w.heap.size ≤ x5.block := by rw [hy]; exact h.size
  replace h := h.trans h'; replace X2 := X2.up h'; replace X3 := X3.up h'; clear h'
  have put : ∀ (w4 : World) (cs : List Value) (p q e : Int), cs.length = 2 → bel w w4 → Box w4 x5 cs → (((p, q, ()), e, ()) : FE) = opT n d n' d' (fun r s => r + s) → wu Tryz.prog (Instr.storeAt 60 (.pointer (some x5)) (.agg #[.int .i64 p, .int .i64 q])) w4 fun w10 =>
      rd Tryz.prog (loadVar 60 x5) (.agg [.int .i64, .int .i64]) w10 fun y => ∃ x : FE, Value.tuple #[.agg #[.int .i64 y.1, .int .i64 y.2.1], .int .i64 e] = rFE.val x ∧ x = opT n d n' d' (fun r s => r + s) ∧ bel w w10 := by
    intro w4 cs p q e hl h Y he
    refine wu_box Y (by kernel_rfl) (by rw [hl]; exact Nat.le_refl 2) rfl fun w5 Y h' _ => ?_
    have hl' : putAt cs 0 [.int .i64 p, .int .i64 q] = [.int .i64 p, .int .i64 q] := by
      match cs, hl with
      | [_, _], _ => rfl
    have Y2 : Box w5 x5 [.int .i64 p, .int .i64 q] := by rw [← hl']; exact Y
    exact rd_boxV Y2 (by kernel_rfl) rfl ⟨(((p, q, ()), e, ()) : FE), rfl, he, h.grownAt h' hne⟩
  refine rd_boxN X2 (by kernel_rfl) rfl ?_
  refine call_mono (callB (valid10f n d _ a.1 a.2)) ?_
  rintro x w4 ⟨rfl, h'⟩
  replace h := h.trans h'; replace X2 := X2.up h'; replace X3 := X3.up h'; replace Y := Y.up h'; clear h'
  refine br_not (fun e1 => put _ _ _ _ _ rfl h Y (opT_no (.inl e1)).symm) (fun e1 => ?_)
  refine rd_boxN X3 (by kernel_rfl) rfl ?_
  refine call_mono (callB (valid10f n' d' _ b.1 b.2)) ?_
  rintro x w5 ⟨rfl, h'⟩
  replace h := h.trans h'; replace X2 := X2.up h'; replace X3 := X3.up h'; replace Y := Y.up h'; clear h'
  refine br_not (fun e2 => put _ _ _ _ _ rfl h Y (opT_no (.inr e2)).symm) (fun e2 => ?_)
  simp only [decide_eq_true_eq] at e1 e2
  obtain ⟨r1, r2, r3⟩ := ratv_frac e1
  obtain ⟨t1, t2, t3⟩ := ratv_frac e2
  have hT : opT n d n' d' (fun r s => r + s) = fitT (ratv n d + ratv n' d') := by unfold opT; rw [if_pos ⟨e1, e2⟩]
  refine join_mk (fun _ w6 => bel w w6 ∧ Box w6 x1 [.int .i64 n, .int .i64 d] ∧ Box w6 x3 [.int .i64 n', .int .i64 d'] ∧ Box w6 x5 [.int .i64 0, .int .i64 0]) (fun K hK => ?_) ?_
  · refine rd_boxN X2 (by kernel_rfl) rfl ?_
    refine call_mono (callB (smallF n d _)) ?_
    rintro x w6 ⟨rfl, h'⟩
    replace h := h.trans h'; replace X2 := X2.up h'; replace X3 := X3.up h'; replace Y := Y.up h'; clear h'
    refine br_mk (fun e3 => ?_) (fun e3 => hK _ _ ⟨h, X2, X3, Y⟩)
    refine rd_boxN X3 (by kernel_rfl) rfl ?_
    refine call_mono (callB (smallF n' d' _)) ?_
    rintro x w7 ⟨rfl, h'⟩
    replace h := h.trans h'; replace X2 := X2.up h'; replace X3 := X3.up h'; replace Y := Y.up h'; clear h'
    refine br_mk (fun e4 => ?_) (fun e4 => hK _ _ ⟨h, X2, X3, Y⟩)
    simp only [decide_eq_true_eq] at e3 e4
    refine call_mono (nearA c0 c1 n d n' d' w7 (X.up h) (X1.up h) e3 e4 e1.1 e2.1) ?_
    rintro (x : Int × Int × Unit) w8 ⟨hx1, hx2, h'⟩
    replace h := h.trans h'; replace Y := Y.up h'; clear h'
    dsimp only
    rw [hx1, hx2]
    have q1 := small_mul e3.1 e3.2.1 (show -1073741824 < d' by have := e2.1; omega) e4.2.2
    have q2 := small_mul e4.1 e4.2.1 (show -1073741824 < d by have := e1.1; omega) e3.2.2
    have q3 := small_mul (show -1073741824 < d by have := e1.1; omega) e3.2.2 (show -1073741824 < d' by have := e2.1; omega) e4.2.2
    have q4 := small_mul e3.1 e3.2.1 e4.1 e4.2.1
    refine call_mono (ofF (n * d' + n' * d) (d * d') w8 ⟨by omega, by omega⟩ ⟨by omega, by omega⟩) ?_
    rintro (t : FE) w9 ⟨ht, h'⟩
    replace h := h.trans h'; replace Y := Y.up h'; clear h'
    have hdd : d * d' ≠ 0 := Int.mul_ne_zero (by have := e1.1; omega) (by have := e2.1; omega)
    refine put _ _ t.1.1 t.1.2.1 t.2.1 rfl h Y ?_
    show t = _
    rw [ht, hT]; unfold ofT
    rw [if_neg hdd, ratv_div e1, ratv_div e2, add_div e1 e2]
  rintro _ w6 ⟨h, X2, X3, Y⟩ _
  refine drw_mk fun w7 h' _ => ?_
  replace h := h.trans h'; replace X2 := X2.up h'; replace X3 := X3.up h'; replace Y := Y.up h'; clear h'
  refine flEx_mk (fun i _ v w => match i with
    | 2 => ExAt 2 w v (ratv n d) | 4 => ExAt 2 w v (ratv n' d') | 5 => ExAt 5 w v (ratv n d + ratv n' d') | 6 => v = rFB.val (fracT (ratv n d + ratv n' d'))
    | 10 => ∃ ad, v = .pointer (some ad) ∧ Box w ad [.int .i64 0, .int .i64 0] ∧ x5.block < ad.block
    | _ => True) (fun i _ _ _ _ h hb => by
      revert h
      split <;> intro h <;> first | exact ExAt.kept h hb | exact h | (obtain ⟨ad, k1, k2, k3⟩ := h; exact ⟨ad, k1, k2.up hb, k3⟩)) ?_
  refine rd_boxN X2 (by kernel_rfl) rfl ?_
  refine flc_mk (fun w' _ _ => call_mono (callE (fromV n d (ratv n d) w' ⟨r1, r2, r3⟩)) fun x w'' ⟨q, hb⟩ => ⟨hb, q.at⟩) (fun x27 => ?_)
  refine rd_boxN X3 (by kernel_rfl) rfl ?_
  refine flc_mk (fun w' _ _ => call_mono (callE (fromV n' d' (ratv n' d') w' ⟨t1, t2, t3⟩)) fun x w'' ⟨q, hb⟩ => ⟨hb, q.at⟩) (fun x33 => ?_)
  refine flc_mk (fun w' _ hp => call_mono (addE x27 x33 _ _ 2 2 w' (EX.of hp.2.1) (EX.of hp.1) (by omega) (by omega)) fun x w'' ⟨q, _, _, hb⟩ => ⟨hb, q.mono.at⟩) (fun x38 => ?_)
  refine flc_mk (fun w' _ hp => call_mono (fracE x38 _ 5 w' (EX.of hp.1)) fun x w'' ⟨q, hb⟩ => ⟨hb, by rw [← q]; rfl⟩) (fun x43 => ?_)
  refine flc_mk (fun w' hb _ => wr_alloc (z := fracv 0 0) (by kernel_rfl) fun ad w'' Z hb' hz _ => ⟨hb', ad, rfl, Z, by have := Y.lt; have := hb.size; omega⟩) (fun x48 => ?_)
  refine flend_mk fun w8 h' hp => ?_
  obtain ⟨⟨ad, k1, Z, k3⟩, k4, _⟩ := hp
  injection k1 with k1; injection k1 with k1; subst k1
  replace h := h.trans h'; replace Y := Y.up h'; clear h'
  have k5 : x43 = fracT (ratv n d + ratv n' d') := fb_inj k4
  refine wu_box Z (by kernel_rfl) (Nat.le_refl 2) rfl fun w9 Z hg _ => ?_
  replace h := h.grownAt hg (by omega)
  replace Y := Y.grown hg (by intro e; injection e; omega)
  rw [k5]
  rw [k5] at Z
  refine br_not (fun e3 => put _ _ _ _ _ rfl h Y ?_) (fun e3 => ?_)
  · have hf : ¬ Fits (ratv n d + ratv n' d') := by
      intro hf; unfold fracT at e3; rw [if_pos hf] at e3; cases e3
    rw [hT]; unfold fitT; rw [if_neg hf]
  · have hf : Fits (ratv n d + ratv n' d') := by
      rcases Decidable.em (Fits (ratv n d + ratv n' d')) with hf | hf
      · exact hf
      · unfold fracT at e3; rw [if_neg hf] at e3; cases e3
    refine rd_boxN Z (by kernel_rfl) rfl ?_
    refine put _ _ _ _ _ rfl h Y ?_
    rw [hT]; unfold fitT fracT; rw [if_pos hf, if_pos hf]

theorem opA (n d n' d' : Int) (w : World) (a : I64 n ∧ I64 d) (b : I64 n' ∧ I64 d') : call Tryz.prog 111 [fracv n d, fracv n' d'] rFE w (fun x w' => x = opT n d n' d' (fun r s => r + s) ∧ bel w w') := by
  refine call_of (S111_calls n d n' d' w _ ?_)
  unfold S111
  refine wr_box fun x1 w1 X1 h _ _ => ?_
  refine wr_box fun x3 w2 X3 h' _ _ => ?_
  replace h := h.trans h'; replace X1 := X1.up h'; clear h'
  refine wr_alloc (z := fracv 0 0) (by kernel_rfl) fun x5 w3 Y h' hy _ => ?_
  have hne : w.heap.size ≤ x5.block := by rw [hy]; exact h.size
  replace h := h.trans h'; replace X1 := X1.up h'; replace X3 := X3.up h'; clear h'
  refine rd_boxN X1 (by kernel_rfl) rfl ?_
  refine rd_boxN X3 (by kernel_rfl) rfl ?_
  refine call_mono (operA x1 x3 n d n' d' w3 X1 X3 a b) ?_
  rintro (t : FE) w4 ⟨ht, h'⟩
  replace h := h.trans h'; replace Y := Y.up h'; clear h'
  refine wu_box Y (by kernel_rfl) (Nat.le_refl 2) rfl fun w5 Y h' _ => ?_
  exact rd_boxV Y (by kernel_rfl) rfl ⟨t, rfl, ht, h.grownAt h' hne⟩

set_option maxHeartbeats 400000 in
theorem nearM (c0 c1 : Addr) (n d n' d' : Int) (w : World) (X : Box w c0 [.int .i64 n, .int .i64 d]) (X1 : Box w c1 [.int .i64 n', .int .i64 d']) (s : Small n d) (s' : Small n' d') (hd : 1 ≤ d) (hd' : 1 ≤ d') :
    call Tryz.prog 125 [.pointer (some c0), .pointer (some c1)] (.many [.one (.int .i64), .one (.int .i64)]) w (fun x w' => x.1 = n * n' ∧ x.2.1 = d * d' ∧ bel w w') := by
  obtain ⟨s1, s2, s3⟩ := s
  obtain ⟨s4, s5, s6⟩ := s'
  have m1 := small_mul s1 s2 (show -1073741824 < d' by omega) s6
  have m2 := small_mul s4 s5 (show -1073741824 < d by omega) s3
  have m3 := small_mul (show -1073741824 < d by omega) s3 (show -1073741824 < d' by omega) s6
  have m4 := small_mul s1 s2 s4 s5
  refine call_of (S125_calls c0 c1 w _ ?_)
  unfold S125
  refine drw_mk fun w1 h _ => ?_
  replace X := X.up h
  replace X1 := X1.up h
  refine rd_box0 (by kernel_rfl) X rfl rfl ?_
  refine rd_box0 (by kernel_rfl) X1 rfl rfl ?_
  refine z_i64 (by omega) ?_
  refine rd_box (by kernel_rfl) X rfl rfl ?_
  refine rd_box (by kernel_rfl) X1 rfl rfl ?_
  refine z_i64 (by omega) ?_
  exact ⟨((n * n', d * d', ()) : Int × Int × Unit), rfl, rfl, rfl, h⟩

set_option maxHeartbeats 1600000 in
theorem operM (c0 c1 : Addr) (n d n' d' : Int) (w : World) (X : Box w c0 [.int .i64 n, .int .i64 d]) (X1 : Box w c1 [.int .i64 n', .int .i64 d']) (a : I64 n ∧ I64 d) (b : I64 n' ∧ I64 d') :
    call Tryz.prog 123 [fracv n d, fracv n' d', .func (.func 125) #[] #[.pointer (some c0), .pointer (some c1)], .func (.func 85) #[] #[]] rFE w (fun x w' => x = opT n d n' d' (fun r s => r * s) ∧ bel w w') := by
  refine call_of (S123mul_calls n d n' d' c0 c1 w _ ?_)
  unfold S123mul
  refine wr_box fun x1 w1 X2 h _ _ => ?_
  refine wr_box fun x3 w2 X3 h' _ _ => ?_
  replace h := h.trans h'; replace X2 := X2.up h'; clear h'
  refine wr_alloc (z := fracv 0 0) (by kernel_rfl) fun x5 w3 Y h' hy _ => ?_
  have hne : w.heap.size ≤ x5.block := by rw [hy]; exact h.size
  replace h := h.trans h'; replace X2 := X2.up h'; replace X3 := X3.up h'; clear h'
  have put : ∀ (w4 : World) (cs : List Value) (p q e : Int), cs.length = 2 → bel w w4 → Box w4 x5 cs → (((p, q, ()), e, ()) : FE) = opT n d n' d' (fun r s => r * s) → wu Tryz.prog (Instr.storeAt 60 (.pointer (some x5)) (.agg #[.int .i64 p, .int .i64 q])) w4 fun w10 =>
      rd Tryz.prog (loadVar 60 x5) (.agg [.int .i64, .int .i64]) w10 fun y => ∃ x : FE, Value.tuple #[.agg #[.int .i64 y.1, .int .i64 y.2.1], .int .i64 e] = rFE.val x ∧ x = opT n d n' d' (fun r s => r * s) ∧ bel w w10 := by
    intro w4 cs p q e hl h Y he
    refine wu_box Y (by kernel_rfl) (by rw [hl]; exact Nat.le_refl 2) rfl fun w5 Y h' _ => ?_
    have hl' : putAt cs 0 [.int .i64 p, .int .i64 q] = [.int .i64 p, .int .i64 q] := by
      match cs, hl with
      | [_, _], _ => rfl
    have Y2 : Box w5 x5 [.int .i64 p, .int .i64 q] := by rw [← hl']; exact Y
    exact rd_boxV Y2 (by kernel_rfl) rfl ⟨(((p, q, ()), e, ()) : FE), rfl, he, h.grownAt h' hne⟩
  refine rd_boxN X2 (by kernel_rfl) rfl ?_
  refine call_mono (callB (valid10f n d _ a.1 a.2)) ?_
  rintro x w4 ⟨rfl, h'⟩
  replace h := h.trans h'; replace X2 := X2.up h'; replace X3 := X3.up h'; replace Y := Y.up h'; clear h'
  refine br_not (fun e1 => put _ _ _ _ _ rfl h Y (opT_no (.inl e1)).symm) (fun e1 => ?_)
  refine rd_boxN X3 (by kernel_rfl) rfl ?_
  refine call_mono (callB (valid10f n' d' _ b.1 b.2)) ?_
  rintro x w5 ⟨rfl, h'⟩
  replace h := h.trans h'; replace X2 := X2.up h'; replace X3 := X3.up h'; replace Y := Y.up h'; clear h'
  refine br_not (fun e2 => put _ _ _ _ _ rfl h Y (opT_no (.inr e2)).symm) (fun e2 => ?_)
  simp only [decide_eq_true_eq] at e1 e2
  obtain ⟨r1, r2, r3⟩ := ratv_frac e1
  obtain ⟨t1, t2, t3⟩ := ratv_frac e2
  have hT : opT n d n' d' (fun r s => r * s) = fitT (ratv n d * ratv n' d') := by unfold opT; rw [if_pos ⟨e1, e2⟩]
  refine join_mk (fun _ w6 => bel w w6 ∧ Box w6 x1 [.int .i64 n, .int .i64 d] ∧ Box w6 x3 [.int .i64 n', .int .i64 d'] ∧ Box w6 x5 [.int .i64 0, .int .i64 0]) (fun K hK => ?_) ?_
  · refine rd_boxN X2 (by kernel_rfl) rfl ?_
    refine call_mono (callB (smallF n d _)) ?_
    rintro x w6 ⟨rfl, h'⟩
    replace h := h.trans h'; replace X2 := X2.up h'; replace X3 := X3.up h'; replace Y := Y.up h'; clear h'
    refine br_mk (fun e3 => ?_) (fun e3 => hK _ _ ⟨h, X2, X3, Y⟩)
    refine rd_boxN X3 (by kernel_rfl) rfl ?_
    refine call_mono (callB (smallF n' d' _)) ?_
    rintro x w7 ⟨rfl, h'⟩
    replace h := h.trans h'; replace X2 := X2.up h'; replace X3 := X3.up h'; replace Y := Y.up h'; clear h'
    refine br_mk (fun e4 => ?_) (fun e4 => hK _ _ ⟨h, X2, X3, Y⟩)
    simp only [decide_eq_true_eq] at e3 e4
    refine call_mono (nearM c0 c1 n d n' d' w7 (X.up h) (X1.up h) e3 e4 e1.1 e2.1) ?_
    rintro (x : Int × Int × Unit) w8 ⟨hx1, hx2, h'⟩
    replace h := h.trans h'; replace Y := Y.up h'; clear h'
    dsimp only
    rw [hx1, hx2]
    have q1 := small_mul e3.1 e3.2.1 (show -1073741824 < d' by have := e2.1; omega) e4.2.2
    have q2 := small_mul e4.1 e4.2.1 (show -1073741824 < d by have := e1.1; omega) e3.2.2
    have q3 := small_mul (show -1073741824 < d by have := e1.1; omega) e3.2.2 (show -1073741824 < d' by have := e2.1; omega) e4.2.2
    have q4 := small_mul e3.1 e3.2.1 e4.1 e4.2.1
    refine call_mono (ofF (n * n') (d * d') w8 ⟨by omega, by omega⟩ ⟨by omega, by omega⟩) ?_
    rintro (t : FE) w9 ⟨ht, h'⟩
    replace h := h.trans h'; replace Y := Y.up h'; clear h'
    have hdd : d * d' ≠ 0 := Int.mul_ne_zero (by have := e1.1; omega) (by have := e2.1; omega)
    refine put _ _ t.1.1 t.1.2.1 t.2.1 rfl h Y ?_
    show t = _
    rw [ht, hT]; unfold ofT
    rw [if_neg hdd, ratv_div e1, ratv_div e2, ← Rat.divInt_mul_divInt]
  rintro _ w6 ⟨h, X2, X3, Y⟩ _
  refine drw_mk fun w7 h' _ => ?_
  replace h := h.trans h'; replace X2 := X2.up h'; replace X3 := X3.up h'; replace Y := Y.up h'; clear h'
  refine flEx_mk (fun i _ v w => match i with
    | 2 => ExAt 2 w v (ratv n d) | 4 => ExAt 2 w v (ratv n' d') | 5 => ExAt 5 w v (ratv n d * ratv n' d') | 6 => v = rFB.val (fracT (ratv n d * ratv n' d'))
    | 10 => ∃ ad, v = .pointer (some ad) ∧ Box w ad [.int .i64 0, .int .i64 0] ∧ x5.block < ad.block
    | _ => True) (fun i _ _ _ _ h hb => by
      revert h
      split <;> intro h <;> first | exact ExAt.kept h hb | exact h | (obtain ⟨ad, k1, k2, k3⟩ := h; exact ⟨ad, k1, k2.up hb, k3⟩)) ?_
  refine rd_boxN X2 (by kernel_rfl) rfl ?_
  refine flc_mk (fun w' _ _ => call_mono (callE (fromV n d (ratv n d) w' ⟨r1, r2, r3⟩)) fun x w'' ⟨q, hb⟩ => ⟨hb, q.at⟩) (fun x27 => ?_)
  refine rd_boxN X3 (by kernel_rfl) rfl ?_
  refine flc_mk (fun w' _ _ => call_mono (callE (fromV n' d' (ratv n' d') w' ⟨t1, t2, t3⟩)) fun x w'' ⟨q, hb⟩ => ⟨hb, q.at⟩) (fun x33 => ?_)
  refine flc_mk (fun w' _ hp => call_mono (mulE x27 x33 _ _ 2 2 w' (EX.of hp.2.1) (EX.of hp.1) (by omega) (by omega)) fun x w'' ⟨q, _, _, hb⟩ => ⟨hb, q.mono.at⟩) (fun x38 => ?_)
  refine flc_mk (fun w' _ hp => call_mono (fracE x38 _ 5 w' (EX.of hp.1)) fun x w'' ⟨q, hb⟩ => ⟨hb, by rw [← q]; rfl⟩) (fun x43 => ?_)
  refine flc_mk (fun w' hb _ => wr_alloc (z := fracv 0 0) (by kernel_rfl) fun ad w'' Z hb' hz _ => ⟨hb', ad, rfl, Z, by have := Y.lt; have := hb.size; omega⟩) (fun x48 => ?_)
  refine flend_mk fun w8 h' hp => ?_
  obtain ⟨⟨ad, k1, Z, k3⟩, k4, _⟩ := hp
  injection k1 with k1; injection k1 with k1; subst k1
  replace h := h.trans h'; replace Y := Y.up h'; clear h'
  have k5 : x43 = fracT (ratv n d * ratv n' d') := fb_inj k4
  refine wu_box Z (by kernel_rfl) (Nat.le_refl 2) rfl fun w9 Z hg _ => ?_
  replace h := h.grownAt hg (by omega)
  replace Y := Y.grown hg (by intro e; injection e; omega)
  rw [k5]
  rw [k5] at Z
  refine br_not (fun e3 => put _ _ _ _ _ rfl h Y ?_) (fun e3 => ?_)
  · have hf : ¬ Fits (ratv n d * ratv n' d') := by
      intro hf; unfold fracT at e3; rw [if_pos hf] at e3; cases e3
    rw [hT]; unfold fitT; rw [if_neg hf]
  · have hf : Fits (ratv n d * ratv n' d') := by
      rcases Decidable.em (Fits (ratv n d * ratv n' d')) with hf | hf
      · exact hf
      · unfold fracT at e3; rw [if_neg hf] at e3; cases e3
    refine rd_boxN Z (by kernel_rfl) rfl ?_
    refine put _ _ _ _ _ rfl h Y ?_
    rw [hT]; unfold fitT fracT; rw [if_pos hf, if_pos hf]

theorem opM (n d n' d' : Int) (w : World) (a : I64 n ∧ I64 d) (b : I64 n' ∧ I64 d') : call Tryz.prog 112 [fracv n d, fracv n' d'] rFE w (fun x w' => x = opT n d n' d' (fun r s => r * s) ∧ bel w w') := by
  refine call_of (S112_calls n d n' d' w _ ?_)
  unfold S112
  refine wr_box fun x1 w1 X1 h _ _ => ?_
  refine wr_box fun x3 w2 X3 h' _ _ => ?_
  replace h := h.trans h'; replace X1 := X1.up h'; clear h'
  refine wr_alloc (z := fracv 0 0) (by kernel_rfl) fun x5 w3 Y h' hy _ => ?_
  have hne : w.heap.size ≤ x5.block := by rw [hy]; exact h.size
  replace h := h.trans h'; replace X1 := X1.up h'; replace X3 := X3.up h'; clear h'
  refine rd_boxN X1 (by kernel_rfl) rfl ?_
  refine rd_boxN X3 (by kernel_rfl) rfl ?_
  refine call_mono (operM x1 x3 n d n' d' w3 X1 X3 a b) ?_
  rintro (t : FE) w4 ⟨ht, h'⟩
  replace h := h.trans h'; replace Y := Y.up h'; clear h'
  refine wu_box Y (by kernel_rfl) (Nat.le_refl 2) rfl fun w5 Y h' _ => ?_
  exact rd_boxV Y (by kernel_rfl) rfl ⟨t, rfl, ht, h.grownAt h' hne⟩
end Go.Proofs.YtajpdnphamomjaaGreat

/- Package fraction: Sub, Div. -/

namespace Go.Proofs.YtajpdnphamomjaaGreat
open Go.RowKit Go.Q Go.Q.Num Go.V

theorem frac_neg {n d : Int} (h : IsFrac n d) : IsFrac (-n) d := ⟨h.1, h.2.1, by have := h.2.2.2.1; omega, by have := h.2.2.1; omega, by rw [Int.natAbs_neg]; exact h.2.2.2.2⟩
theorem ratv_neg {n d : Int} (h : IsFrac n d) : ratv (-n) d = -ratv n d := by
  rw [ratv_div h, ratv_div (frac_neg h), Rat.neg_divInt]

set_option maxHeartbeats 400000 in
theorem opS (n d n' d' : Int) (w : World) (a : I64 n ∧ I64 d) (b : I64 n' ∧ I64 d') : call Tryz.prog 94 [fracv n d, fracv n' d'] rFE w (fun x w' => x = opT n d n' d' (fun r s => r + -s) ∧ bel w w') := by
  refine call_of (S94_calls n d n' d' w _ ?_)
  unfold S94
  refine wr_box fun x1 w1 X1 h _ _ => ?_
  refine wr_box fun x3 w2 X3 h' hx3 _ => ?_
  have hne3 : w.heap.size ≤ x3.block := by rw [hx3]; exact h.size
  have h13 := X1.lt
  replace h := h.trans h'; replace X1 := X1.up h'; clear h'
  refine wr_alloc (z := fracv 0 0) (by kernel_rfl) fun x5 w3 Y h' hy _ => ?_
  have hne : w.heap.size ≤ x5.block := by rw [hy]; exact h.size
  have h35 := X3.lt
  replace h := h.trans h'; replace X1 := X1.up h'; replace X3 := X3.up h'; clear h'
  refine rd_boxN X3 (by kernel_rfl) rfl ?_
  refine call_mono (callB (valid10f n' d' _ b.1 b.2)) ?_
  rintro x w4 ⟨rfl, h'⟩
  replace h := h.trans h'; replace X1 := X1.up h'; replace X3 := X3.up h'; replace Y := Y.up h'; clear h'
  refine br_not (fun e1 => ?_) (fun e1 => ?_)
  · refine wu_box Y (by kernel_rfl) (Nat.le_refl 2) rfl fun w5 Y h' _ => ?_
    exact rd_boxV Y (by kernel_rfl) rfl ⟨(invT : FE), rfl, (opT_no (.inr e1)).symm, h.grownAt h' hne⟩
  simp only [decide_eq_true_eq] at e1
  refine rd_box0 (by kernel_rfl) X3 rfl rfl ?_
  refine z_i64 (by have := e1.2.2; omega) ?_
  refine wu_box X3 (by kernel_rfl) (show 1 ≤ 2 by omega) rfl fun w5 X3 h' _ => ?_
  replace h := h.grownAt h' hne3
  replace X1 := X1.grown h' (by intro e; injection e; omega)
  replace Y := Y.grown h' (by intro e; injection e; omega)
  clear h'
  refine rd_boxN X1 (by kernel_rfl) rfl ?_
  refine rd_boxN X3 (by kernel_rfl) rfl ?_
  refine call_mono (opA n d (0 - n') d' w5 a ⟨by have := e1.2.2; omega, b.2⟩) ?_
  rintro (t : FE) w6 ⟨ht, h'⟩
  replace h := h.trans h'; replace Y := Y.up h'; clear h'
  refine wu_box Y (by kernel_rfl) (Nat.le_refl 2) rfl fun w7 Y h' _ => ?_
  refine rd_boxV Y (by kernel_rfl) rfl ⟨t, rfl, ?_, h.grownAt h' hne⟩
  rw [ht, Int.zero_sub]
  unfold opT
  have e2 := frac_neg e1
  by_cases e0 : IsFrac n d
  · rw [if_pos ⟨e0, e2⟩, if_pos ⟨e0, e1⟩, ratv_neg e1]
  · rw [if_neg (fun q => e0 q.1), if_neg (fun q => e0 q.1)]

theorem inv_frac {n d : Int} (h : IsFrac n d) (h0 : 0 < n) : IsFrac d n := ⟨by omega, h.2.2.2.1, by have := h.1; omega, h.2.1, by rw [Nat.gcd_comm]; exact h.2.2.2.2⟩
theorem inv_frac' {n d : Int} (h : IsFrac n d) (h0 : n < 0) : IsFrac (-d) (-n) := ⟨by omega, by have := h.2.2.1; omega, by have := h.2.1; omega, by have := h.1; omega, by rw [Int.natAbs_neg, Int.natAbs_neg, Nat.gcd_comm]; exact h.2.2.2.2⟩
theorem ratv_inv {n d : Int} (h : IsFrac n d) (h0 : 0 < n) : ratv d n = (ratv n d)⁻¹ := by
  rw [ratv_div h, ratv_div (inv_frac h h0), Rat.inv_divInt]
theorem ratv_inv' {n d : Int} (h : IsFrac n d) (h0 : n < 0) : ratv (-d) (-n) = (ratv n d)⁻¹ := by
  rw [ratv_div h, ratv_div (inv_frac' h h0), Rat.inv_divInt, Rat.divInt_eq_divInt_iff (by omega) (by omega), Int.neg_mul, Int.mul_neg]

set_option maxHeartbeats 400000 in
theorem opD (n d n' d' : Int) (w : World) (a : I64 n ∧ I64 d) (b : I64 n' ∧ I64 d') : call Tryz.prog 93 [fracv n d, fracv n' d'] rFE w (fun x w' => x = divT n d n' d' ∧ bel w w') := by
  refine call_of (S93_calls n d n' d' w _ ?_)
  unfold S93
  refine wr_box fun x1 w1 X1 h _ _ => ?_
  refine wr_box fun x3 w2 X3 h' hx3 _ => ?_
  replace h := h.trans h'; replace X1 := X1.up h'; clear h'
  refine wr_alloc (z := fracv 0 0) (by kernel_rfl) fun x5 w3 Y h' hy _ => ?_
  have hne : w.heap.size ≤ x5.block := by rw [hy]; exact h.size
  replace h := h.trans h'; replace X1 := X1.up h'; replace X3 := X3.up h'; clear h'
  refine rd_boxN X3 (by kernel_rfl) rfl ?_
  refine call_mono (callB (valid10f n' d' _ b.1 b.2)) ?_
  rintro x w4 ⟨rfl, h'⟩
  replace h := h.trans h'; replace X1 := X1.up h'; replace X3 := X3.up h'; replace Y := Y.up h'; clear h'
  refine br_not (fun e1 => ?_) (fun e1 => ?_)
  · refine wu_box Y (by kernel_rfl) (Nat.le_refl 2) rfl fun w5 Y h' _ => ?_
    exact rd_boxV Y (by kernel_rfl) rfl ⟨(invT : FE), rfl, by unfold divT; rw [if_neg]; rintro ⟨_, q, _⟩; simp [q] at e1, h.grownAt h' hne⟩
  simp only [decide_eq_true_eq] at e1
  refine rd_box0 (by kernel_rfl) X3 rfl rfl ?_
  refine br_eq (fun e2 => ?_) (fun e2 => ?_)
  · refine wu_box Y (by kernel_rfl) (Nat.le_refl 2) rfl fun w5 Y h' _ => ?_
    exact rd_boxV Y (by kernel_rfl) rfl ⟨(invT : FE), rfl, by unfold divT; rw [if_neg]; rintro ⟨_, _, q⟩; exact q e2, h.grownAt h' hne⟩
  refine rd_box (by kernel_rfl) X3 rfl rfl ?_
  refine rd_box0 (by kernel_rfl) X3 rfl rfl ?_
  refine wr_alloc (z := fracv 0 0) (by kernel_rfl) fun x17 w5 Z h' hz _ => ?_
  have hne2 : w.heap.size ≤ x17.block := by rw [hz]; exact h.size
  have l1 := X1.lt
  have l3 := X3.lt
  have l5 := Y.lt
  replace h := h.trans h'; replace X1 := X1.up h'; replace X3 := X3.up h'; replace Y := Y.up h'; clear h'
  refine wu_box Z (by kernel_rfl) (Nat.le_refl 2) rfl fun w6 Z h' _ => ?_
  replace h := h.grownAt h' hne2
  replace X1 := X1.grown h' (by intro e; injection e; omega)
  replace Y := Y.grown h' (by intro e; injection e; omega)
  clear h' X3
  refine join_mk (fun _ w7 => ∃ p q : Int, IsFrac p q ∧ ratv p q = (ratv n' d')⁻¹ ∧ Box w7 x17 [.int .i64 p, .int .i64 q] ∧ bel w w7 ∧ Box w7 x1 [.int .i64 n, .int .i64 d] ∧ Box w7 x5 [.int .i64 0, .int .i64 0]) (fun K hK => ?_) ?_
  · refine rd_box (by kernel_rfl) Z rfl rfl ?_
    refine br_dec (fun e3 => ?_) (fun e3 => ?_)
    · refine rd_box0 (by kernel_rfl) Z rfl rfl ?_
      refine z_i64 (by have := e1.1; have := e1.2.1; omega) ?_
      refine rd_box (by kernel_rfl) Z rfl rfl ?_
      refine z_i64 (by have := e1.2.2; omega) ?_
      refine wu_box Z (by kernel_rfl) (Nat.le_refl 2) rfl fun w7 Z h' _ => ?_
      refine hK _ _ ⟨-d', -n', inv_frac' e1 e3, ratv_inv' e1 e3, ?_, h.grownAt h' hne2, X1.grown h' (by intro e; injection e; omega), Y.grown h' (by intro e; injection e; omega)⟩
      rw [← Int.zero_sub, ← Int.zero_sub n']; exact Z
    · exact hK _ _ ⟨d', n', inv_frac e1 (by omega), ratv_inv e1 (by omega), Z, h, X1, Y⟩
  rintro _ w7 ⟨p, q, f1, f2, Z, h, X1, Y⟩ _
  refine rd_boxN X1 (by kernel_rfl) rfl ?_
  refine rd_boxN Z (by kernel_rfl) rfl ?_
  refine call_mono (opM n d p q w7 a ⟨⟨by have := f1.2.2; omega, by have := f1.2.2; omega⟩, ⟨by have := f1.1; omega, by have := f1.2.1; omega⟩⟩) ?_
  rintro (t : FE) w8 ⟨ht, h'⟩
  replace h := h.trans h'; replace Y := Y.up h'; clear h'
  refine wu_box Y (by kernel_rfl) (Nat.le_refl 2) rfl fun w9 Y h' _ => ?_
  refine rd_boxV Y (by kernel_rfl) rfl ⟨t, rfl, ?_, h.grownAt h' hne⟩
  rw [ht]
  unfold opT divT
  by_cases e0 : IsFrac n d
  · rw [if_pos ⟨e0, f1⟩, if_pos ⟨e0, e1, e2⟩, f2, Rat.div_def]
  · rw [if_neg (fun q => e0 q.1), if_neg (fun q => e0 q.1)]
end Go.Proofs.YtajpdnphamomjaaGreat

/- The conditions of functions, printed by our tool; each is checked against the code by the kernel. -/



namespace Go.Proofs
open Go Go.V Go.RowKit
open Tryz (prog)
set_option maxRecDepth 100000
end Go.Proofs

/- The walk of FractionExact. -/


namespace Go.Proofs.YtajpdnphamomjaaGreat
open Go.RowKit Go.Q Go.Q.Num Go.V

end Go.Proofs.YtajpdnphamomjaaGreat

/- The walk of FractionLimits. -/

namespace Go.Proofs.YtajpdnphamomjaaGreat
open Go.RowKit Go.Q Go.Q.Num Go.V

theorem tyFracs : TyS Tryz.prog 32 60 (fracv 0 0) 2 16 := ⟨by kernel_rfl, by kernel_rfl⟩
theorem agFrac : aggOf Tryz.prog 60 2 = true := by kernel_rfl
abbrev encF (p : Int × Int) : List Value := [.int .i64 p.1, .int .i64 p.2]
theorem encF_len (p : Int × Int) : (encF p).length = 2 := rfl
theorem compF' (n d n' d' : Int) (w : World) (a : I64 n ∧ I64 d) (b : I64 n' ∧ I64 d') : call Tryz.prog 91 [fracv n d, fracv n' d'] (.one (.one (.int .i64))) w (fun x w' => x = compv n d n' d' ∧ bel w w') :=
  callI (compF n d n' d' w a.1.1 a.1.2 a.2.1 a.2.2 b.1.1 b.1.2 b.2.1 b.2.2)
end Go.Proofs.YtajpdnphamomjaaGreat

/- The calculus, eleventh part: arrays, cells inside a block. -/

namespace Go.V
open Go Go.RowKit Go.Q

theorem storeCells_add {P : Program} {a : Addr} (m : Nat) : ∀ (vs : List Value) (i : Nat) (w : World), (storeCells (a.add m) vs i).run P w = (storeCells a vs (m + i)).run P w
  | [], _, _ => rfl
  | v :: vs, i, w => by
    simp only [storeCells, Sem.run_bind, add_add]
    congr 1
    funext u w'
    exact storeCells_add m vs (i + 1) w'
end Go.V

/- The conditions of functions, printed by our tool; each is checked against the code by the kernel. -/



namespace Go.Proofs
open Go Go.V Go.RowKit
open Tryz (prog)
set_option maxRecDepth 100000
end Go.Proofs

/- Bounds of rational numbers; the operations of small fractions are exact. -/



namespace Go.Proofs.YtajpdnphamomjaaGreat
open Go.RowKit Go.Q Go.Q.Num Go.V

structure Bd (N D : Nat) (r : Rat) : Prop where
  n : r.num.natAbs ≤ N
  d : r.den ≤ D
theorem Bd.div {n d : Int} {N D : Nat} (h0 : d ≠ 0) (hn : n.natAbs ≤ N) (hd : d.natAbs ≤ D) : Bd N D (Rat.divInt n d) := by
  obtain ⟨hq, hr⟩ := of_norm (n := n) h0
  obtain ⟨m1, m2, _⟩ := low_num (decide (n < 0) != decide (d < 0)) n.natAbs d.natAbs hq
  rw [hr] at m1 m2
  exact ⟨by rw [m1]; exact Nat.le_trans (Nat.div_le_self _ _) hn, by rw [m2]; exact Nat.le_trans (Nat.div_le_self _ _) hd⟩
theorem Bd.fits {N D : Nat} {r : Rat} (h : Bd N D r) (hN : N ≤ 100000000000000000) (hD : D ≤ 100000000000000000) : Fits r := ⟨by have := h.n; omega, by have := h.n; omega, by have := h.d; omega⟩
def fv (r : Rat) : FE := ((r.num, ((r.den : Nat) : Int), ()), 0, ())
theorem fit_fv {r : Rat} (h : Fits r) : fitT r = fv r := by unfold fitT fv; rw [if_pos h]
theorem frac_fits {r : Rat} (h : Fits r) : IsFrac r.num ((r.den : Nat) : Int) := by
  have h0 := r.den_nz
  obtain ⟨h1, h2, h3⟩ := h
  exact ⟨by omega, by omega, h1, h2, by rw [Int.natAbs_natCast]; exact r.reduced⟩
theorem ratv_fits (r : Rat) : ratv r.num ((r.den : Nat) : Int) = r := by
  unfold ratv; rw [Int.toNat_natCast, Rat.mkRat_self]
theorem i64_fits {r : Rat} (h : Fits r) : I64 r.num ∧ I64 ((r.den : Nat) : Int) := by
  obtain ⟨h1, h2, h3⟩ := h
  exact ⟨⟨by omega, by omega⟩, ⟨by omega, by omega⟩⟩
theorem boxF {n d : Int} {w : World} {k : Addr → World → Prop} (hk : ∀ ad w', bel w w' → Box w' ad [.int .i64 n, .int .i64 d] → w.heap.size ≤ ad.block → k ad w') :
    wr Tryz.prog (Instr.alloc 60 true (.tuple #[])) (.one .addr) w fun x26 w27 => wu Tryz.prog (Instr.storeAt 60 (.pointer (some x26)) (.agg #[.int .i64 n, .int .i64 d])) w27 fun w28 => k x26 w28 := by
  refine wr_alloc (z := fracv 0 0) (by kernel_rfl) fun ad w1 Z h hz _ => ?_
  refine wu_box Z (by kernel_rfl) (Nat.le_refl 2) rfl fun w2 Z hg _ => ?_
  exact hk _ _ (h.grownAt hg (by omega)) Z (by omega)
end Go.Proofs.YtajpdnphamomjaaGreat

/- The calculus: calls that may panic; a function that defers one call first. -/


namespace Go.V
open Go Go.RowKit

theorem callP_of {P : Program} {Pn : List PanicEntry → World → Prop} {f : FuncId} {args : List Value} {r : RS} {w : World} {k : r.T → World → Prop} (h : call P f args r w k) : callP P Pn f args r w k :=
  Calls.mono h fun _ _ ⟨x, he, hk⟩ => .inl ⟨x, he, hk⟩
theorem callP_mono {P : Program} {Pn Pn' : List PanicEntry → World → Prop} {f : FuncId} {args : List Value} {r : RS} {w : World} {k k' : r.T → World → Prop} (h : callP P Pn f args r w k)
    (hk : ∀ x w', k x w' → k' x w') (hp : ∀ ch w', Pn ch w' → Pn' ch w') : callP P Pn' f args r w k' :=
  Calls.mono h fun _ _ q => q.imp (fun ⟨x, he, h⟩ => ⟨x, he, hk _ _ h⟩) fun ⟨ch, he, h⟩ => ⟨ch, he, hp _ _ h⟩

def dfr (P : Program) (g : Nat) (cs : List Value) (K : World → Prop) (k : (List PanicEntry → World → Prop) → Prop) : Prop :=
  ∃ Pn : List PanicEntry → World → Prop, (∀ w, CallsD P g cs.toArray .returning w fun e u w' => (∃ v, e = .returned v) ∧ u = .returning ∧ w' = w) ∧
    (∀ ch w, Pn ch w → CallsD P g cs.toArray (.panicking ch) w fun e u w' => (∃ v, e = .returned v) ∧ settle u = .returning ∧ K w') ∧ k Pn
def deferOf (ops : Array Oper) : Option (Nat × Nat × List Operand) :=
  match ops.toList with
  | [a, b] => match a.op, a.dst, a.guard with
    | .makeFunc (.func g) fi caps, some d, none => match b.op, b.dst, b.guard with
      | .defer c, none, none => match c.callee with
        | .value (.tmp d') => match d' == d && fi.toList.isEmpty && c.args.toList.isEmpty with
          | true => some (d, g, caps.toList)
          | false => none
        | _ => none
      | _, _, _ => none
    | _, _, _ => none
  | _ => none
def rslot : ResultVar → Nat
  | .tmp t => t
  | .cell c _ => c
def vcFnD (P : Program) (H : Hints) (fn : Func) (args : List Value) (w : World) (R : Value → World → Prop) : Prop :=
  match fn.body with
  | some (.seq r0 (.seq (.region _ ops1 false) rest)) => match decEq (Nat.ble fn.ntmps 65534 && Nat.ble args.length fn.ntmps && fn.results.toList.all fun r => !(asg rest).contains (rslot r)) true with
    | .isTrue h => match deferOf ops1 with
      | some (d, g, caps) => match (P.funcs[g]?).any plainF && Nat.ble (d + 1) fn.ntmps with
        | true => vc P none H r0 0 ⟨fun f w => dfr P g (caps.map (fev f)) (fun w => vcRes P (fset f d (.val (.func (.func g) #[] (caps.map (fev f)).toArray))) w R fn.results.toList fn.resultTypes.toList []) fun Pn =>
              force (fset f d (.val (.func (.func g) #[] (caps.map (fev f)).toArray))) fun f => vc P (some Pn) H rest 0 ⟨fun f w => vcRes P f w R fn.results.toList fn.resultTypes.toList [], fun _ _ _ => False, fun f w => vcRes P f w R fn.results.toList fn.resultTypes.toList []⟩ f w,
            fun _ _ _ => False, fun _ _ => False⟩
            ⟨fn.ntmps, by simp only [Bool.and_eq_true, Nat.ble_eq] at h; exact h.1.1, putArgs args 0 .leaf⟩ w
        | false => False
      | none => False
    | .isFalse _ => False
  | _ => False

theorem deferOf_spec {ops : Array Oper} {d g : Nat} {caps : List Operand} (h : deferOf ops = some (d, g, caps)) :
    ∃ t1 p1 a1 t2 p2 a2 ats, ops = #[⟨some d, .makeFunc (.func g) #[] caps.toArray, t1, p1, a1, none⟩, ⟨none, .defer ⟨.value (.tmp d), #[], ats⟩, t2, p2, a2, none⟩] := by
  unfold deferOf at h
  split at h
  · rename_i a b hab
    split at h
    · rename_i g' fi caps' d' hop hd hg
      split at h
      · rename_i c hop2 hd2 hg2
        split at h
        · rename_i d'' hc
          split at h
          · rename_i ht
            simp only [Bool.and_eq_true, beq_iff_eq, List.isEmpty_iff, Array.toList_eq_nil_iff] at ht
            obtain ⟨⟨rfl, rfl⟩, ha⟩ := ht
            cases h
            obtain ⟨dst, op, t1, p1, a1, gd⟩ := a
            obtain ⟨dst2, op2, t2, p2, a2, gd2⟩ := b
            obtain ⟨cc, ca, ct⟩ := c
            dsimp only at *
            subst hop hd hg hop2 hd2 hg2 hc ha
            refine ⟨t1, p1, a1, t2, p2, a2, ct, ?_⟩
            rw [← Array.toArray_toList (xs := ops), hab]
          · cases h
        · cases h
      · cases h
    · cases h
  · cases h

theorem region_defer {P : Program} {id d g : Nat} {caps : List Operand} {ops : Array Oper} (h : deferOf ops = some (d, g, caps)) {Q : Exit → Act → World → Prop} {f : Fr} {w : World} (hd : d < f.length)
    (hk : Q .normal (act [{ target := .fn (.func g) (caps.map (fev f)).toArray, args := #[] }] (fset f d (.val (.func (.func g) #[] (caps.map (fev f)).toArray)))) w) :
    (Code.region id ops false).wp P Q (act [] f) w := by
  obtain ⟨t1, p1, a1, t2, p2, a2, ats, rfl⟩ := deferOf_spec h
  refine wp_region_list ?_
  unfold wpList
  rw [if_pos (show Region.wanted _ _ = true from rfl)]
  refine .inl ?_
  unfold Oper.wp
  rw [act_eval]
  have e1 : ((execOp (fev f) ⟨some d, .makeFunc (.func g) #[] caps.toArray, t1, p1, a1, none⟩).run P w) = .ok (.value (.func (.func g) #[] (caps.map (fev f)).toArray)) w := by
    simp [execOp, Instr.makeFunc, Sem.run_pure]
  rw [e1, Oper.upon_value]
  have e2 : (act [] f).put (some d) (.func (.func g) #[] (caps.map (fev f)).toArray) = act [] (fset f d (.val (.func (.func g) #[] (caps.map (fev f)).toArray))) := (act_fput (ds := []) f (some d) (.val (.func (.func g) #[] (caps.map (fev f)).toArray))).symm
  rw [e2]
  unfold wpList
  rw [if_pos (show Region.wanted _ _ = true from rfl)]
  refine .inl ?_
  unfold Oper.wp
  rw [act_eval]
  have e3 : fev (fset f d (.val (.func (.func g) #[] (caps.map (fev f)).toArray))) (.tmp d) = .func (.func g) #[] (caps.map (fev f)).toArray := by
    simp only [fev, fop, fget_fset]
    rw [if_pos ⟨trivial, hd⟩]; rfl
  have e4 : ((execOp (fev (fset f d (.val (.func (.func g) #[] (caps.map (fev f)).toArray)))) ⟨none, .defer ⟨.value (.tmp d), #[], ats⟩, t2, p2, a2, none⟩).run P w) = .ok (.defer { target := .fn (.func g) (caps.map (fev f)).toArray, args := #[] }) w := by
    simp [execOp, resolve, e3, Deferred.ofValue, Sem.run_pure]
  rw [e4, Oper.upon_defer]
  unfold wpList
  exact hk

theorem results_same {fn : Func} {a b : Act} (h : ∀ r ∈ fn.results.toList, a.tmps.getD (rslot r) undef = b.tmps.getD (rslot r) undef) : results fn a.tmps = results fn b.tmps := by
  rw [results_eq, results_eq, ← Array.toArray_toList (xs := fn.results), List.mapM_toArray, List.mapM_toArray]
  have : fn.results.toList.mapM (resSem a) = fn.results.toList.mapM (resSem b) := by
    have key : ∀ l : List ResultVar, (∀ r ∈ l, a.tmps.getD (rslot r) undef = b.tmps.getD (rslot r) undef) → l.mapM (resSem a) = l.mapM (resSem b) := by
      intro l
      induction l with
      | nil => intro _; rfl
      | cons r l ih =>
        intro hl
        have h1 : resSem a r = resSem b r := by
          have := hl r (List.mem_cons_self ..)
          cases r <;> simp only [rslot] at this <;> simp only [resSem, this]
        rw [List.mapM_cons, List.mapM_cons, h1, ih fun r hr => hl r (List.mem_cons_of_mem _ hr)]
    exact key _ h
  rw [this]

theorem vcFnD_sound {P : Program} {H : Hints} {fi : FuncId} {fn : Func} {args : List Value} {w : World} {R : Value → World → Prop} (hm : P.follows .mixedOrders = true) (hf : P.funcs[fi]? = some fn)
    (h : vcFnD P H fn args w R) : Calls P fi args.toArray w (ret R) := by
  unfold vcFnD at h
  split at h
  · rename_i r0 i1 ops1 rest hc
    split at h
    case h_2 => exact h.elim
    rename_i hb _
    have hb' := hb
    simp only [Bool.and_eq_true, Nat.ble_eq, List.all_eq_true, Bool.not_eq_true', List.contains_eq_mem, decide_eq_false_iff_not] at hb'
    obtain ⟨⟨hb1, hb2⟩, hb3⟩ := hb'
    split at h
    case h_2 => exact h.elim
    rename_i d g caps hd
    split at h
    case h_2 => exact h.elim
    rename_i hg
    rw [Bool.and_eq_true, Nat.ble_eq] at hg
    obtain ⟨hg, hdn⟩ := hg
    refine calls_of_wp_defers hf hc ?_
    rw [← act_pad hb1 hb2]
    refine wp_seq (Go.wp_mono (vc_sound (ds := []) hm r0 0 _ _ w h) ?_)
    intro e a w1 hq
    cases e with
    | normal =>
      obtain ⟨f, rfl, hag, Pn, hidle, hcatch, hk⟩ := hq
      rw [force_eq] at hk
      have hdl : d < f.length := by rw [hag.1]; exact hdn
      refine wp_seq (region_defer hd hdl ?_)
      generalize hcv : caps.map (fev f) = cv at hidle hcatch hk ⊢
      refine Go.wp_mono (vc_sound hm rest 0 _ _ w1 hk) ?_
      have hinv : ∀ w, (invoke (.fn (.func g) cv.toArray) #[]).run P w = .ok (.enter g cv.toArray) w := by
        intro w
        cases hfd : P.funcs[g]? with
        | none => rw [hfd] at hg; cases hg
        | some fd =>
          rw [hfd] at hg
          simp only [Option.any_some, plainF, Bool.and_eq_true, Bool.not_eq_true'] at hg
          have hbn : fd.body.isNone = false := by cases hb : fd.body <;> simp_all
          simp only [invoke, callFunc, Sem.run_bind, Sem.run_pure, Result.andThen_ok, run_program, hfd, hg.2, hbn, Bool.false_eq_true, if_false, Array.empty_append]
      have fin : ∀ f w, vcRes P f w R fn.results.toList fn.resultTypes.toList [] → ∃ v, (results fn (act [] f).tmps).run P w = .ok v w ∧ ret R (.returned v) w := by
        intro f w h
        obtain ⟨us, h1, h2⟩ := vcRes_spec (ds := []) _ _ _ h
        refine ⟨_, ?_, _, rfl, h2⟩
        rw [results_eq, ← Array.toArray_toList (xs := fn.results), List.mapM_toArray]
        simp only [Sem.run_bind, Sem.run_map, h1, Result.andThen_ok, Sem.run_pure, List.reverse_nil, List.nil_append, List.size_toArray]
        by_cases hl : us.length = 1
        · match us, hl with
          | [u], _ => rfl
        · simp [hl]
      have out : ∀ f' w', vcRes P f' w' R fn.results.toList fn.resultTypes.toList [] → Leaves P fn (act [{ target := .fn (.func g) cv.toArray, args := #[] }] f').tmps (ret R) [{ target := .fn (.func g) cv.toArray, args := #[] }] .returning w' := by
        intro f' w' hr
        refine leaves_cons (by simp) (hinv w') ((hidle w').mono ?_)
        rintro e u w'' ⟨⟨v, rfl⟩, rfl, rfl⟩
        exact fin f' w'' hr
      intro e a w' hq
      cases e with
      | normal => obtain ⟨f', rfl, _, hr⟩ := hq; exact out f' w' hr
      | ret => obtain ⟨f', rfl, _, hr⟩ := hq; exact out f' w' hr
      | exit i => obtain ⟨f', _, _, hr⟩ := hq; exact hr.elim
      | goto l => exact hq
      | outgrown => exact hq.elim
      | panic ch =>
        obtain ⟨⟨hds, hsl⟩, hp⟩ := hq
        show Leaves P fn a.tmps (ret R) a.defers (.panicking ch) w'
        rw [hds]
        refine leaves_cons (by simp) (hinv w') ((hcatch ch w' hp).mono ?_)
        rintro e u w'' ⟨⟨v, rfl⟩, hs, hr⟩
        show Leaves P fn a.tmps (ret R) [] (settle u) w''
        rw [hs]
        obtain ⟨v', h1, h2⟩ := fin _ w'' hr
        refine ⟨v', ?_, h2⟩
        rw [← h1]
        refine congrArg (fun s => s.run P w'') (results_same fun r hr => ?_)
        rw [hsl _ (hb3 r hr), den_fget]
    | exit i => obtain ⟨_, _, _, hk⟩ := hq; exact hk.elim
    | ret => obtain ⟨_, _, _, hk⟩ := hq; exact hk.elim
    | goto l => exact hq
    | panic ch => exact hq.2.elim
    | outgrown => exact hq.elim
  · exact h.elim
end Go.V

/- The conditions of functions, printed by our tool; each is checked against the code by the kernel. -/



namespace Go.Proofs
open Go Go.V Go.RowKit
open Tryz (prog)
set_option maxRecDepth 100000
def S89 (a_0 a_1 b_0 b_1 : Int) (w0 : World) (Pn : List PanicEntry → World → Prop) (R : KR) : Prop :=
 wr prog (Instr.box 60 (.agg #[ji a_0, ji a_1])) oA w0 fun (x1 : Addr) w2 =>
 wr prog (Instr.box 60 (.agg #[ji b_0, ji b_1])) oA w2 fun (x3 : Addr) w4 =>
 wr prog (Instr.alloc 60 true (.tuple #[])) oA w4 fun (x5 : Addr) w6 =>
 rd prog (jL 60 x1) aF w6 fun (x7 : TF) =>
 rd prog (jL 60 x3) aF w6 fun (x8 : TF) =>
 callP prog Pn 111 [.agg #[ji x7.1, ji x7.2.1], .agg #[ji x8.1, ji x8.2.1]] (.many [aF, oI]) w6 fun (x9 : ((TF) × Int × Unit)) w10 =>
 callP prog Pn 92 [.agg #[ji x9.1.1, ji x9.1.2.1], ji x9.2.1] (.one aF) w10 fun (x11 : TF) w12 =>
 wu prog (jS 60 x5 (.agg #[ji x11.1, ji x11.2.1])) w12 fun w13 =>
 rd prog (loadVar 60 x5) aF w13 fun (x14 : TF) =>
 R (.agg #[ji x14.1, ji x14.2.1]) w13
def H89 : Hints := ⟨[], [], [], []⟩
theorem S89_calls (a_0 a_1 b_0 b_1 : Int) (w0 : World) (Pn : List PanicEntry → World → Prop) (R : KR) (h : S89 a_0 a_1 b_0 b_1 w0 Pn R) : Calls prog 89 #[.agg #[ji a_0, ji a_1], .agg #[ji b_0, ji b_1]] w0 (retP R (some Pn)) :=
 vcFnP_sound (H := H89) follows_ Tryz.func89 (Eq.mpr (by kernel_rfl) h)
def S67 (a_0 a_1 b_0 b_1 : Int) (w0 : World) (Pn : List PanicEntry → World → Prop) (R : KR) : Prop :=
 wr prog (Instr.box 60 (.agg #[ji a_0, ji a_1])) oA w0 fun (x1 : Addr) w2 =>
 wr prog (Instr.box 60 (.agg #[ji b_0, ji b_1])) oA w2 fun (x3 : Addr) w4 =>
 wr prog (Instr.alloc 60 true (.tuple #[])) oA w4 fun (x5 : Addr) w6 =>
 rd prog (jL 60 x1) aF w6 fun (x7 : TF) =>
 rd prog (jL 60 x3) aF w6 fun (x8 : TF) =>
 callP prog Pn 94 [.agg #[ji x7.1, ji x7.2.1], .agg #[ji x8.1, ji x8.2.1]] (.many [aF, oI]) w6 fun (x9 : ((TF) × Int × Unit)) w10 =>
 callP prog Pn 92 [.agg #[ji x9.1.1, ji x9.1.2.1], ji x9.2.1] (.one aF) w10 fun (x11 : TF) w12 =>
 wu prog (jS 60 x5 (.agg #[ji x11.1, ji x11.2.1])) w12 fun w13 =>
 rd prog (loadVar 60 x5) aF w13 fun (x14 : TF) =>
 R (.agg #[ji x14.1, ji x14.2.1]) w13
def H67 : Hints := ⟨[], [], [], []⟩
theorem S67_calls (a_0 a_1 b_0 b_1 : Int) (w0 : World) (Pn : List PanicEntry → World → Prop) (R : KR) (h : S67 a_0 a_1 b_0 b_1 w0 Pn R) : Calls prog 67 #[.agg #[ji a_0, ji a_1], .agg #[ji b_0, ji b_1]] w0 (retP R (some Pn)) :=
 vcFnP_sound (H := H67) follows_ Tryz.func67 (Eq.mpr (by kernel_rfl) h)
def S90 (a_0 a_1 b_0 b_1 : Int) (w0 : World) (Pn : List PanicEntry → World → Prop) (R : KR) : Prop :=
 wr prog (Instr.box 60 (.agg #[ji a_0, ji a_1])) oA w0 fun (x1 : Addr) w2 =>
 wr prog (Instr.box 60 (.agg #[ji b_0, ji b_1])) oA w2 fun (x3 : Addr) w4 =>
 wr prog (Instr.alloc 60 true (.tuple #[])) oA w4 fun (x5 : Addr) w6 =>
 rd prog (jL 60 x1) aF w6 fun (x7 : TF) =>
 rd prog (jL 60 x3) aF w6 fun (x8 : TF) =>
 callP prog Pn 112 [.agg #[ji x7.1, ji x7.2.1], .agg #[ji x8.1, ji x8.2.1]] (.many [aF, oI]) w6 fun (x9 : ((TF) × Int × Unit)) w10 =>
 callP prog Pn 92 [.agg #[ji x9.1.1, ji x9.1.2.1], ji x9.2.1] (.one aF) w10 fun (x11 : TF) w12 =>
 wu prog (jS 60 x5 (.agg #[ji x11.1, ji x11.2.1])) w12 fun w13 =>
 rd prog (loadVar 60 x5) aF w13 fun (x14 : TF) =>
 R (.agg #[ji x14.1, ji x14.2.1]) w13
def H90 : Hints := ⟨[], [], [], []⟩
theorem S90_calls (a_0 a_1 b_0 b_1 : Int) (w0 : World) (Pn : List PanicEntry → World → Prop) (R : KR) (h : S90 a_0 a_1 b_0 b_1 w0 Pn R) : Calls prog 90 #[.agg #[ji a_0, ji a_1], .agg #[ji b_0, ji b_1]] w0 (retP R (some Pn)) :=
 vcFnP_sound (H := H90) follows_ Tryz.func90 (Eq.mpr (by kernel_rfl) h)
def S66 (n_ : Int) (w0 : World) (R : KR) : Prop :=
 wr prog (Instr.alloc 60 true (.tuple #[])) oA w0 fun (x1 : Addr) w2 =>
 wu prog (jS 60 x1 (.agg #[ji n_, ji 1])) w2 fun w3 =>
 rd prog (loadVar 60 x1) aF w3 fun (x4 : TF) =>
 R (.agg #[ji x4.1, ji x4.2.1]) w3
def H66 : Hints := ⟨[], [], [], []⟩
theorem S66_calls (n_ : Int) (w0 : World) (R : KR) (h : S66 n_ w0 R) : Calls prog 66 #[ji n_] w0 (ret R) :=
 vcFn_sound (H := H66) follows_ Tryz.func66 (Eq.mpr (by kernel_rfl) h)
def S61 (s_0a : OA) (s_0n s_0c : Nat) (s_1a : OA) (s_1n s_1c : Nat) (s_2a : OA) (s_2n s_2c : Nat) (lower_a : OA) (lower_n lower_c : Nat) (upper_a : OA) (upper_n upper_c : Nat) (w0 : World) (Pn : List PanicEntry → World → Prop) (R : KR) : Prop :=
 wr prog (Instr.box 29 (.agg #[.slice s_0a s_0n s_0c, .slice s_1a s_1n s_1c, .slice s_2a s_2n s_2c])) oA w0 fun (x1 : Addr) w2 =>
 wr prog (Instr.box 97 (.agg #[.slice none 0 0, .slice none 0 0, .slice none 0 0, .slice none 0 0, .slice none 0 0, ji 0])) oA w2 fun (x3 : Addr) w4 =>
 rd prog (jL 26 x1) oS w4 fun (x5 : Hd3) =>
 loop (T := (Int × Unit)) (0, ()) w4 fun (g6 : Int × Unit → World → Prop) (s7 : Int × Unit) w8 => ∀ _ : NV,
 br (decide (s7.1 < ((x5.2.1 : Nat) : Int))) (drw w8 fun w9 => flExC w9 fun E12 G11 Y10 F13 =>
 nn (some x3) fun (a14 : Addr) =>
 rdE prog (ER Y10 [13, 22, 23, 24, 33, 34, 35, 38, 41, 44] E12) (jL 32 a14) oS w9 fun (x15 : Hd3) =>
 rdp prog (Instr.indexAt 26 (.slice lower_a lower_n lower_c) (ji s7.1)) oA fun (x16 : Addr) =>
 rdE prog (ER Y10 [11, 12, 13, 22, 23, 24, 33, 34, 35, 38, 41, 44] E12) (jL 2 x16) oI w9 fun (x17 : Int) =>
 flcC Y10 11 E12 w9 (fun _w19 => True) (fun (D20 : Nat → Bool) w18 =>
   callP prog Pn 66 [ji x17] (.one aF) w18 fun (x21 : TF) w22 =>
 (E12 w18 w22 ∧ G11 11 w18 w22 ∧ Y10 (setD D20 11) w22 ∧ F13 11 [ji x17] (.agg #[ji x21.1, ji x21.2.1]) w22))
  fun (x23 : TF) =>
 flcC Y10 12 E12 w9 (fun w25 => F13 11 [ji x17] (.agg #[ji x23.1, ji x23.2.1]) w25 ∧ True) (fun (D26 : Nat → Bool) w24 =>
   D26 11 = true → wr prog (Instr.buildSlice 32 1 #[(0, (.agg #[ji x23.1, ji x23.2.1]))]) oS w24 fun (x27 : Hd3) w28 =>
 (E12 w24 w28 ∧ G11 12 w24 w28 ∧ Y10 (setD D26 12) w28 ∧ F13 12 [.agg #[ji x23.1, ji x23.2.1]] (jw x27) w28))
  fun (x29 : Hd3) =>
 flcC Y10 13 E12 w9 (fun w31 => F13 12 [.agg #[ji x23.1, ji x23.2.1]] (jw x29) w31 ∧ F13 11 [ji x17] (.agg #[ji x23.1, ji x23.2.1]) w31 ∧ True) (fun (D32 : Nat → Bool) w30 =>
   D32 12 = true → D32 11 = true → wr prog (Builtin.append_ #[32, 32] 32 #[.slice x15.1 x15.2.1 x15.2.2, .slice x29.1 x29.2.1 x29.2.2]) oS w30 fun (x33 : Hd3) w34 =>
 (E12 w30 w34 ∧ G11 13 w30 w34 ∧ Y10 (setD D32 13) w34 ∧ F13 13 [jw x15, jw x29] (jw x33) w34))
  fun (x35 : Hd3) =>
 nn (some x3) fun (a36 : Addr) =>
 rdE prog (ER Y10 [24, 33, 34, 35, 38, 41, 44] E12) (jL 32 (Addr.add a36 1)) oS w9 fun (x37 : Hd3) =>
 rdp prog (Instr.indexAt 26 (.slice upper_a upper_n upper_c) (ji s7.1)) oA fun (x38 : Addr) =>
 rdE prog (ER Y10 [22, 23, 24, 33, 34, 35, 38, 41, 44] E12) (jL 2 x38) oI w9 fun (x39 : Int) =>
 flcC Y10 22 E12 w9 (fun w41 => F13 13 [jw x15, jw x29] (jw x35) w41 ∧ F13 12 [.agg #[ji x23.1, ji x23.2.1]] (jw x29) w41 ∧ F13 11 [ji x17] (.agg #[ji x23.1, ji x23.2.1]) w41 ∧ True) (fun (D42 : Nat → Bool) w40 =>
   D42 13 = true → D42 12 = true → D42 11 = true → callP prog Pn 66 [ji x39] (.one aF) w40 fun (x43 : TF) w44 =>
 (E12 w40 w44 ∧ G11 22 w40 w44 ∧ Y10 (setD D42 22) w44 ∧ F13 22 [ji x39] (.agg #[ji x43.1, ji x43.2.1]) w44))
  fun (x45 : TF) =>
 flcC Y10 23 E12 w9 (fun w47 => F13 22 [ji x39] (.agg #[ji x45.1, ji x45.2.1]) w47 ∧ F13 13 [jw x15, jw x29] (jw x35) w47 ∧ F13 12 [.agg #[ji x23.1, ji x23.2.1]] (jw x29) w47 ∧ F13 11 [ji x17] (.agg #[ji x23.1, ji x23.2.1]) w47 ∧ True) (fun (D48 : Nat → Bool) w46 =>
   D48 22 = true → D48 13 = true → D48 12 = true → D48 11 = true → wr prog (Instr.buildSlice 32 1 #[(0, (.agg #[ji x45.1, ji x45.2.1]))]) oS w46 fun (x49 : Hd3) w50 =>
 (E12 w46 w50 ∧ G11 23 w46 w50 ∧ Y10 (setD D48 23) w50 ∧ F13 23 [.agg #[ji x45.1, ji x45.2.1]] (jw x49) w50))
  fun (x51 : Hd3) =>
 flcC Y10 24 E12 w9 (fun w53 => F13 23 [.agg #[ji x45.1, ji x45.2.1]] (jw x51) w53 ∧ F13 22 [ji x39] (.agg #[ji x45.1, ji x45.2.1]) w53 ∧ F13 13 [jw x15, jw x29] (jw x35) w53 ∧ F13 12 [.agg #[ji x23.1, ji x23.2.1]] (jw x29) w53 ∧ F13 11 [ji x17] (.agg #[ji x23.1, ji x23.2.1]) w53 ∧ True) (fun (D54 : Nat → Bool) w52 =>
   D54 23 = true → D54 22 = true → D54 13 = true → D54 12 = true → D54 11 = true → wr prog (Builtin.append_ #[32, 32] 32 #[.slice x37.1 x37.2.1 x37.2.2, .slice x51.1 x51.2.1 x51.2.2]) oS w52 fun (x55 : Hd3) w56 =>
 (E12 w52 w56 ∧ G11 24 w52 w56 ∧ Y10 (setD D54 24) w56 ∧ F13 24 [jw x37, jw x51] (jw x55) w56))
  fun (x57 : Hd3) =>
 nn (some x3) fun (a58 : Addr) =>
 rdE prog (ER Y10 [35, 38, 41, 44] E12) (jL 32 (Addr.add a58 2)) oS w9 fun (x59 : Hd3) =>
 rdp prog (Instr.indexAt 26 (.slice lower_a lower_n lower_c) (ji s7.1)) oA fun (x60 : Addr) =>
 rdE prog (ER Y10 [33, 34, 35, 38, 41, 44] E12) (jL 2 x60) oI w9 fun (x61 : Int) =>
 flcC Y10 33 E12 w9 (fun w63 => F13 24 [jw x37, jw x51] (jw x57) w63 ∧ F13 23 [.agg #[ji x45.1, ji x45.2.1]] (jw x51) w63 ∧ F13 22 [ji x39] (.agg #[ji x45.1, ji x45.2.1]) w63 ∧ F13 13 [jw x15, jw x29] (jw x35) w63 ∧ F13 12 [.agg #[ji x23.1, ji x23.2.1]] (jw x29) w63 ∧ F13 11 [ji x17] (.agg #[ji x23.1, ji x23.2.1]) w63 ∧ True) (fun (D64 : Nat → Bool) w62 =>
   D64 24 = true → D64 23 = true → D64 22 = true → D64 13 = true → D64 12 = true → D64 11 = true → callP prog Pn 66 [ji x61] (.one aF) w62 fun (x65 : TF) w66 =>
 (E12 w62 w66 ∧ G11 33 w62 w66 ∧ Y10 (setD D64 33) w66 ∧ F13 33 [ji x61] (.agg #[ji x65.1, ji x65.2.1]) w66))
  fun (x67 : TF) =>
 flcC Y10 34 E12 w9 (fun w69 => F13 33 [ji x61] (.agg #[ji x67.1, ji x67.2.1]) w69 ∧ F13 24 [jw x37, jw x51] (jw x57) w69 ∧ F13 23 [.agg #[ji x45.1, ji x45.2.1]] (jw x51) w69 ∧ F13 22 [ji x39] (.agg #[ji x45.1, ji x45.2.1]) w69 ∧ F13 13 [jw x15, jw x29] (jw x35) w69 ∧ F13 12 [.agg #[ji x23.1, ji x23.2.1]] (jw x29) w69 ∧ F13 11 [ji x17] (.agg #[ji x23.1, ji x23.2.1]) w69 ∧ True) (fun (D70 : Nat → Bool) w68 =>
   D70 33 = true → D70 24 = true → D70 23 = true → D70 22 = true → D70 13 = true → D70 12 = true → D70 11 = true → wr prog (Instr.buildSlice 32 1 #[(0, (.agg #[ji x67.1, ji x67.2.1]))]) oS w68 fun (x71 : Hd3) w72 =>
 (E12 w68 w72 ∧ G11 34 w68 w72 ∧ Y10 (setD D70 34) w72 ∧ F13 34 [.agg #[ji x67.1, ji x67.2.1]] (jw x71) w72))
  fun (x73 : Hd3) =>
 flendC Y10 [34, 33, 24, 23, 22, 13, 12, 11] E12 w9 (fun w75 => F13 34 [.agg #[ji x67.1, ji x67.2.1]] (jw x73) w75 ∧ F13 33 [ji x61] (.agg #[ji x67.1, ji x67.2.1]) w75 ∧ F13 24 [jw x37, jw x51] (jw x57) w75 ∧ F13 23 [.agg #[ji x45.1, ji x45.2.1]] (jw x51) w75 ∧ F13 22 [ji x39] (.agg #[ji x45.1, ji x45.2.1]) w75 ∧ F13 13 [jw x15, jw x29] (jw x35) w75 ∧ F13 12 [.agg #[ji x23.1, ji x23.2.1]] (jw x29) w75 ∧ F13 11 [ji x17] (.agg #[ji x23.1, ji x23.2.1]) w75 ∧ True) fun w74 =>
 wr prog (Builtin.append_ #[32, 32] 32 #[.slice x59.1 x59.2.1 x59.2.2, .slice x73.1 x73.2.1 x73.2.2]) oS w74 fun (x76 : Hd3) w77 =>
 nn (some x3) fun (a78 : Addr) =>
 wu prog (jS 32 a78 (jw x35)) w77 fun w79 =>
 nn (some x3) fun (a80 : Addr) =>
 wu prog (jS 32 (Addr.add a80 1) (jw x57)) w79 fun w81 =>
 nn (some x3) fun (a82 : Addr) =>
 wu prog (jS 32 (Addr.add a82 2) (jw x76)) w81 fun w83 =>
 z (IntKind.wrap .i64 (s7.1 + 1)) fun (z84 : Int) =>
 g6 (z84, ()) w83)
 (rd prog (jL 27 (Addr.add x1 1)) oS w8 fun (x85 : Hd3) =>
 loop (T := (Int × Unit)) (0, ()) w8 fun (g86 : Int × Unit → World → Prop) (s87 : Int × Unit) w88 => ∀ _ : NV,
 br (decide (s87.1 < ((x85.2.1 : Nat) : Int))) (rdp prog (jI 27 x85 s87.1) oA fun (x89 : Addr) =>
 rd prog (jL 26 x89) oS w88 fun (x90 : Hd3) =>
 rd prog (jL 26 x1) oS w88 fun (x91 : Hd3) =>
 rd prog (jL 27 (Addr.add x1 1)) oS w88 fun (x92 : Hd3) =>
 z (IntKind.wrap .i64 (((x91.2.1 : Nat) : Int) + ((x92.2.1 : Nat) : Int))) fun (z93 : Int) =>
 wr prog (Instr.makeSlice 32 (ji z93) (ji z93)) oS w88 fun (x94 : Hd3) w95 =>
 callP prog Pn 66 [ji 0] (.one aF) w95 fun (x96 : TF) w97 =>
 wr prog (Instr.alloc 60 true (.tuple #[])) oA w97 fun (x98 : Addr) w99 =>
 wu prog (jS 60 x98 (.agg #[ji x96.1, ji x96.2.1])) w99 fun w100 =>
 loop (T := (Int × Unit)) (0, ()) w100 fun (g101 : Int × Unit → World → Prop) (s102 : Int × Unit) w103 => ∀ _ : NV,
 br (decide (s102.1 < ((x94.2.1 : Nat) : Int))) (join (T := Unit) (fun (_s105 : Unit) w106 => ∀ _ : NV,
 z (IntKind.wrap .i64 (s102.1 + 1)) fun (z107 : Int) =>
 g101 (z107, ()) w106)
  fun (K104 : Unit → World → Prop) =>
 callP prog Pn 66 [ji 0] (.one aF) w103 fun (x108 : TF) w109 =>
 rdp prog (jI 32 x94 s102.1) oA fun (x110 : Addr) =>
 wu prog (jS 60 x110 (.agg #[ji x108.1, ji x108.2.1])) w109 fun w111 =>
 br (decide (s102.1 < ((x90.2.1 : Nat) : Int))) (rdp prog (jI 26 x90 s102.1) oA fun (x112 : Addr) =>
 rd prog (jL 2 x112) oI w111 fun (x113 : Int) =>
 br (x113 != 0) (rdp prog (jI 26 x90 s102.1) oA fun (x114 : Addr) =>
 rd prog (jL 2 x114) oI w111 fun (x115 : Int) =>
 callP prog Pn 66 [ji x115] (.one aF) w111 fun (x116 : TF) w117 =>
 rdp prog (jI 32 x94 s102.1) oA fun (x118 : Addr) =>
 wu prog (jS 60 x118 (.agg #[ji x116.1, ji x116.2.1])) w117 fun w119 =>
 drw w119 fun w120 => flEx fun F121 =>
 rd prog (jL 60 x98) aF w120 fun (x122 : TF) =>
 rdp prog (jI 32 x94 s102.1) oA fun (x123 : Addr) =>
 rd prog (jL 60 x123) aF w120 fun (x124 : TF) =>
 nn (some x3) fun (a125 : Addr) =>
 rd prog (jL 32 (Addr.add a125 2)) oS w120 fun (x126 : Hd3) =>
 rdp prog (jI 32 x126 s102.1) oA fun (x127 : Addr) =>
 rd prog (jL 60 x127) aF w120 fun (x128 : TF) =>
 flc bel w120 (fun _w130 => True) (fun w129 =>
   callP prog Pn 90 [.agg #[ji x124.1, ji x124.2.1], .agg #[ji x128.1, ji x128.2.1]] (.one aF) w129 fun (x131 : TF) w132 =>
 (bel w129 w132 ∧ F121 12 [.agg #[ji x124.1, ji x124.2.1], .agg #[ji x128.1, ji x128.2.1]] (.agg #[ji x131.1, ji x131.2.1]) w132))
  fun (x133 : TF) =>
 flend bel w120 (fun w135 => F121 12 [.agg #[ji x124.1, ji x124.2.1], .agg #[ji x128.1, ji x128.2.1]] (.agg #[ji x133.1, ji x133.2.1]) w135 ∧ True) fun w134 =>
 callP prog Pn 89 [.agg #[ji x122.1, ji x122.2.1], .agg #[ji x133.1, ji x133.2.1]] (.one aF) w134 fun (x136 : TF) w137 =>
 wu prog (jS 60 x98 (.agg #[ji x136.1, ji x136.2.1])) w137 fun w138 =>
 K104 (()) w138)
 (K104 (()) w111))
 (K104 (()) w111))
 (drw w103 fun w139 => flExC w139 fun E142 G141 Y140 F143 =>
 nn (some x3) fun (a144 : Addr) =>
 rdE prog (ER Y140 [14, 24, 25, 26, 33, 36, 39, 42] E142) (jL 32 a144) oS w139 fun (x145 : Hd3) =>
 rdE prog (ER Y140 [12, 13, 14, 24, 25, 26, 33, 36, 39, 42] E142) (jL 26 (Addr.add x1 2)) oS w139 fun (x146 : Hd3) =>
 rdp prog (jI 26 x146 s87.1) oA fun (x147 : Addr) =>
 rdE prog (ER Y140 [12, 13, 14, 24, 25, 26, 33, 36, 39, 42] E142) (jL 2 x147) oI w139 fun (x148 : Int) =>
 flcC Y140 12 E142 w139 (fun _w150 => True) (fun (D151 : Nat → Bool) w149 =>
   callP prog Pn 66 [ji x148] (.one aF) w149 fun (x152 : TF) w153 =>
 (E142 w149 w153 ∧ G141 12 w149 w153 ∧ Y140 (setD D151 12) w153 ∧ F143 12 [ji x148] (.agg #[ji x152.1, ji x152.2.1]) w153))
  fun (x154 : TF) =>
 flcC Y140 13 E142 w139 (fun w156 => F143 12 [ji x148] (.agg #[ji x154.1, ji x154.2.1]) w156 ∧ True) (fun (D157 : Nat → Bool) w155 =>
   D157 12 = true → wr prog (Instr.buildSlice 32 1 #[(0, (.agg #[ji x154.1, ji x154.2.1]))]) oS w155 fun (x158 : Hd3) w159 =>
 (E142 w155 w159 ∧ G141 13 w155 w159 ∧ Y140 (setD D157 13) w159 ∧ F143 13 [.agg #[ji x154.1, ji x154.2.1]] (jw x158) w159))
  fun (x160 : Hd3) =>
 flcC Y140 14 E142 w139 (fun w162 => F143 13 [.agg #[ji x154.1, ji x154.2.1]] (jw x160) w162 ∧ F143 12 [ji x148] (.agg #[ji x154.1, ji x154.2.1]) w162 ∧ True) (fun (D163 : Nat → Bool) w161 =>
   D163 13 = true → D163 12 = true → wr prog (Builtin.append_ #[32, 32] 32 #[.slice x145.1 x145.2.1 x145.2.2, .slice x160.1 x160.2.1 x160.2.2]) oS w161 fun (x164 : Hd3) w165 =>
 (E142 w161 w165 ∧ G141 14 w161 w165 ∧ Y140 (setD D163 14) w165 ∧ F143 14 [jw x145, jw x160] (jw x164) w165))
  fun (x166 : Hd3) =>
 nn (some x3) fun (a167 : Addr) =>
 rdE prog (ER Y140 [26, 33, 36, 39, 42] E142) (jL 32 (Addr.add a167 1)) oS w139 fun (x168 : Hd3) =>
 rdE prog (ER Y140 [24, 25, 26, 33, 36, 39, 42] E142) (jL 26 (Addr.add x1 2)) oS w139 fun (x169 : Hd3) =>
 rdp prog (jI 26 x169 s87.1) oA fun (x170 : Addr) =>
 rdE prog (ER Y140 [24, 25, 26, 33, 36, 39, 42] E142) (jL 2 x170) oI w139 fun (x171 : Int) =>
 flcC Y140 24 E142 w139 (fun w173 => F143 14 [jw x145, jw x160] (jw x166) w173 ∧ F143 13 [.agg #[ji x154.1, ji x154.2.1]] (jw x160) w173 ∧ F143 12 [ji x148] (.agg #[ji x154.1, ji x154.2.1]) w173 ∧ True) (fun (D174 : Nat → Bool) w172 =>
   D174 14 = true → D174 13 = true → D174 12 = true → callP prog Pn 66 [ji x171] (.one aF) w172 fun (x175 : TF) w176 =>
 (E142 w172 w176 ∧ G141 24 w172 w176 ∧ Y140 (setD D174 24) w176 ∧ F143 24 [ji x171] (.agg #[ji x175.1, ji x175.2.1]) w176))
  fun (x177 : TF) =>
 flcC Y140 25 E142 w139 (fun w179 => F143 24 [ji x171] (.agg #[ji x177.1, ji x177.2.1]) w179 ∧ F143 14 [jw x145, jw x160] (jw x166) w179 ∧ F143 13 [.agg #[ji x154.1, ji x154.2.1]] (jw x160) w179 ∧ F143 12 [ji x148] (.agg #[ji x154.1, ji x154.2.1]) w179 ∧ True) (fun (D180 : Nat → Bool) w178 =>
   D180 24 = true → D180 14 = true → D180 13 = true → D180 12 = true → wr prog (Instr.buildSlice 32 1 #[(0, (.agg #[ji x177.1, ji x177.2.1]))]) oS w178 fun (x181 : Hd3) w182 =>
 (E142 w178 w182 ∧ G141 25 w178 w182 ∧ Y140 (setD D180 25) w182 ∧ F143 25 [.agg #[ji x177.1, ji x177.2.1]] (jw x181) w182))
  fun (x183 : Hd3) =>
 flcC Y140 26 E142 w139 (fun w185 => F143 25 [.agg #[ji x177.1, ji x177.2.1]] (jw x183) w185 ∧ F143 24 [ji x171] (.agg #[ji x177.1, ji x177.2.1]) w185 ∧ F143 14 [jw x145, jw x160] (jw x166) w185 ∧ F143 13 [.agg #[ji x154.1, ji x154.2.1]] (jw x160) w185 ∧ F143 12 [ji x148] (.agg #[ji x154.1, ji x154.2.1]) w185 ∧ True) (fun (D186 : Nat → Bool) w184 =>
   D186 25 = true → D186 24 = true → D186 14 = true → D186 13 = true → D186 12 = true → wr prog (Builtin.append_ #[32, 32] 32 #[.slice x168.1 x168.2.1 x168.2.2, .slice x183.1 x183.2.1 x183.2.2]) oS w184 fun (x187 : Hd3) w188 =>
 (E142 w184 w188 ∧ G141 26 w184 w188 ∧ Y140 (setD D186 26) w188 ∧ F143 26 [jw x168, jw x183] (jw x187) w188))
  fun (x189 : Hd3) =>
 nn (some x3) fun (a190 : Addr) =>
 rdE prog (ER Y140 [33, 36, 39, 42] E142) (jL 32 (Addr.add a190 2)) oS w139 fun (x191 : Hd3) =>
 rdE prog (ER Y140 [32, 33, 36, 39, 42] E142) (jL 60 x98) aF w139 fun (x192 : TF) =>
 flcC Y140 32 E142 w139 (fun _w194 => True) (fun (D195 : Nat → Bool) w193 =>
   wr prog (Instr.buildSlice 32 1 #[(0, (.agg #[ji x192.1, ji x192.2.1]))]) oS w193 fun (x196 : Hd3) w197 =>
 (E142 w193 w197 ∧ G141 32 w193 w197 ∧ Y140 (setD D195 32) w197 ∧ F143 32 [.agg #[ji x192.1, ji x192.2.1]] (jw x196) w197))
  fun (x198 : Hd3) =>
 flendC Y140 [32, 26, 25, 24, 14, 13, 12] E142 w139 (fun w200 => F143 32 [.agg #[ji x192.1, ji x192.2.1]] (jw x198) w200 ∧ F143 26 [jw x168, jw x183] (jw x189) w200 ∧ F143 25 [.agg #[ji x177.1, ji x177.2.1]] (jw x183) w200 ∧ F143 24 [ji x171] (.agg #[ji x177.1, ji x177.2.1]) w200 ∧ F143 14 [jw x145, jw x160] (jw x166) w200 ∧ F143 13 [.agg #[ji x154.1, ji x154.2.1]] (jw x160) w200 ∧ F143 12 [ji x148] (.agg #[ji x154.1, ji x154.2.1]) w200 ∧ True) fun w199 =>
 wr prog (Builtin.append_ #[32, 32] 32 #[.slice x191.1 x191.2.1 x191.2.2, .slice x198.1 x198.2.1 x198.2.2]) oS w199 fun (x201 : Hd3) w202 =>
 nn (some x3) fun (a203 : Addr) =>
 wu prog (jS 32 a203 (jw x166)) w202 fun w204 =>
 nn (some x3) fun (a205 : Addr) =>
 wu prog (jS 32 (Addr.add a205 1) (jw x189)) w204 fun w206 =>
 nn (some x3) fun (a207 : Addr) =>
 wu prog (jS 32 (Addr.add a207 2) (jw x201)) w206 fun w208 =>
 drw w208 fun w209 => flExC w209 fun E212 G211 Y210 F213 =>
 nn (some x3) fun (a214 : Addr) =>
 rdE prog (ER Y210 [12, 19, 22, 25] E212) (jL 22 (Addr.add a214 3)) oS w209 fun (x215 : Hd3) =>
 rdE prog (ER Y210 [11, 12, 19, 22, 25] E212) (jL 26 x1) oS w209 fun (x216 : Hd3) =>
 z (IntKind.wrap .i64 (((x216.2.1 : Nat) : Int) + s87.1)) fun (z217 : Int) =>
 flcC Y210 11 E212 w209 (fun _w219 => True) (fun (D220 : Nat → Bool) w218 =>
   wr prog (Instr.buildSlice 22 1 #[(0, (ji z217))]) oS w218 fun (x221 : Hd3) w222 =>
 (E212 w218 w222 ∧ G211 11 w218 w222 ∧ Y210 (setD D220 11) w222 ∧ F213 11 [ji z217] (jw x221) w222))
  fun (x223 : Hd3) =>
 flcC Y210 12 E212 w209 (fun w225 => F213 11 [ji z217] (jw x223) w225 ∧ True) (fun (D226 : Nat → Bool) w224 =>
   D226 11 = true → wr prog (Builtin.append_ #[22, 22] 22 #[.slice x215.1 x215.2.1 x215.2.2, .slice x223.1 x223.2.1 x223.2.2]) oS w224 fun (x227 : Hd3) w228 =>
 (E212 w224 w228 ∧ G211 12 w224 w228 ∧ Y210 (setD D226 12) w228 ∧ F213 12 [jw x215, jw x223] (jw x227) w228))
  fun (x229 : Hd3) =>
 nn (some x3) fun (a230 : Addr) =>
 rdE prog (ER Y210 [19, 22, 25] E212) (jL 95 (Addr.add a230 4)) oS w209 fun (x231 : Hd3) =>
 flcC Y210 18 E212 w209 (fun _w233 => True) (fun (D234 : Nat → Bool) w232 =>
   wr prog (Instr.buildSlice 95 1 #[(0, (jw x94))]) oS w232 fun (x235 : Hd3) w236 =>
 (E212 w232 w236 ∧ G211 18 w232 w236 ∧ Y210 (setD D234 18) w236 ∧ F213 18 [jw x94] (jw x235) w236))
  fun (x237 : Hd3) =>
 flendC Y210 [18, 12, 11] E212 w209 (fun w239 => F213 18 [jw x94] (jw x237) w239 ∧ F213 12 [jw x215, jw x223] (jw x229) w239 ∧ F213 11 [ji z217] (jw x223) w239 ∧ True) fun w238 =>
 wr prog (Builtin.append_ #[95, 95] 95 #[.slice x231.1 x231.2.1 x231.2.2, .slice x237.1 x237.2.1 x237.2.2]) oS w238 fun (x240 : Hd3) w241 =>
 nn (some x3) fun (a242 : Addr) =>
 wu prog (jS 22 (Addr.add a242 3) (jw x229)) w241 fun w243 =>
 nn (some x3) fun (a244 : Addr) =>
 wu prog (jS 95 (Addr.add a244 4) (jw x240)) w243 fun w245 =>
 z (IntKind.wrap .i64 (s87.1 + 1)) fun (z246 : Int) =>
 g86 (z246, ()) w245))
 (R (jp x3) w88))
def H61 : Hints := ⟨[(2, 0, [(19, (.one (.int .i64)))]), (2, 2, [(68, (.one (.int .i64)))]), (2, 4, [(84, (.one (.int .i64)))]), (1, 5, [])], [(5, 35), (18, 13), (20, 33), (21, 19)], [], [2000021, 1000021, 2000020, 1000020, 2000005, 1000005]⟩
theorem S61_calls (s_0a : OA) (s_0n s_0c : Nat) (s_1a : OA) (s_1n s_1c : Nat) (s_2a : OA) (s_2n s_2c : Nat) (lower_a : OA) (lower_n lower_c : Nat) (upper_a : OA) (upper_n upper_c : Nat) (w0 : World) (Pn : List PanicEntry → World → Prop) (R : KR) (h : S61 s_0a s_0n s_0c s_1a s_1n s_1c s_2a s_2n s_2c lower_a lower_n lower_c upper_a upper_n upper_c w0 Pn R) : Calls prog 61 #[.agg #[.slice s_0a s_0n s_0c, .slice s_1a s_1n s_1c, .slice s_2a s_2n s_2c], .slice lower_a lower_n lower_c, .slice upper_a upper_n upper_c] w0 (retP R (some Pn)) :=
 vcFnP_sound (H := H61) follows_ Tryz.func61 (Eq.mpr (by kernel_rfl) h)
def S62 (t_ : OA) (w0 : World) (R : KR) : Prop :=
 nn t_ fun (a1 : Addr) =>
 rd prog (jL 22 (Addr.add a1 3)) oS w0 fun (x2 : Hd3) =>
 loop (T := (Int × Bool × Int × Unit)) ((-1), false, 0, ()) w0 fun (g3 : Int × Bool × Int × Unit → World → Prop) (s4 : Int × Bool × Int × Unit) w5 => ∀ _ : NV,
 br (decide (s4.2.2.1 < ((x2.2.1 : Nat) : Int))) (join (T := (Int × Bool × Unit)) (fun (s7 : Int × Bool × Unit) w8 => ∀ _ : NV,
 z (IntKind.wrap .i64 (s4.2.2.1 + 1)) fun (z9 : Int) =>
 g3 (s7.1, s7.2.1, z9, ()) w8)
  fun (K6 : Int × Bool × Unit → World → Prop) =>
 rdp prog (jI 22 x2 s4.2.2.1) oA fun (x10 : Addr) =>
 rd prog (jL 3 x10) oI w5 fun (x11 : Int) =>
 drw w5 fun w12 => flEx fun F13 =>
 nn t_ fun (a14 : Addr) =>
 rd prog (jL 32 (Addr.add a14 2)) oS w12 fun (x15 : Hd3) =>
 rdp prog (jI 32 x15 x11) oA fun (x16 : Addr) =>
 rd prog (jL 60 x16) aF w12 fun (x17 : TF) =>
 nn t_ fun (a18 : Addr) =>
 rd prog (jL 32 a18) oS w12 fun (x19 : Hd3) =>
 rdp prog (jI 32 x19 x11) oA fun (x20 : Addr) =>
 rd prog (jL 60 x20) aF w12 fun (x21 : TF) =>
 flc bel w12 (fun _w23 => True) (fun w22 =>
   call prog 91 [.agg #[ji x17.1, ji x17.2.1], .agg #[ji x21.1, ji x21.2.1]] (.one oI) w22 fun (x24 : Int) w25 =>
 (bel w22 w25 ∧ F13 14 [.agg #[ji x17.1, ji x17.2.1], .agg #[ji x21.1, ji x21.2.1]] (ji x24) w25))
  fun (x26 : Int) =>
 nn t_ fun (a27 : Addr) =>
 rd prog (jL 32 (Addr.add a27 2)) oS w12 fun (x28 : Hd3) =>
 rdp prog (jI 32 x28 x11) oA fun (x29 : Addr) =>
 rd prog (jL 60 x29) aF w12 fun (x30 : TF) =>
 nn t_ fun (a31 : Addr) =>
 rd prog (jL 32 (Addr.add a31 1)) oS w12 fun (x32 : Hd3) =>
 rdp prog (jI 32 x32 x11) oA fun (x33 : Addr) =>
 rd prog (jL 60 x33) aF w12 fun (x34 : TF) =>
 flend bel w12 (fun w36 => F13 14 [.agg #[ji x17.1, ji x17.2.1], .agg #[ji x21.1, ji x21.2.1]] (ji x26) w36 ∧ True) fun w35 =>
 call prog 91 [.agg #[ji x30.1, ji x30.2.1], .agg #[ji x34.1, ji x34.2.1]] (.one oI) w35 fun (x37 : Int) w38 =>
 br (decide (x26 < 0)) (br (decide (s4.1 < 0)) (K6 (s4.2.2.1, (decide (x26 < 0)), ()) w38)
 (nn t_ fun (a39 : Addr) =>
 rd prog (jL 22 (Addr.add a39 3)) oS w38 fun (x40 : Hd3) =>
 rdp prog (jI 22 x40 s4.1) oA fun (x41 : Addr) =>
 rd prog (jL 3 x41) oI w38 fun (x42 : Int) =>
 br (decide (x11 < x42)) (K6 (s4.2.2.1, (decide (x26 < 0)), ()) w38)
 (K6 (s4.1, s4.2.1, ()) w38)))
 (br (decide (x37 > 0)) (br (decide (s4.1 < 0)) (K6 (s4.2.2.1, (decide (x26 < 0)), ()) w38)
 (nn t_ fun (a43 : Addr) =>
 rd prog (jL 22 (Addr.add a43 3)) oS w38 fun (x44 : Hd3) =>
 rdp prog (jI 22 x44 s4.1) oA fun (x45 : Addr) =>
 rd prog (jL 3 x45) oI w38 fun (x46 : Int) =>
 br (decide (x11 < x46)) (K6 (s4.2.2.1, (decide (x26 < 0)), ()) w38)
 (K6 (s4.1, s4.2.1, ()) w38)))
 (K6 (s4.1, s4.2.1, ()) w38)))
 (R (.tuple #[ji s4.1, .bool s4.2.1]) w5)
def H62 : Hints := ⟨[(2, 0, [(4, (.one (.int .i64))), (5, (.one .bool)), (15, (.one (.int .i64)))]), (1, 1, [(4, (.one (.int .i64))), (5, (.one .bool))])], [(5, 30)], [], []⟩
theorem S62_calls (t_ : OA) (w0 : World) (R : KR) (h : S62 t_ w0 R) : Calls prog 62 #[.pointer t_] w0 (ret R) :=
 vcFn_sound (H := H62) follows_ Tryz.func62 (Eq.mpr (by kernel_rfl) h)
def S64 (t_ : OA) (row_ : Int) (upwards_ : Bool) (w0 : World) (R : KR) : Prop :=
 nn t_ fun (a1 : Addr) =>
 rd prog (jL 95 (Addr.add a1 4)) oS w0 fun (x2 : Hd3) =>
 rdp prog (jI 95 x2 row_) oA fun (x3 : Addr) =>
 rd prog (jL 32 x3) oS w0 fun (x4 : Hd3) =>
 loop (T := (Int × Unit)) (0, ()) w0 fun (g5 : Int × Unit → World → Prop) (s6 : Int × Unit) w7 => ∀ _ : NV,
 br (decide (s6.1 < ((x4.2.1 : Nat) : Int))) (join (T := Unit) (fun (_s9 : Unit) w10 => ∀ _ : NV,
 z (IntKind.wrap .i64 (s6.1 + 1)) fun (z11 : Int) =>
 g5 (z11, ()) w10)
  fun (K8 : Unit → World → Prop) =>
 rdp prog (jI 32 x4 s6.1) oA fun (x12 : Addr) =>
 rd prog (jL 60 x12) aF w7 fun (x13 : TF) =>
 wr prog (Instr.alloc 60 true (.tuple #[])) oA w7 fun (x14 : Addr) w15 =>
 wu prog (jS 60 x14 (.agg #[ji x13.1, ji x13.2.1])) w15 fun w16 =>
 rd prog (jL 2 x14) oI w16 fun (x17 : Int) =>
 br (x17 == 0) (K8 (()) w16)
 (nn t_ fun (a18 : Addr) =>
 rd prog (jL 22 (Addr.add a18 3)) oS w16 fun (x19 : Hd3) =>
 rdp prog (jI 22 x19 row_) oA fun (x20 : Addr) =>
 rd prog (jL 3 x20) oI w16 fun (x21 : Int) =>
 br (s6.1 == x21) (K8 (()) w16)
 (rd prog (jL 2 x14) oI w16 fun (x22 : Int) =>
 br ((decide (x22 > 0)) == upwards_) (drw w16 fun w23 =>
 nn t_ fun (a24 : Addr) =>
 rd prog (jL 32 (Addr.add a24 2)) oS w23 fun (x25 : Hd3) =>
 rdp prog (jI 32 x25 s6.1) oA fun (x26 : Addr) =>
 rd prog (jL 60 x26) aF w23 fun (x27 : TF) =>
 nn t_ fun (a28 : Addr) =>
 rd prog (jL 32 (Addr.add a28 1)) oS w23 fun (x29 : Hd3) =>
 rdp prog (jI 32 x29 s6.1) oA fun (x30 : Addr) =>
 rd prog (jL 60 x30) aF w23 fun (x31 : TF) =>
 call prog 91 [.agg #[ji x27.1, ji x27.2.1], .agg #[ji x31.1, ji x31.2.1]] (.one oI) w23 fun (x32 : Int) w33 =>
 br (decide (x32 < 0)) (R (ji s6.1) w33)
 (K8 (()) w33))
 (drw w16 fun w34 =>
 nn t_ fun (a35 : Addr) =>
 rd prog (jL 32 (Addr.add a35 2)) oS w34 fun (x36 : Hd3) =>
 rdp prog (jI 32 x36 s6.1) oA fun (x37 : Addr) =>
 rd prog (jL 60 x37) aF w34 fun (x38 : TF) =>
 nn t_ fun (a39 : Addr) =>
 rd prog (jL 32 a39) oS w34 fun (x40 : Hd3) =>
 rdp prog (jI 32 x40 s6.1) oA fun (x41 : Addr) =>
 rd prog (jL 60 x41) aF w34 fun (x42 : TF) =>
 call prog 91 [.agg #[ji x38.1, ji x38.2.1], .agg #[ji x42.1, ji x42.2.1]] (.one oI) w34 fun (x43 : Int) w44 =>
 br (decide (x43 > 0)) (R (ji s6.1) w44)
 (K8 (()) w44)))))
 (R (ji (-1)) w7)
def H64 : Hints := ⟨[(2, 0, [(17, (.one (.int .i64)))]), (1, 1, [])], [(6, 14), (8, 14)], [], []⟩
theorem S64_calls (t_ : OA) (row_ : Int) (upwards_ : Bool) (w0 : World) (R : KR) (h : S64 t_ row_ upwards_ w0 R) : Calls prog 64 #[.pointer t_, ji row_, .bool upwards_] w0 (ret R) :=
 vcFn_sound (H := H64) follows_ Tryz.func64 (Eq.mpr (by kernel_rfl) h)
def S65 (t_ : OA) (row_ k_ to_0 to_1 : Int) (w0 : World) (Pn : List PanicEntry → World → Prop) (R : KR) : Prop :=
 wr prog (Instr.box 60 (.agg #[ji to_0, ji to_1])) oA w0 fun (x1 : Addr) w2 =>
 nn t_ fun (a3 : Addr) =>
 rd prog (jL 22 (Addr.add a3 3)) oS w2 fun (x4 : Hd3) =>
 rdp prog (jI 22 x4 row_) oA fun (x5 : Addr) =>
 rd prog (jL 3 x5) oI w2 fun (x6 : Int) =>
 drw w2 fun w7 => flEx fun F8 =>
 rd prog (jL 60 x1) aF w7 fun (x9 : TF) =>
 nn t_ fun (a10 : Addr) =>
 rd prog (jL 32 (Addr.add a10 2)) oS w7 fun (x11 : Hd3) =>
 rdp prog (jI 32 x11 x6) oA fun (x12 : Addr) =>
 rd prog (jL 60 x12) aF w7 fun (x13 : TF) =>
 flc bel w7 (fun _w15 => True) (fun w14 =>
   callP prog Pn 67 [.agg #[ji x9.1, ji x9.2.1], .agg #[ji x13.1, ji x13.2.1]] (.one aF) w14 fun (x16 : TF) w17 =>
 (bel w14 w17 ∧ F8 8 [.agg #[ji x9.1, ji x9.2.1], .agg #[ji x13.1, ji x13.2.1]] (.agg #[ji x16.1, ji x16.2.1]) w17))
  fun (x18 : TF) =>
 nn t_ fun (a19 : Addr) =>
 rd prog (jL 95 (Addr.add a19 4)) oS w7 fun (x20 : Hd3) =>
 rdp prog (jI 95 x20 row_) oA fun (x21 : Addr) =>
 rd prog (jL 32 x21) oS w7 fun (x22 : Hd3) =>
 rdp prog (jI 32 x22 k_) oA fun (x23 : Addr) =>
 rd prog (jL 60 x23) aF w7 fun (x24 : TF) =>
 flc bel w7 (fun w26 => F8 8 [.agg #[ji x9.1, ji x9.2.1], .agg #[ji x13.1, ji x13.2.1]] (.agg #[ji x18.1, ji x18.2.1]) w26 ∧ True) (fun w25 =>
   callP prog Pn 93 [.agg #[ji x18.1, ji x18.2.1], .agg #[ji x24.1, ji x24.2.1]] (.many [aF, oI]) w25 fun (x27 : ((TF) × Int × Unit)) w28 =>
 (bel w25 w28 ∧ F8 19 [.agg #[ji x18.1, ji x18.2.1], .agg #[ji x24.1, ji x24.2.1]] (.tuple #[.agg #[ji x27.1.1, ji x27.1.2.1], ji x27.2.1]) w28))
  fun (x29 : ((TF) × Int × Unit)) =>
 flc bel w7 (fun w31 => F8 19 [.agg #[ji x18.1, ji x18.2.1], .agg #[ji x24.1, ji x24.2.1]] (.tuple #[.agg #[ji x29.1.1, ji x29.1.2.1], ji x29.2.1]) w31 ∧ F8 8 [.agg #[ji x9.1, ji x9.2.1], .agg #[ji x13.1, ji x13.2.1]] (.agg #[ji x18.1, ji x18.2.1]) w31 ∧ True) (fun w30 =>
   callP prog Pn 92 [.agg #[ji x29.1.1, ji x29.1.2.1], ji x29.2.1] (.one aF) w30 fun (x32 : TF) w33 =>
 (bel w30 w33 ∧ F8 22 [.agg #[ji x29.1.1, ji x29.1.2.1], ji x29.2.1] (.agg #[ji x32.1, ji x32.2.1]) w33))
  fun (x34 : TF) =>
 flc bel w7 (fun _w36 => True) (fun w35 =>
   wr prog (Instr.alloc 60 true (.tuple #[])) oA w35 fun (x37 : Addr) w38 =>
 (bel w35 w38 ∧ F8 23 [] (jp x37) w38))
  fun (x39 : Addr) =>
 flend bel w7 (fun w41 => F8 23 [] (jp x39) w41 ∧ F8 22 [.agg #[ji x29.1.1, ji x29.1.2.1], ji x29.2.1] (.agg #[ji x34.1, ji x34.2.1]) w41 ∧ F8 19 [.agg #[ji x18.1, ji x18.2.1], .agg #[ji x24.1, ji x24.2.1]] (.tuple #[.agg #[ji x29.1.1, ji x29.1.2.1], ji x29.2.1]) w41 ∧ F8 8 [.agg #[ji x9.1, ji x9.2.1], .agg #[ji x13.1, ji x13.2.1]] (.agg #[ji x18.1, ji x18.2.1]) w41 ∧ True) fun w40 =>
 wu prog (jS 60 x39 (.agg #[ji x34.1, ji x34.2.1])) w40 fun w42 =>
 drw w42 fun w43 => flEx fun F44 =>
 nn t_ fun (a45 : Addr) =>
 rd prog (jL 32 (Addr.add a45 2)) oS w43 fun (x46 : Hd3) =>
 nn t_ fun (a47 : Addr) =>
 rd prog (jL 32 (Addr.add a47 2)) oS w43 fun (x48 : Hd3) =>
 rd prog (jL 60 x1) aF w43 fun (x49 : TF) =>
 nn t_ fun (a50 : Addr) =>
 rd prog (jL 32 (Addr.add a50 2)) oS w43 fun (x51 : Hd3) =>
 rdp prog (jI 32 x51 k_) oA fun (x52 : Addr) =>
 rd prog (jL 60 x52) aF w43 fun (x53 : TF) =>
 rd prog (jL 60 x39) aF w43 fun (x54 : TF) =>
 flc bel w43 (fun _w56 => True) (fun w55 =>
   callP prog Pn 89 [.agg #[ji x53.1, ji x53.2.1], .agg #[ji x54.1, ji x54.2.1]] (.one aF) w55 fun (x57 : TF) w58 =>
 (bel w55 w58 ∧ F44 19 [.agg #[ji x53.1, ji x53.2.1], .agg #[ji x54.1, ji x54.2.1]] (.agg #[ji x57.1, ji x57.2.1]) w58))
  fun (x59 : TF) =>
 flend bel w43 (fun w61 => F44 19 [.agg #[ji x53.1, ji x53.2.1], .agg #[ji x54.1, ji x54.2.1]] (.agg #[ji x59.1, ji x59.2.1]) w61 ∧ True) fun w60 =>
 rdp prog (jI 32 x46 x6) oA fun (x62 : Addr) =>
 wu prog (jS 60 x62 (.agg #[ji x49.1, ji x49.2.1])) w60 fun w63 =>
 rdp prog (jI 32 x48 k_) oA fun (x64 : Addr) =>
 wu prog (jS 60 x64 (.agg #[ji x59.1, ji x59.2.1])) w63 fun w65 =>
 nn t_ fun (a66 : Addr) =>
 rd prog (jL 22 (Addr.add a66 3)) oS w65 fun (x67 : Hd3) =>
 loop (T := (Int × Unit)) (0, ()) w65 fun (g68 : Int × Unit → World → Prop) (s69 : Int × Unit) w70 => ∀ _ : NV,
 br (decide (s69.1 < ((x67.2.1 : Nat) : Int))) (join (T := Unit) (fun (_s72 : Unit) w73 => ∀ _ : NV,
 z (IntKind.wrap .i64 (s69.1 + 1)) fun (z74 : Int) =>
 g68 (z74, ()) w73)
  fun (K71 : Unit → World → Prop) =>
 rdp prog (jI 22 x67 s69.1) oA fun (x75 : Addr) =>
 rd prog (jL 3 x75) oI w70 fun (x76 : Int) =>
 nn t_ fun (a77 : Addr) =>
 rd prog (jL 95 (Addr.add a77 4)) oS w70 fun (x78 : Hd3) =>
 rdp prog (jI 95 x78 s69.1) oA fun (x79 : Addr) =>
 rd prog (jL 32 x79) oS w70 fun (x80 : Hd3) =>
 rdp prog (jI 32 x80 k_) oA fun (x81 : Addr) =>
 rd prog (jL 60 x81) aF w70 fun (x82 : TF) =>
 wr prog (Instr.alloc 60 true (.tuple #[])) oA w70 fun (x83 : Addr) w84 =>
 wu prog (jS 60 x83 (.agg #[ji x82.1, ji x82.2.1])) w84 fun w85 =>
 br (s69.1 != row_) (rd prog (jL 2 x83) oI w85 fun (x86 : Int) =>
 br (x86 != 0) (drw w85 fun w87 => flEx fun F88 =>
 nn t_ fun (a89 : Addr) =>
 rd prog (jL 32 (Addr.add a89 2)) oS w87 fun (x90 : Hd3) =>
 nn t_ fun (a91 : Addr) =>
 rd prog (jL 32 (Addr.add a91 2)) oS w87 fun (x92 : Hd3) =>
 rdp prog (jI 32 x92 x76) oA fun (x93 : Addr) =>
 rd prog (jL 60 x93) aF w87 fun (x94 : TF) =>
 rd prog (jL 60 x83) aF w87 fun (x95 : TF) =>
 rd prog (jL 60 x39) aF w87 fun (x96 : TF) =>
 flc bel w87 (fun _w98 => True) (fun w97 =>
   callP prog Pn 90 [.agg #[ji x95.1, ji x95.2.1], .agg #[ji x96.1, ji x96.2.1]] (.one aF) w97 fun (x99 : TF) w100 =>
 (bel w97 w100 ∧ F88 14 [.agg #[ji x95.1, ji x95.2.1], .agg #[ji x96.1, ji x96.2.1]] (.agg #[ji x99.1, ji x99.2.1]) w100))
  fun (x101 : TF) =>
 flc bel w87 (fun w103 => F88 14 [.agg #[ji x95.1, ji x95.2.1], .agg #[ji x96.1, ji x96.2.1]] (.agg #[ji x101.1, ji x101.2.1]) w103 ∧ True) (fun w102 =>
   callP prog Pn 89 [.agg #[ji x94.1, ji x94.2.1], .agg #[ji x101.1, ji x101.2.1]] (.one aF) w102 fun (x104 : TF) w105 =>
 (bel w102 w105 ∧ F88 15 [.agg #[ji x94.1, ji x94.2.1], .agg #[ji x101.1, ji x101.2.1]] (.agg #[ji x104.1, ji x104.2.1]) w105))
  fun (x106 : TF) =>
 flend bel w87 (fun w108 => F88 15 [.agg #[ji x94.1, ji x94.2.1], .agg #[ji x101.1, ji x101.2.1]] (.agg #[ji x106.1, ji x106.2.1]) w108 ∧ F88 14 [.agg #[ji x95.1, ji x95.2.1], .agg #[ji x96.1, ji x96.2.1]] (.agg #[ji x101.1, ji x101.2.1]) w108 ∧ True) fun w107 =>
 rdp prog (jI 32 x90 x76) oA fun (x109 : Addr) =>
 wu prog (jS 60 x109 (.agg #[ji x106.1, ji x106.2.1])) w107 fun w110 =>
 K71 (()) w110)
 (K71 (()) w85))
 (K71 (()) w85))
 (nn t_ fun (a111 : Addr) =>
 rd prog (jL 95 (Addr.add a111 4)) oS w70 fun (x112 : Hd3) =>
 rdp prog (jI 95 x112 row_) oA fun (x113 : Addr) =>
 rd prog (jL 32 x113) oS w70 fun (x114 : Hd3) =>
 rdp prog (jI 32 x114 k_) oA fun (x115 : Addr) =>
 rd prog (jL 60 x115) aF w70 fun (x116 : TF) =>
 wr prog (Instr.alloc 60 true (.tuple #[])) oA w70 fun (x117 : Addr) w118 =>
 wu prog (jS 60 x117 (.agg #[ji x116.1, ji x116.2.1])) w118 fun w119 =>
 nn t_ fun (a120 : Addr) =>
 rd prog (jL 95 (Addr.add a120 4)) oS w119 fun (x121 : Hd3) =>
 rdp prog (jI 95 x121 row_) oA fun (x122 : Addr) =>
 rd prog (jL 32 x122) oS w119 fun (x123 : Hd3) =>
 loop (T := (Int × Unit)) (0, ()) w119 fun (g124 : Int × Unit → World → Prop) (s125 : Int × Unit) w126 => ∀ _ : NV,
 br (decide (s125.1 < ((x123.2.1 : Nat) : Int))) (join (T := Unit) (fun (_s128 : Unit) w129 => ∀ _ : NV,
 z (IntKind.wrap .i64 (s125.1 + 1)) fun (z130 : Int) =>
 g124 (z130, ()) w129)
  fun (K127 : Unit → World → Prop) =>
 rdp prog (jI 32 x123 s125.1) oA fun (x131 : Addr) =>
 rd prog (jL 60 x131) aF w126 fun (x132 : TF) =>
 wr prog (Instr.alloc 60 true (.tuple #[])) oA w126 fun (x133 : Addr) w134 =>
 wu prog (jS 60 x133 (.agg #[ji x132.1, ji x132.2.1])) w134 fun w135 =>
 rd prog (jL 2 x133) oI w135 fun (x136 : Int) =>
 br (x136 != 0) (drw w135 fun w137 => flEx fun F138 =>
 nn t_ fun (a139 : Addr) =>
 rd prog (jL 95 (Addr.add a139 4)) oS w137 fun (x140 : Hd3) =>
 rdp prog (jI 95 x140 row_) oA fun (x141 : Addr) =>
 rd prog (jL 32 x141) oS w137 fun (x142 : Hd3) =>
 flc bel w137 (fun _w144 => True) (fun w143 =>
   callP prog Pn 66 [ji 0] (.one aF) w143 fun (x145 : TF) w146 =>
 (bel w143 w146 ∧ F138 8 [ji 0] (.agg #[ji x145.1, ji x145.2.1]) w146))
  fun (x147 : TF) =>
 rd prog (jL 60 x133) aF w137 fun (x148 : TF) =>
 rd prog (jL 60 x117) aF w137 fun (x149 : TF) =>
 flc bel w137 (fun w151 => F138 8 [ji 0] (.agg #[ji x147.1, ji x147.2.1]) w151 ∧ True) (fun w150 =>
   callP prog Pn 93 [.agg #[ji x148.1, ji x148.2.1], .agg #[ji x149.1, ji x149.2.1]] (.many [aF, oI]) w150 fun (x152 : ((TF) × Int × Unit)) w153 =>
 (bel w150 w153 ∧ F138 11 [.agg #[ji x148.1, ji x148.2.1], .agg #[ji x149.1, ji x149.2.1]] (.tuple #[.agg #[ji x152.1.1, ji x152.1.2.1], ji x152.2.1]) w153))
  fun (x154 : ((TF) × Int × Unit)) =>
 flc bel w137 (fun w156 => F138 11 [.agg #[ji x148.1, ji x148.2.1], .agg #[ji x149.1, ji x149.2.1]] (.tuple #[.agg #[ji x154.1.1, ji x154.1.2.1], ji x154.2.1]) w156 ∧ F138 8 [ji 0] (.agg #[ji x147.1, ji x147.2.1]) w156 ∧ True) (fun w155 =>
   callP prog Pn 92 [.agg #[ji x154.1.1, ji x154.1.2.1], ji x154.2.1] (.one aF) w155 fun (x157 : TF) w158 =>
 (bel w155 w158 ∧ F138 14 [.agg #[ji x154.1.1, ji x154.1.2.1], ji x154.2.1] (.agg #[ji x157.1, ji x157.2.1]) w158))
  fun (x159 : TF) =>
 flc bel w137 (fun w161 => F138 14 [.agg #[ji x154.1.1, ji x154.1.2.1], ji x154.2.1] (.agg #[ji x159.1, ji x159.2.1]) w161 ∧ F138 11 [.agg #[ji x148.1, ji x148.2.1], .agg #[ji x149.1, ji x149.2.1]] (.tuple #[.agg #[ji x154.1.1, ji x154.1.2.1], ji x154.2.1]) w161 ∧ F138 8 [ji 0] (.agg #[ji x147.1, ji x147.2.1]) w161 ∧ True) (fun w160 =>
   callP prog Pn 67 [.agg #[ji x147.1, ji x147.2.1], .agg #[ji x159.1, ji x159.2.1]] (.one aF) w160 fun (x162 : TF) w163 =>
 (bel w160 w163 ∧ F138 15 [.agg #[ji x147.1, ji x147.2.1], .agg #[ji x159.1, ji x159.2.1]] (.agg #[ji x162.1, ji x162.2.1]) w163))
  fun (x164 : TF) =>
 flend bel w137 (fun w166 => F138 15 [.agg #[ji x147.1, ji x147.2.1], .agg #[ji x159.1, ji x159.2.1]] (.agg #[ji x164.1, ji x164.2.1]) w166 ∧ F138 14 [.agg #[ji x154.1.1, ji x154.1.2.1], ji x154.2.1] (.agg #[ji x159.1, ji x159.2.1]) w166 ∧ F138 11 [.agg #[ji x148.1, ji x148.2.1], .agg #[ji x149.1, ji x149.2.1]] (.tuple #[.agg #[ji x154.1.1, ji x154.1.2.1], ji x154.2.1]) w166 ∧ F138 8 [ji 0] (.agg #[ji x147.1, ji x147.2.1]) w166 ∧ True) fun w165 =>
 rdp prog (jI 32 x142 s125.1) oA fun (x167 : Addr) =>
 wu prog (jS 60 x167 (.agg #[ji x164.1, ji x164.2.1])) w165 fun w168 =>
 K127 (()) w168)
 (K127 (()) w135))
 (drw w126 fun w169 => flEx fun F170 =>
 nn t_ fun (a171 : Addr) =>
 rd prog (jL 95 (Addr.add a171 4)) oS w169 fun (x172 : Hd3) =>
 rdp prog (jI 95 x172 row_) oA fun (x173 : Addr) =>
 rd prog (jL 32 x173) oS w169 fun (x174 : Hd3) =>
 nn t_ fun (a175 : Addr) =>
 rd prog (jL 95 (Addr.add a175 4)) oS w169 fun (x176 : Hd3) =>
 rdp prog (jI 95 x176 row_) oA fun (x177 : Addr) =>
 rd prog (jL 32 x177) oS w169 fun (x178 : Hd3) =>
 flc bel w169 (fun _w180 => True) (fun w179 =>
   callP prog Pn 66 [ji 0] (.one aF) w179 fun (x181 : TF) w182 =>
 (bel w179 w182 ∧ F170 16 [ji 0] (.agg #[ji x181.1, ji x181.2.1]) w182))
  fun (x183 : TF) =>
 flc bel w169 (fun w185 => F170 16 [ji 0] (.agg #[ji x183.1, ji x183.2.1]) w185 ∧ True) (fun w184 =>
   callP prog Pn 66 [ji 1] (.one aF) w184 fun (x186 : TF) w187 =>
 (bel w184 w187 ∧ F170 17 [ji 1] (.agg #[ji x186.1, ji x186.2.1]) w187))
  fun (x188 : TF) =>
 rd prog (jL 60 x117) aF w169 fun (x189 : TF) =>
 flc bel w169 (fun w191 => F170 17 [ji 1] (.agg #[ji x188.1, ji x188.2.1]) w191 ∧ F170 16 [ji 0] (.agg #[ji x183.1, ji x183.2.1]) w191 ∧ True) (fun w190 =>
   callP prog Pn 93 [.agg #[ji x188.1, ji x188.2.1], .agg #[ji x189.1, ji x189.2.1]] (.many [aF, oI]) w190 fun (x192 : ((TF) × Int × Unit)) w193 =>
 (bel w190 w193 ∧ F170 19 [.agg #[ji x188.1, ji x188.2.1], .agg #[ji x189.1, ji x189.2.1]] (.tuple #[.agg #[ji x192.1.1, ji x192.1.2.1], ji x192.2.1]) w193))
  fun (x194 : ((TF) × Int × Unit)) =>
 flc bel w169 (fun w196 => F170 19 [.agg #[ji x188.1, ji x188.2.1], .agg #[ji x189.1, ji x189.2.1]] (.tuple #[.agg #[ji x194.1.1, ji x194.1.2.1], ji x194.2.1]) w196 ∧ F170 17 [ji 1] (.agg #[ji x188.1, ji x188.2.1]) w196 ∧ F170 16 [ji 0] (.agg #[ji x183.1, ji x183.2.1]) w196 ∧ True) (fun w195 =>
   callP prog Pn 92 [.agg #[ji x194.1.1, ji x194.1.2.1], ji x194.2.1] (.one aF) w195 fun (x197 : TF) w198 =>
 (bel w195 w198 ∧ F170 22 [.agg #[ji x194.1.1, ji x194.1.2.1], ji x194.2.1] (.agg #[ji x197.1, ji x197.2.1]) w198))
  fun (x199 : TF) =>
 flend bel w169 (fun w201 => F170 22 [.agg #[ji x194.1.1, ji x194.1.2.1], ji x194.2.1] (.agg #[ji x199.1, ji x199.2.1]) w201 ∧ F170 19 [.agg #[ji x188.1, ji x188.2.1], .agg #[ji x189.1, ji x189.2.1]] (.tuple #[.agg #[ji x194.1.1, ji x194.1.2.1], ji x194.2.1]) w201 ∧ F170 17 [ji 1] (.agg #[ji x188.1, ji x188.2.1]) w201 ∧ F170 16 [ji 0] (.agg #[ji x183.1, ji x183.2.1]) w201 ∧ True) fun w200 =>
 rdp prog (jI 32 x174 k_) oA fun (x202 : Addr) =>
 wu prog (jS 60 x202 (.agg #[ji x183.1, ji x183.2.1])) w200 fun w203 =>
 rdp prog (jI 32 x178 x6) oA fun (x204 : Addr) =>
 wu prog (jS 60 x204 (.agg #[ji x199.1, ji x199.2.1])) w203 fun w205 =>
 nn t_ fun (a206 : Addr) =>
 rd prog (jL 22 (Addr.add a206 3)) oS w205 fun (x207 : Hd3) =>
 rdp prog (jI 22 x207 row_) oA fun (x208 : Addr) =>
 wu prog (jS 3 x208 (ji k_)) w205 fun w209 =>
 nn t_ fun (a210 : Addr) =>
 rd prog (jL 95 (Addr.add a210 4)) oS w209 fun (x211 : Hd3) =>
 loop (T := (Int × Unit)) (0, ()) w209 fun (g212 : Int × Unit → World → Prop) (s213 : Int × Unit) w214 => ∀ _ : NV,
 br (decide (s213.1 < ((x211.2.1 : Nat) : Int))) (join (T := Unit) (fun (_s216 : Unit) w217 => ∀ _ : NV,
 z (IntKind.wrap .i64 (s213.1 + 1)) fun (z218 : Int) =>
 g212 (z218, ()) w217)
  fun (K215 : Unit → World → Prop) =>
 rdp prog (jI 95 x211 s213.1) oA fun (x219 : Addr) =>
 rd prog (jL 32 x219) oS w214 fun (x220 : Hd3) =>
 rdp prog (jI 32 x220 k_) oA fun (x221 : Addr) =>
 rd prog (jL 60 x221) aF w214 fun (x222 : TF) =>
 wr prog (Instr.alloc 60 true (.tuple #[])) oA w214 fun (x223 : Addr) w224 =>
 wu prog (jS 60 x223 (.agg #[ji x222.1, ji x222.2.1])) w224 fun w225 =>
 br (s213.1 == row_) (K215 (()) w225)
 (rd prog (jL 2 x223) oI w225 fun (x226 : Int) =>
 br (x226 == 0) (K215 (()) w225)
 (callP prog Pn 66 [ji 0] (.one aF) w225 fun (x227 : TF) w228 =>
 rdp prog (jI 32 x220 k_) oA fun (x229 : Addr) =>
 wu prog (jS 60 x229 (.agg #[ji x227.1, ji x227.2.1])) w228 fun w230 =>
 nn t_ fun (a231 : Addr) =>
 rd prog (jL 95 (Addr.add a231 4)) oS w230 fun (x232 : Hd3) =>
 rdp prog (jI 95 x232 row_) oA fun (x233 : Addr) =>
 rd prog (jL 32 x233) oS w230 fun (x234 : Hd3) =>
 loop (T := (Int × Unit)) (0, ()) w230 fun (g235 : Int × Unit → World → Prop) (s236 : Int × Unit) w237 => ∀ _ : NV,
 br (decide (s236.1 < ((x234.2.1 : Nat) : Int))) (join (T := Unit) (fun (_s239 : Unit) w240 => ∀ _ : NV,
 z (IntKind.wrap .i64 (s236.1 + 1)) fun (z241 : Int) =>
 g235 (z241, ()) w240)
  fun (K238 : Unit → World → Prop) =>
 rdp prog (jI 32 x234 s236.1) oA fun (x242 : Addr) =>
 rd prog (jL 60 x242) aF w237 fun (x243 : TF) =>
 wr prog (Instr.alloc 60 true (.tuple #[])) oA w237 fun (x244 : Addr) w245 =>
 wu prog (jS 60 x244 (.agg #[ji x243.1, ji x243.2.1])) w245 fun w246 =>
 rd prog (jL 2 x244) oI w246 fun (x247 : Int) =>
 br (x247 != 0) (drw w246 fun w248 => flEx fun F249 =>
 rdp prog (jI 32 x220 s236.1) oA fun (x250 : Addr) =>
 rd prog (jL 60 x250) aF w248 fun (x251 : TF) =>
 rd prog (jL 60 x223) aF w248 fun (x252 : TF) =>
 rd prog (jL 60 x244) aF w248 fun (x253 : TF) =>
 flc bel w248 (fun _w255 => True) (fun w254 =>
   callP prog Pn 90 [.agg #[ji x252.1, ji x252.2.1], .agg #[ji x253.1, ji x253.2.1]] (.one aF) w254 fun (x256 : TF) w257 =>
 (bel w254 w257 ∧ F249 8 [.agg #[ji x252.1, ji x252.2.1], .agg #[ji x253.1, ji x253.2.1]] (.agg #[ji x256.1, ji x256.2.1]) w257))
  fun (x258 : TF) =>
 flend bel w248 (fun w260 => F249 8 [.agg #[ji x252.1, ji x252.2.1], .agg #[ji x253.1, ji x253.2.1]] (.agg #[ji x258.1, ji x258.2.1]) w260 ∧ True) fun w259 =>
 callP prog Pn 89 [.agg #[ji x251.1, ji x251.2.1], .agg #[ji x258.1, ji x258.2.1]] (.one aF) w259 fun (x261 : TF) w262 =>
 rdp prog (jI 32 x220 s236.1) oA fun (x263 : Addr) =>
 wu prog (jS 60 x263 (.agg #[ji x261.1, ji x261.2.1])) w262 fun w264 =>
 K238 (()) w264)
 (K238 (()) w246))
 (K215 (()) w237))))
 (R (.tuple #[]) w214)))
def H65 : Hints := ⟨[(2, 0, [(78, (.one (.int .i64)))]), (1, 1, []), (2, 2, [(137, (.one (.int .i64)))]), (1, 3, []), (2, 4, [(200, (.one (.int .i64)))]), (2, 6, [(229, (.one (.int .i64)))]), (1, 7, []), (1, 5, [])], [(2, 24), (3, 20), (9, 16), (16, 16), (18, 23), (30, 9)], [], []⟩
theorem S65_calls (t_ : OA) (row_ k_ to_0 to_1 : Int) (w0 : World) (Pn : List PanicEntry → World → Prop) (R : KR) (h : S65 t_ row_ k_ to_0 to_1 w0 Pn R) : Calls prog 65 #[.pointer t_, ji row_, ji k_, .agg #[ji to_0, ji to_1]] w0 (retP R (some Pn)) :=
 vcFnP_sound (H := H65) follows_ Tryz.func65 (Eq.mpr (by kernel_rfl) h)
def S63 (s_a : OA) (s_n s_c : Nat) (w0 : World) (R : KR) : Prop :=
 rd prog (cmpS .eql 32 (.tmp 3) (.const (.slice none 0 0)) (.slice s_a s_n s_c) (.slice none 0 0)) oB w0 fun (x1 : Bool) =>
 br x1 (R (.slice none 0 0) w0)
 (wr prog (Instr.buildSlice 32 0 #[]) oS w0 fun (x2 : Hd3) w3 =>
 wr prog (Builtin.append_ #[32, 32] 32 #[.slice x2.1 x2.2.1 x2.2.2, .slice s_a s_n s_c]) oS w3 fun (x4 : Hd3) w5 =>
 R (jw x4) w5)
def H63 : Hints := ⟨[], [], [], []⟩
theorem S63_calls (s_a : OA) (s_n s_c : Nat) (w0 : World) (R : KR) (h : S63 s_a s_n s_c w0 R) : Calls prog 63 #[.slice s_a s_n s_c] w0 (ret R) :=
 vcFn_sound (H := H63) follows_ Tryz.func63 (Eq.mpr (by kernel_rfl) h)
end Go.Proofs
