import Derived.KernelRfl
import Derived.Test.YtajpdnphamomjaaGreatXS
import Derived.Test.YtajpdnphamomjaaGreatPackIntegralDecides4

/- The conditions of functions, printed by our tool; each is checked against the code by the kernel. -/



namespace Go.Proofs
open Go Go.V Go.RowKit
open Tryz (prog)
set_option maxRecDepth 100000
def S41 (s_0a : OA) (s_0n s_0c : Nat) (s_1a : OA) (s_1n s_1c : Nat) (s_2a : OA) (s_2n s_2c : Nat) (lower_a : OA) (lower_n lower_c : Nat) (upper_a : OA) (upper_n upper_c : Nat) (pivots_ : Int) (w0 : World) (R : KR) : Prop :=
 wr prog (Instr.box 29 (.agg #[.slice s_0a s_0n s_0c, .slice s_1a s_1n s_1c, .slice s_2a s_2n s_2c])) oA w0 fun (x1 : Addr) w2 =>
 wr prog (Instr.alloc 32 true (.tuple #[])) oA w2 fun (x3 : Addr) w4 =>
 wr prog (Instr.alloc 32 true (.tuple #[])) oA w4 fun (x5 : Addr) w6 =>
 wr prog (Instr.alloc 36 true (.tuple #[])) oA w6 fun (x7 : Addr) w8 =>
 dfr prog 60 [jp x3, jp x5, jp x7] (fun (wd : World) =>
 rd prog (loadVar 32 x3) oS wd fun (x9 : Hd3) =>
 rd prog (loadVar 32 x5) oS wd fun (x10 : Hd3) =>
 rd prog (loadVar 36 x7) oI wd fun (x11 : Int) =>
 R (.tuple #[jw x9, jw x10, ji x11]) wd)
  fun (Pn : List PanicEntry → World → Prop) =>
 rd prog (jL 26 x1) oS w8 fun (x12 : Hd3) =>
 rd prog (jL 29 x1) aS w8 fun (x13 : TS) =>
 callP prog Pn 61 [.agg #[jw x13.1, jw x13.2.1, jw x13.2.2.1], .slice lower_a lower_n lower_c, .slice upper_a upper_n upper_c] (.one (.one .ptr)) w8 fun (x14 : Option Addr) w15 =>
 loop (T := Unit) (()) w15 fun (g16 : Unit → World → Prop) (_s17 : Unit) w18 => ∀ _ : NV,
 join (T := Unit) (fun (_s20 : Unit) w21 => ∀ _ : NV,
 nn x14 fun (a22 : Addr) =>
 rd prog (jL 3 (Addr.add a22 5)) oI w21 fun (x23 : Int) =>
 z (IntKind.wrap .i64 (x23 + 1)) fun (z24 : Int) =>
 nn x14 fun (a25 : Addr) =>
 wu prog (jS 3 (Addr.add a25 5) (ji z24)) w21 fun w26 =>
 g16 (()) w26)
  fun (K19 : Unit → World → Prop) =>
 nn x14 fun (a27 : Addr) =>
 rd prog (jL 3 (Addr.add a27 5)) oI w18 fun (x28 : Int) =>
 br (decide (x28 > pivots_)) (wu prog (jS 32 x3 (.slice none 0 0)) w18 fun w29 =>
 wu prog (jS 32 x5 (.slice none 0 0)) w29 fun w30 =>
 wu prog (jS 36 x7 (ji 8)) w30 fun w31 =>
 rd prog (loadVar 32 x3) oS w31 fun (x32 : Hd3) =>
 rd prog (loadVar 32 x5) oS w31 fun (x33 : Hd3) =>
 rd prog (loadVar 36 x7) oI w31 fun (x34 : Int) =>
 R (.tuple #[jw x32, jw x33, ji x34]) w31)
 (callP prog Pn 62 [.pointer x14] (.many [oI, oB]) w18 fun (x35 : Int × Bool × Unit) w36 =>
 br (decide (x35.1 < 0)) (nn x14 fun (a37 : Addr) =>
 rd prog (jL 32 (Addr.add a37 2)) oS w36 fun (x38 : Hd3) =>
 rdp prog (Instr.sliceAt 32 (jw x38) none (some (ji ((x12.2.1 : Nat) : Int))) none) oS fun (x39 : Hd3) =>
 callP prog Pn 63 [jw x39] (.one oS) w36 fun (x40 : Hd3) w41 =>
 wu prog (jS 32 x3 (jw x40)) w41 fun w42 =>
 wu prog (jS 32 x5 (.slice none 0 0)) w42 fun w43 =>
 wu prog (jS 36 x7 (ji 0)) w43 fun w44 =>
 rd prog (loadVar 32 x3) oS w44 fun (x45 : Hd3) =>
 rd prog (loadVar 32 x5) oS w44 fun (x46 : Hd3) =>
 rd prog (loadVar 36 x7) oI w44 fun (x47 : Int) =>
 R (.tuple #[jw x45, jw x46, ji x47]) w44)
 (nn x14 fun (a48 : Addr) =>
 rd prog (jL 22 (Addr.add a48 3)) oS w36 fun (x49 : Hd3) =>
 rdp prog (jI 22 x49 x35.1) oA fun (x50 : Addr) =>
 rd prog (jL 3 x50) oI w36 fun (x51 : Int) =>
 callP prog Pn 64 [.pointer x14, ji x35.1, .bool x35.2.1] (.one oI) w36 fun (x52 : Int) w53 =>
 br (decide (x52 ≥ 0)) (nn x14 fun (a54 : Addr) =>
 rd prog (jL 32 (Addr.add a54 1)) oS w53 fun (x55 : Hd3) =>
 rdp prog (jI 32 x55 x51) oA fun (x56 : Addr) =>
 rd prog (jL 60 x56) aF w53 fun (x57 : TF) =>
 wr prog (Instr.alloc 60 true (.tuple #[])) oA w53 fun (x58 : Addr) w59 =>
 wu prog (jS 60 x58 (.agg #[ji x57.1, ji x57.2.1])) w59 fun w60 =>
 join (T := Unit) (fun (_s62 : Unit) w63 => ∀ _ : NV,
 rd prog (jL 60 x58) aF w63 fun (x64 : TF) =>
 callP prog Pn 65 [.pointer x14, ji x35.1, ji x52, .agg #[ji x64.1, ji x64.2.1]] (.many []) w63 fun (_x65 : Unit) w66 =>
 K19 (()) w66)
  fun (K61 : Unit → World → Prop) =>
 br x35.2.1 (nn x14 fun (a67 : Addr) =>
 rd prog (jL 32 a67) oS w60 fun (x68 : Hd3) =>
 rdp prog (jI 32 x68 x51) oA fun (x69 : Addr) =>
 rd prog (jL 60 x69) aF w60 fun (x70 : TF) =>
 wu prog (jS 60 x58 (.agg #[ji x70.1, ji x70.2.1])) w60 fun w71 =>
 K61 (()) w71)
 (K61 (()) w60))
 (rd prog (jL 27 (Addr.add x1 1)) oS w53 fun (x72 : Hd3) =>
 loop (T := (Int × Unit)) (0, ()) w53 fun (g73 : Int × Unit → World → Prop) (s74 : Int × Unit) w75 => ∀ _ : NV,
 br (decide (s74.1 < ((x72.2.1 : Nat) : Int))) (join (T := Unit) (fun (_s77 : Unit) w78 => ∀ _ : NV,
 z (IntKind.wrap .i64 (s74.1 + 1)) fun (z79 : Int) =>
 g73 (z79, ()) w78)
  fun (K76 : Unit → World → Prop) =>
 z (IntKind.wrap .i64 (((x12.2.1 : Nat) : Int) + s74.1)) fun (z80 : Int) =>
 br (x51 == z80) (drw w75 fun w81 => flEx fun F82 =>
 rd prog (jL 32 x5) oS w81 fun (x83 : Hd3) =>
 flc bel w81 (fun _w85 => True) (fun w84 =>
   callP prog Pn 66 [ji 1] (.one aF) w84 fun (x86 : TF) w87 =>
 (bel w84 w87 ∧ F82 1 [ji 1] (.agg #[ji x86.1, ji x86.2.1]) w87))
  fun (x88 : TF) =>
 flc bel w81 (fun w90 => F82 1 [ji 1] (.agg #[ji x88.1, ji x88.2.1]) w90 ∧ True) (fun w89 =>
   wr prog (Instr.buildSlice 32 1 #[(0, (.agg #[ji x88.1, ji x88.2.1]))]) oS w89 fun (x91 : Hd3) w92 =>
 (bel w89 w92 ∧ F82 2 [.agg #[ji x88.1, ji x88.2.1]] (jw x91) w92))
  fun (x93 : Hd3) =>
 flend bel w81 (fun w95 => F82 2 [.agg #[ji x88.1, ji x88.2.1]] (jw x93) w95 ∧ F82 1 [ji 1] (.agg #[ji x88.1, ji x88.2.1]) w95 ∧ True) fun w94 =>
 wr prog (Builtin.append_ #[32, 32] 32 #[.slice x83.1 x83.2.1 x83.2.2, .slice x93.1 x93.2.1 x93.2.2]) oS w94 fun (x96 : Hd3) w97 =>
 wu prog (jS 32 x5 (jw x96)) w97 fun w98 =>
 K76 (()) w98)
 (drw w75 fun w99 => flEx fun F100 =>
 rd prog (jL 32 x5) oS w99 fun (x101 : Hd3) =>
 flc bel w99 (fun _w103 => True) (fun w102 =>
   callP prog Pn 66 [ji 0] (.one aF) w102 fun (x104 : TF) w105 =>
 (bel w102 w105 ∧ F100 1 [ji 0] (.agg #[ji x104.1, ji x104.2.1]) w105))
  fun (x106 : TF) =>
 nn x14 fun (a107 : Addr) =>
 rd prog (jL 95 (Addr.add a107 4)) oS w99 fun (x108 : Hd3) =>
 rdp prog (jI 95 x108 x35.1) oA fun (x109 : Addr) =>
 rd prog (jL 32 x109) oS w99 fun (x110 : Hd3) =>
 z (IntKind.wrap .i64 (((x12.2.1 : Nat) : Int) + s74.1)) fun (z111 : Int) =>
 rdp prog (jI 32 x110 z111) oA fun (x112 : Addr) =>
 rd prog (jL 60 x112) aF w99 fun (x113 : TF) =>
 flc bel w99 (fun w115 => F100 1 [ji 0] (.agg #[ji x106.1, ji x106.2.1]) w115 ∧ True) (fun w114 =>
   callP prog Pn 67 [.agg #[ji x106.1, ji x106.2.1], .agg #[ji x113.1, ji x113.2.1]] (.one aF) w114 fun (x116 : TF) w117 =>
 (bel w114 w117 ∧ F100 14 [.agg #[ji x106.1, ji x106.2.1], .agg #[ji x113.1, ji x113.2.1]] (.agg #[ji x116.1, ji x116.2.1]) w117))
  fun (x118 : TF) =>
 flc bel w99 (fun w120 => F100 14 [.agg #[ji x106.1, ji x106.2.1], .agg #[ji x113.1, ji x113.2.1]] (.agg #[ji x118.1, ji x118.2.1]) w120 ∧ F100 1 [ji 0] (.agg #[ji x106.1, ji x106.2.1]) w120 ∧ True) (fun w119 =>
   wr prog (Instr.buildSlice 32 1 #[(0, (.agg #[ji x118.1, ji x118.2.1]))]) oS w119 fun (x121 : Hd3) w122 =>
 (bel w119 w122 ∧ F100 15 [.agg #[ji x118.1, ji x118.2.1]] (jw x121) w122))
  fun (x123 : Hd3) =>
 flend bel w99 (fun w125 => F100 15 [.agg #[ji x118.1, ji x118.2.1]] (jw x123) w125 ∧ F100 14 [.agg #[ji x106.1, ji x106.2.1], .agg #[ji x113.1, ji x113.2.1]] (.agg #[ji x118.1, ji x118.2.1]) w125 ∧ F100 1 [ji 0] (.agg #[ji x106.1, ji x106.2.1]) w125 ∧ True) fun w124 =>
 wr prog (Builtin.append_ #[32, 32] 32 #[.slice x101.1 x101.2.1 x101.2.2, .slice x123.1 x123.2.1 x123.2.2]) oS w124 fun (x126 : Hd3) w127 =>
 wu prog (jS 32 x5 (jw x126)) w127 fun w128 =>
 K76 (()) w128))
 (rd prog (jL 29 x1) aS w75 fun (x129 : TS) =>
 rd prog (jL 32 x5) oS w75 fun (x130 : Hd3) =>
 callP prog Pn 56 [.agg #[jw x129.1, jw x129.2.1, jw x129.2.2.1], .slice lower_a lower_n lower_c, .slice upper_a upper_n upper_c, jw x130] (.one oB) w75 fun (x131 : Bool) w132 =>
 br (!x131) (wu prog (jS 32 x3 (.slice none 0 0)) w132 fun w133 =>
 wu prog (jS 32 x5 (.slice none 0 0)) w133 fun w134 =>
 wu prog (jS 36 x7 (ji 8)) w134 fun w135 =>
 rd prog (loadVar 32 x3) oS w135 fun (x136 : Hd3) =>
 rd prog (loadVar 32 x5) oS w135 fun (x137 : Hd3) =>
 rd prog (loadVar 36 x7) oI w135 fun (x138 : Int) =>
 R (.tuple #[jw x136, jw x137, ji x138]) w135)
 (drw w132 fun w139 => flExE fun E140 F141 =>
 rdE prog E140 (jL 32 x5) oS w139 fun (x142 : Hd3) =>
 flc E140 w139 (fun _w144 => True) (fun w143 =>
   wu prog (jS 32 x3 (.slice none 0 0)) w143 fun w145 =>
 (E140 w143 w145 ∧ F141 1 [] undef w145))
  fun (_x146 : Unit) =>
 flend E140 w139 (fun w148 => F141 1 [] (.tuple #[]) w148 ∧ True) fun w147 =>
 wu prog (jS 32 x5 (jw x142)) w147 fun w149 =>
 wu prog (jS 36 x7 (ji 0)) w149 fun w150 =>
 rd prog (loadVar 32 x3) oS w150 fun (x151 : Hd3) =>
 rd prog (loadVar 32 x5) oS w150 fun (x152 : Hd3) =>
 rd prog (loadVar 36 x7) oI w150 fun (x153 : Int) =>
 R (.tuple #[jw x151, jw x152, ji x153]) w150)))))
def H41 : Hints := ⟨[(2, 0, []), (0, 74, []), (2, 2, [(90, (.one (.int .i64)))]), (1, 3, []), (1, 1, [])], [(22, 3), (20, 16), (26, 2)], [], [26]⟩
theorem S41_calls (s_0a : OA) (s_0n s_0c : Nat) (s_1a : OA) (s_1n s_1c : Nat) (s_2a : OA) (s_2n s_2c : Nat) (lower_a : OA) (lower_n lower_c : Nat) (upper_a : OA) (upper_n upper_c : Nat) (pivots_ : Int) (w0 : World) (R : KR) (h : S41 s_0a s_0n s_0c s_1a s_1n s_1c s_2a s_2n s_2c lower_a lower_n lower_c upper_a upper_n upper_c pivots_ w0 R) : Calls prog 41 #[.agg #[.slice s_0a s_0n s_0c, .slice s_1a s_1n s_1c, .slice s_2a s_2n s_2c], .slice lower_a lower_n lower_c, .slice upper_a upper_n upper_c, ji pivots_] w0 (ret R) :=
 vcFnD_sound (H := H41) follows_ Tryz.func41 (Eq.mpr (by kernel_rfl) h)
end Go.Proofs

/- Relax: the walk. -/




namespace Go.Proofs.YtajpdnphamomjaaGreat
open Go.RowKit Go.Q Go.Q.Num Go.V

theorem fits_neg {x : Rat} (h : Fits x) : Fits (0 + -x) := by
  have e : (0 : Rat) + -x = -x := by grind
  rw [e]
  obtain ⟨h1, h2, h3⟩ := h
  exact ⟨by rw [Rat.neg_num]; omega, by rw [Rat.neg_num]; omega, by rw [Rat.neg_den]; exact h3⟩
theorem own_mono {w : World} {B B' : Nat} {e : TypeId} {sz : Nat} {a : Option Addr} {n c : Nat} {xs : List Value} (O : Own w B e sz a n c xs) (h : B' ≤ B) : Own w B' e sz a n c xs := by
  refine ⟨O.1, ?_⟩
  rcases O.2 with h2 | ⟨g, cap, cur, h1, h2, h3⟩
  · exact .inl h2
  · exact .inr ⟨g, cap, cur, h1, by omega, h3⟩
theorem cloneQ {ad : Addr} {n c : Nat} {L : List Rat} {w : World} (S : Sl w (some ad) n c 2 (L.flatMap encQ)) (h0 : 1 ≤ n) (hn : n ≤ 100000) :
    call Tryz.prog 63 [.slice (some ad) n c] (.one (.one .slice)) w (fun (x : Hdr) w' => OwnQ w' w.heap.size x L ∧ bel w w') := by
  refine call_of (S63_calls (some ad) n c w _ ?_)
  unfold S63
  refine rd_nil tyFracs ?_
  refine br_f rfl ?_
  refine wr_lit0 tyFracs fun a1 w3 O3 h3 ha hs => ?_
  have S3 := S.up h3
  refine wr_appX (B := w.heap.size) tyFracs (O3 _ (Nat.le_refl _)) S3 h3.size rfl (by omega) (by
    unfold plainV; rw [List.all_eq_true]; intro x hx
    obtain ⟨r, _, hr⟩ := List.mem_flatMap.1 hx
    rcases List.mem_cons.1 hr with rfl | hr
    · rfl
    · rcases List.mem_cons.1 hr with rfl | hr
      · rfl
      · cases hr) (by omega) (by unfold maxLen; omega) (by omega) fun a' c' w' O' hg _ _ => ?_
  refine ⟨(a', 0 + n, c'), rfl, ?_, h3.grown hg fun k e => ?_⟩
  · rw [List.nil_append] at O'; exact O'
  · have e' : a1.block = k := Option.some.inj e
    omega

theorem flat_take (L : List Rat) : ∀ n, (L.take n).flatMap encQ = (L.flatMap encQ).take (n * 2) := by
  induction L with
  | nil => intro n; simp
  | cons x L ih =>
    intro n
    cases n with
    | zero => simp
    | succ n =>
      rw [List.take_succ_cons, List.flatMap_cons, List.flatMap_cons, ih n, show (n + 1) * 2 = n * 2 + 1 + 1 by omega]
      rfl
theorem sl_take {w : World} {a : Option Addr} {n m c : Nat} {L : List Rat} (S : Sl w a n c 2 (L.flatMap encQ)) (hm : m ≤ n) (h1 : 1 ≤ m) : Sl w a m c 2 ((L.take m).flatMap encQ) := by
  have hl := slQ_len S
  refine ⟨by rw [flat_len encQ_len, List.length_take]; omega, by have := S.cap; omega, S.most, fun q => by have := (S.nil' q).1; omega, fun j u hj => ?_⟩
  rw [flat_take, List.getElem?_take] at hj
  split at hj
  · exact S.at' j u hj
  · cases hj
def mults (n M : Nat) (Tb : Tb) (row : Nat) : List Rat := (List.range M).map fun i => if Tb.b row = n + i then 1 else 0 + -(Tb.a row (n + i))
def goal (Tb : Tb) (row : Nat) (below : Bool) : Rat := if below = true then Tb.lo (Tb.b row) else Tb.hi (Tb.b row)
def Stp (N M : Nat) (Tb : Tb) (row : Nat) (below : Bool) (k : Nat) : Prop := Tb.wr M = some (row, below) ∧ k < N ∧ Tb.can row below k ∧ ∀ k', k' < k → ¬ Tb.can row below k'
inductive Rch (N M : Nat) (T0 : Tb) : Nat → Tb → Prop where
  | zero : Rch N M T0 0 T0
  | step {c : Nat} {Tb : Tb} {row k : Nat} {below : Bool} : Rch N M T0 c Tb → TbOk N M Tb → Stp N M Tb row below k → Rch N M T0 (c + 1) (Tb.move row k (goal Tb row below))
section
variable (up : List Int) (T : List (List Int)) (rt ls hs : List Int)
def RlxC (pv : Nat) : Prop := ¬ BgFit up.length T ls ∨ ∃ c Tb, Rch (up.length + T.length) T.length (tb0 up T rt ls hs T.length) c Tb ∧ TbOk (up.length + T.length) T.length Tb ∧
  (pv < c ∨ (∃ row below k, Stp (up.length + T.length) T.length Tb row below k ∧ ¬ MvFit (up.length + T.length) T.length Tb row k (goal Tb row below)) ∨
    (∃ row below, Tb.wr T.length = some (row, below) ∧ (∀ k, k < up.length + T.length → ¬ Tb.can row below k) ∧ ¬ BndP up T rt ls hs ((mults up.length T.length Tb row).map prQ)))
def RlxR (pv : Nat) (w : World) (x : Hdr × Hdr × Int × Unit) (w' : World) : Prop :=
  (x.2.2.1 = 0 ∧ x.2.1 = (none, 0, 0) ∧ ∃ c Tb, Rch (up.length + T.length) T.length (tb0 up T rt ls hs T.length) c Tb ∧ TbOk (up.length + T.length) T.length Tb ∧ Tb.wr T.length = none ∧ OwnQ w' w.heap.size x.1 (Tb.val.take up.length)) ∨
  (x.2.2.1 = 0 ∧ x.1 = (none, 0, 0) ∧ 1 ≤ T.length ∧ ∃ L, L.length = T.length ∧ OwnQ w' w.heap.size x.2.1 L ∧ (∀ q ∈ L, Fits q) ∧ BndP up T rt ls hs (L.map prQ)) ∨
  (x.2.2.1 = 8 ∧ x.1 = (none, 0, 0) ∧ x.2.1 = (none, 0, 0) ∧ RlxC up T rt ls hs pv)
end
theorem TabAt.xo {w w' : World} {t : Addr} {H : TH} {p : Int} {T : Tb} {b : Nat} (A : TabAt w t H p T) (h : Xb (fun k => k = b) w w') (hb : b < t.block) : TabAt w' t H p T := by
  have hg : w.grownBy w' (some b) := h.grown fun k q _ => by rw [q]
  exact ⟨A.box.grown hg (by intro e; injection e; omega), A.fs.old hg (by omega), own_box A.bs hg (by omega), own_box A.rs hg (by omega)⟩
theorem TabAt.setP {w : World} {t : Addr} {H : TH} {p q : Int} {T : Tb} (A : TabAt w t H p T) {K : World → Prop} (hk : ∀ w', TabAt w' t H q T → w.grownBy w' (some t.block) → K w') :
    wu Tryz.prog (Instr.storeAt 3 (.pointer (some (t.add 5))) (.int .i64 q)) w K :=
  wu_boxi A.box (by kernel_rfl) (by show 5 < 6; omega) rfl fun w' X hg _ => hk w' ⟨X, A.fs.old hg (Nat.lt_succ_self _), own_box A.bs hg (Nat.lt_succ_self _), own_box A.rs hg (Nat.lt_succ_self _)⟩ hg
end Go.Proofs.YtajpdnphamomjaaGreat

/- Relax: what it says. -/

namespace Go.Proofs.YtajpdnphamomjaaGreat
open Go.RowKit Go.Q Go.Q.Num Go.V

abbrev rRX : RS := .many [.one .slice, .one .slice, .one (.int .i64)]
set_option maxHeartbeats 6400000 in
theorem relaxF (u r b lo hi : Hdr) (up : List Int) (T : List (List Int)) (rt ls hs : List Int) (pv : Nat) (w : World) (HS : Sys w u r b up T rt) (hok : sysE up T rt = 0) (HL : Sl w lo.1 lo.2.1 lo.2.2 1 (ints .i64 ls)) (HH : Sl w hi.1 hi.2.1 hi.2.2 1 (ints .i64 hs))
    (hll : ls.length = up.length) (hhl : hs.length = up.length) (hlb : Bg9 ls) (hhb : Bg9 hs) (hn1 : 1 ≤ up.length) (hpv : pv ≤ 1000000) :
    call Tryz.prog 41 [sysv u r b, .slice lo.1 lo.2.1 lo.2.2, .slice hi.1 hi.2.1 hi.2.2, .int .i64 (pv : Int)] rRX w (fun (x : Hdr × Hdr × Int × Unit) w' => RlxR up T rt ls hs pv w x w' ∧ bel w w') := by
  refine call_of (S41_calls u.1 u.2.1 u.2.2 r.1 r.2.1 r.2.2 b.1 b.2.1 b.2.2 lo.1 lo.2.1 lo.2.2 hi.1 hi.2.1 hi.2.2 (pv : Int) w _ ?_)
  obtain ⟨hul, hTl, hR, hA⟩ := sysE_ok hok
  have hur := HS.u.int
  have hTr := HS.r.len
  have hm11 : ∀ {n : Nat}, n ≤ 1000000 → n ≤ maxLen := fun h => by unfold maxLen; omega
  unfold S41
  refine wr_box fun x1 w2 X1 h2 hx1 hs1 => ?_
  replace X1 : Box w2 x1 (sysc u r b) := X1
  refine wr_alloc (z := .slice none 0 0) (by kernel_rfl) fun x3 w4 X3 h4 hx3 hs3 => ?_
  refine wr_alloc (z := .slice none 0 0) (by kernel_rfl) fun x5 w6 X5 h6 hx5 hs5 => ?_
  refine wr_alloc (z := .int .i64 0) (by kernel_rfl) fun x7 w8 X7 h8 hx7 hs7 => ?_
  replace X1 : Box w8 x1 (sysc u r b) := ((X1.up h4).up h6).up h8
  replace X3 : Box w8 x3 [.slice none 0 0] := (X3.up h6).up h8
  replace X5 : Box w8 x5 [.slice none 0 0] := X5.up h8
  replace X7 : Box w8 x7 [.int .i64 0] := X7
  have b8 : bel w w8 := ((h2.trans h4).trans h6).trans h8
  have s2 := h2.size
  have m1 : w.heap.size ≤ x1.block := by omega
  have m3 : x1.block < x3.block := by omega
  have m5 : x3.block < x5.block := by omega
  have m7 : x5.block < x7.block := by omega
  have m8 : x7.block < w8.heap.size := X7.lt
  -- what is returned
  have out : ∀ (w' : World) (v3 v5 : Hdr) (e : Int), Box w' x3 [.slice v3.1 v3.2.1 v3.2.2] → Box w' x5 [.slice v5.1 v5.2.1 v5.2.2] → Box w' x7 [.int .i64 e] → RlxR up T rt ls hs pv w (v3, v5, e, ()) w' → bel w w' →
      rd Tryz.prog (loadVar 32 x3) (.one .slice) w' fun (y3 : Hdr) => rd Tryz.prog (loadVar 32 x5) (.one .slice) w' fun (y5 : Hdr) => rd Tryz.prog (loadVar 36 x7) (.one (.int .i64)) w' fun (y7 : Int) =>
        ∃ x : Hdr × Hdr × Int × Unit, (Value.tuple #[.slice y3.1 y3.2.1 y3.2.2, .slice y5.1 y5.2.1 y5.2.2, .int .i64 y7]) = rRX.val x ∧ RlxR up T rt ls hs pv w x w' ∧ bel w w' := by
    intro w' v3 v5 e Y3 Y5 Y7 hr hb
    refine rd_boxV1 (by kernel_rfl) Y3 rfl rfl ?_
    refine rd_boxV1 (by kernel_rfl) Y5 rfl rfl ?_
    refine rd_boxV1 (by kernel_rfl) Y7 rfl rfl ?_
    exact ⟨(v3, v5, e, ()), rfl, hr, hb⟩
  refine ⟨fun ch w' => ch = [{ v := failV, recovered := false }] ∧ RlxC up T rt ls hs pv ∧ (∃ v3 v5 v7, Box w' x3 [v3] ∧ Box w' x5 [v5] ∧ Box w' x7 [v7]) ∧ bel w w', fun w' => rlxIdle _ _ _ w', ?_, ?_⟩
  · rintro ch w' ⟨rfl, hC, ⟨v3, v5, v7, Y3, Y5, Y7⟩, hb⟩
    refine rlxCatch x3 x5 x7 v3 v5 v7 w' Y3 Y5 Y7 (by omega) (by omega) (by omega) fun w'' Z3 Z5 Z7 hX => ?_
    exact out w'' (none, 0, 0) (none, 0, 0) 8 Z3 Z5 Z7 (.inr (.inr ⟨rfl, rfl, rfl, hC⟩)) (Xb.bel hb hX (by rintro k (q | q | q) <;> omega))
  generalize hPn : (fun (ch : List PanicEntry) (w' : World) => ch = [{ v := failV, recovered := false }] ∧ RlxC up T rt ls hs pv ∧ (∃ v3 v5 v7, Box w' x3 [v3] ∧ Box w' x5 [v5] ∧ Box w' x7 [v7]) ∧ bel w w') = Pn
  refine rd_box0 (by kernel_rfl) X1 rfl rfl ?_
  refine rd_boxN X1 (by kernel_rfl) rfl ?_
  refine callP_mono (beginF u r b lo hi up T rt ls hs w8 (HS.up b8) hok (HL.up b8) (HH.up b8) hll hhl hlb hhb) (fun (x14 : Option Addr) w15 q => ?_) (fun ch w' q => by
    rw [← hPn]
    exact ⟨q.2.1, .inl q.1, ⟨_, _, _, X3.up q.2.2, X5.up q.2.2, X7.up q.2.2⟩, b8.trans q.2.2⟩)
  obtain ⟨t, H, rfl, nt, A15, ok15, h15⟩ := q
  generalize hN : up.length + T.length = N at ok15
  generalize hT0 : tb0 up T rt ls hs T.length = T0 at A15 ok15
  refine loop_gh (G := Nat) (fun c _ w' => c ≤ pv + 1 ∧ bel w w' ∧ Box w' x1 (sysc u r b) ∧ Box w' x3 [.slice none 0 0] ∧ Box w' x5 [.slice none 0 0] ∧ Box w' x7 [.int .i64 0] ∧ ∃ Tb, Rch N T.length T0 c Tb ∧ TbOk N T.length Tb ∧ TabAt w' t H (c : Int) Tb) (fun c => pv + 2 - c) 0
    ⟨by omega, b8.trans h15, X1.up h15, X3.up h15, X5.up h15, X7.up h15, T0, .zero, ok15, A15⟩ ?_
  clear X1 X3 X5 X7 A15 ok15 h15 h2 h4 h6 h8
  rintro c _ w18 ⟨hc, b18, X1, X3, X5, X7, Tb, hRch, ok, A⟩ again hag _
  have hM := ok.sM
  have hNs := ok.sN
  have s18 := b18.size
  have t18 := A.box.lt
  -- what other things keep, where a tableau is written
  have keep : ∀ {w1 w2 : World}, bel w w1 → Box w1 x1 (sysc u r b) → Box w1 x3 [.slice none 0 0] → Box w1 x5 [.slice none 0 0] → Box w1 x7 [.int .i64 0] → Xa (t.block + 1) w1 w2 → bel w w2 ∧ Box w2 x1 (sysc u r b) ∧ Box w2 x3 [.slice none 0 0] ∧ Box w2 x5 [.slice none 0 0] ∧ Box w2 x7 [.int .i64 0] :=
    fun hb Y1 Y3 Y5 Y7 hX => ⟨Xb.bel hb hX fun k hk => by omega, xa_box Y1 hX (by omega), xa_box Y3 hX (by omega), xa_box Y5 hX (by omega), xa_box Y7 hX (by omega)⟩
  refine join_mk (fun _ w' => c ≤ pv ∧ bel w w' ∧ Box w' x1 (sysc u r b) ∧ Box w' x3 [.slice none 0 0] ∧ Box w' x5 [.slice none 0 0] ∧ Box w' x7 [.int .i64 0] ∧ ∃ Tb, Rch N T.length T0 (c + 1) Tb ∧ TbOk N T.length Tb ∧ TabAt w' t H (c : Int) Tb) (fun K19 hK => ?_) (fun x w2 q => ?_)
  case refine_2 =>
    obtain ⟨hcp, b2, Y1, Y3, Y5, Y7, Tb', hR', ok', A'⟩ := q
    intro _
    refine nn_mk rfl ?_
    refine rd_box (by kernel_rfl) A'.box rfl rfl ?_
    refine z_eq (m := ((c + 1 : Nat) : Int)) (by rw [IntWalk.i64_in _ ⟨by omega, by omega⟩]; omega) ?_
    refine nn_mk rfl ?_
    refine A'.setP fun w26 A26 hg => ?_
    have nb : ∀ {a : Addr}, a.block < w8.heap.size → some a.block ≠ some t.block := fun h e => by injection e; omega
    exact hag (c + 1) _ _ ⟨by omega, b2.grownAt hg (by omega), Y1.grown hg (nb (by omega)), Y3.grown hg (nb (by omega)), Y5.grown hg (nb (by omega)), Y7.grown hg (nb (by omega)), Tb', hR', ok', A26⟩ (by omega)
  refine nn_mk rfl ?_
  refine rd_box (by kernel_rfl) A.box rfl rfl ?_
  -- giving up
  have give : ∀ {w1 : World}, bel w w1 → Box w1 x3 [.slice none 0 0] → (∃ v, Box w1 x5 [v]) → Box w1 x7 [.int .i64 0] → RlxC up T rt ls hs pv → 
      wu Tryz.prog (Instr.storeAt 32 (.pointer (some x3)) (.slice none 0 0)) w1 fun w2 => wu Tryz.prog (Instr.storeAt 32 (.pointer (some x5)) (.slice none 0 0)) w2 fun w3 => wu Tryz.prog (Instr.storeAt 36 (.pointer (some x7)) (.int .i64 8)) w3 fun w' =>
        rd Tryz.prog (loadVar 32 x3) (.one .slice) w' fun (y3 : Hdr) => rd Tryz.prog (loadVar 32 x5) (.one .slice) w' fun (y5 : Hdr) => rd Tryz.prog (loadVar 36 x7) (.one (.int .i64)) w' fun (y7 : Int) =>
          ∃ x : Hdr × Hdr × Int × Unit, (Value.tuple #[.slice y3.1 y3.2.1 y3.2.2, .slice y5.1 y5.2.1 y5.2.2, .int .i64 y7]) = rRX.val x ∧ RlxR up T rt ls hs pv w x w' ∧ bel w w' := by
    intro w1 hb Y3 hY5 Y7 hC
    obtain ⟨v, Y5⟩ := hY5
    refine wu_box Y3 (by kernel_rfl) (Nat.le_refl 1) rfl fun w2 Z3 g2 _ => ?_
    refine wu_box (Y5.grown g2 (by intro e; injection e; omega)) (by kernel_rfl) (Nat.le_refl 1) rfl fun w3 Z5 g3 _ => ?_
    refine wu_box ((Y7.grown g2 (by intro e; injection e; omega)).grown g3 (by intro e; injection e; omega)) (by kernel_rfl) (Nat.le_refl 1) rfl fun w4 Z7 g4 _ => ?_
    exact out w4 (none, 0, 0) (none, 0, 0) 8 ((Z3.grown g3 (by intro e; injection e; omega)).grown g4 (by intro e; injection e; omega)) (Z5.grown g4 (by intro e; injection e; omega)) Z7 (.inr (.inr ⟨rfl, rfl, rfl, hC⟩))
      (((hb.grownAt g2 (by omega)).grownAt g3 (by omega)).grownAt g4 (by omega))
  have mkC : ∀ {Tb' : Go.Proofs.YtajpdnphamomjaaGreat.Tb}, Rch N T.length T0 c Tb' → TbOk N T.length Tb' → (pv < c ∨ (∃ row below k, Stp N T.length Tb' row below k ∧ ¬ MvFit N T.length Tb' row k (goal Tb' row below)) ∨ (∃ row below, Tb'.wr T.length = some (row, below) ∧ (∀ k, k < N → ¬ Tb'.can row below k) ∧ ¬ BndP up T rt ls hs ((mults up.length T.length Tb' row).map prQ))) → RlxC up T rt ls hs pv := by
    intro Tb' h1 h2 h3
    unfold RlxC
    rw [hN, hT0]
    exact .inr ⟨c, Tb', h1, h2, h3⟩
  refine br_dec (fun hcp => ?_) (fun hcp => ?_)
  · exact give b18 X3 ⟨_, X5⟩ X7 (mkC hRch ok (.inl (by omega)))
  have hcp' : c ≤ pv := by omega
  refine callP_of (call_mono (wrongF A ok) fun x35 w36 q => ?_)
  obtain ⟨rfl, h36⟩ := q
  have A36 := A.up h36
  have b36 := b18.trans h36
  replace X1 := X1.up h36
  replace X3 := X3.up h36
  replace X5 := X5.up h36
  replace X7 := X7.up h36
  have t36 := A36.box.lt
  cases hw : Tb.wr T.length with
  | none =>
    refine br_t rfl ?_
    refine nn_mk rfl ?_
    refine rd_box (by kernel_rfl) A36.box rfl rfl ?_
    have SV := A36.hvl.sl
    have hvn := slQ_len SV
    rw [ok.lv] at hvn
    refine sl_to tyFracs (m := up.length) (by dsimp only; omega) (by have := SV.cap; dsimp only; omega) ?_
    obtain ⟨va, hva⟩ : ∃ a, H.v.1 = some a := by
      cases e : H.v.1 with
      | none => have := (SV.nil' e).1; omega
      | some a => exact ⟨a, rfl⟩
    have ST := sl_take SV (m := up.length) (by omega) hn1
    rw [hva] at ST ⊢
    refine callP_of (call_mono (cloneQ ST hn1 (show up.length ≤ 100000 by omega)) fun (x40 : Hdr) w41 q => ?_)
    obtain ⟨O40, h41⟩ := q
    refine wu_box (X3.up h41) (by kernel_rfl) (Nat.le_refl 1) rfl fun w42 Z3 g2 _ => ?_
    refine wu_box ((X5.up h41).grown g2 (by intro e; injection e; omega)) (by kernel_rfl) (Nat.le_refl 1) rfl fun w43 Z5 g3 _ => ?_
    refine wu_box (((X7.up h41).grown g2 (by intro e; injection e; omega)).grown g3 (by intro e; injection e; omega)) (by kernel_rfl) (Nat.le_refl 1) rfl fun w44 Z7 g4 _ => ?_
    have s36 := b36.size
    refine out w44 x40 (none, 0, 0) 0 ((Z3.grown g3 (by intro e; injection e; omega)).grown g4 (by intro e; injection e; omega)) (Z5.grown g4 (by intro e; injection e; omega)) Z7 (.inl ⟨rfl, rfl, c, Tb, ?_, ?_, hw, ?_⟩)
      ((((b36.trans h41).grownAt g2 (by omega)).grownAt g3 (by omega)).grownAt g4 (by omega))
    · rw [hN, hT0]; exact hRch
    · rw [hN]; exact ok
    · exact own_mono (own_box (own_box (own_box O40 g2 (by omega)) g3 (by omega)) g4 (by omega)) (by omega)
  | some pr =>
    obtain ⟨row, below⟩ := pr
    have hr : row < T.length := wr_lt hw
    refine br_f (decide_eq_false (by show ¬ ((row : Int) < 0); omega)) ?_
    refine A36.bas_at ok (i := wri (some (row, below))) rfl hr ?_
    refine callP_of (call_mono (helperF A36 ok hr below) fun (x52 : Int) w53 q => ?_)
    obtain ⟨hx52, h53⟩ := q
    have A53 := A36.up h53
    have b53 := b36.trans h53
    replace X1 := X1.up h53
    replace X3 := X3.up h53
    replace X5 := X5.up h53
    replace X7 := X7.up h53
    have hbr := ok.b_lt hr
    refine br_dec (fun hge => ?_) (fun hge => ?_)
    · obtain ⟨k, hk, rfl, hcan, hleast⟩ : ∃ k : Nat, k < N ∧ x52 = (k : Int) ∧ Tb.can row below k ∧ ∀ k', k' < k → ¬ Tb.can row below k' := by
        rcases hx52 with ⟨h, _⟩ | h
        · omega
        · exact h
      refine A53.high_at ok rfl hbr ?_
      refine boxF fun x58 w60 h60 X58 n58 => ?_
      have A60 := A53.up h60
      have b60 := b53.trans h60
      replace X58 : Box w60 x58 (encQ (Tb.hi (Tb.b row))) := X58
      have s53 := b53.size
      have t53 := A53.box.lt
      refine join_mk (fun _ w' => Box w' x58 (encQ (goal Tb row below)) ∧ bel w53 w') (fun K61 hK61 => ?_) (fun x w63 q => ?_)
      case refine_2 =>
        obtain ⟨Y58, h63⟩ := q
        intro _
        refine rd_boxN Y58 (by kernel_rfl) rfl ?_
        have A63 := A53.up h63
        have fg : Fits (goal Tb row below) := by
          unfold goal; split
          · exact ok.lo_fit hbr
          · exact ok.hi_fit hbr
        have hst : Stp N T.length Tb row below k := ⟨hw, hk, hcan, hleast⟩
        refine callP_mono (moveF A63 ok hr hk hcan.1 fg) (fun x w66 q => ?_) (fun ch w' q => ?_)
        · obtain ⟨A66, ok66, hX⟩ := q
          obtain ⟨e1, e2, e3, e4, e5⟩ := keep (b53.trans h63) (X1.up h63) (X3.up h63) (X5.up h63) (X7.up h63) hX
          exact hK _ _ ⟨hcp', e1, e2, e3, e4, e5, _, .step hRch ok hst, ok66, A66⟩
        · obtain ⟨hmf, e0, hX⟩ := q
          obtain ⟨e1, e2, e3, e4, e5⟩ := keep (b53.trans h63) (X1.up h63) (X3.up h63) (X5.up h63) (X7.up h63) hX
          rw [← hPn]
          exact ⟨e0, mkC hRch ok (.inr (.inl ⟨row, below, k, hst, hmf⟩)), ⟨_, _, _, e3, e4, e5⟩, e1⟩
      refine br_mk (fun hbl => ?_) (fun hbl => ?_)
      · refine A60.low_at ok rfl hbr ?_
        refine wu_box X58 (by kernel_rfl) (Nat.le_refl 2) rfl fun w71 Y58 hg71 _ => ?_
        refine hK61 _ _ ⟨?_, h60.grownAt hg71 n58⟩
        have hbl' : below = true := hbl
        unfold goal
        rw [if_pos hbl']
        exact Y58
      · refine hK61 _ _ ⟨?_, h60⟩
        have hbl' : below = false := hbl
        unfold goal
        rw [if_neg (by rw [hbl']; exact Bool.false_ne_true)]
        exact X58
    · have hno : ∀ k, k < N → ¬ Tb.can row below k := by
        rcases hx52 with ⟨_, h⟩ | ⟨k, _, h, _⟩
        · exact h
        · omega
      have s53 := b53.size
      have t53 := A53.box.lt
      have hml : (mults up.length T.length Tb row).length = T.length := by simp [mults]
      have hmg : ∀ i, i < T.length → (mults up.length T.length Tb row)[i]? = some (if Tb.b row = up.length + i then 1 else 0 + -(Tb.a row (up.length + i))) := fun i h => by
        unfold mults; rw [List.getElem?_map, List.getElem?_range h]; rfl
      have f0 : Fits (0 : Rat) := fits_of_int (n := 0) ⟨by omega, by omega⟩
      have hmf : ∀ q ∈ mults up.length T.length Tb row, Fits q := by
        intro q hq
        obtain ⟨i, hi, rfl⟩ := List.mem_map.1 hq
        have := List.mem_range.1 hi
        split
        · exact fits_of_int (n := 1) ⟨by omega, by omega⟩
        · exact fits_neg (ok.a_fit hr (by omega))
      refine rd_box (by kernel_rfl) X1 rfl rfl ?_
      refine loop_up T.length (fun i w' => bel w w' ∧ w53.heap.size ≤ w'.heap.size ∧ TabAt w' t H (c : Int) Tb ∧ Box w' x1 (sysc u r b) ∧ Box w' x3 [.slice none 0 0] ∧ Box w' x7 [.int .i64 0] ∧ ∃ mh : Hdr, Box w' x5 [.slice mh.1 mh.2.1 mh.2.2] ∧ OwnQ w' w53.heap.size mh ((mults up.length T.length Tb row).take i))
        ⟨b53, Nat.le_refl _, A53, X1, X3, X7, (none, 0, 0), X5, Own.nil _ _ _ _⟩ ?_
      have ob : ∀ (i : Nat) h k, (H.l :: H.h :: H.v :: H.s)[i]? = some h → blk h.1 = some k → k < w53.heap.size := fun i h k e1 e2 => by
        have hi' := (List.getElem?_eq_some_iff.1 e1).1
        exact ((A53.fs.own i h _ e1 (by rw [List.getElem?_eq_getElem (by rw [← A53.fs.len]; exact hi')])).lt _ e2).2
      have obB : ∀ k, blk H.b.1 = some k → k < w53.heap.size := fun k hk => (A53.bs.lt k hk).2
      have obR : ∀ k, blk H.r.1 = some k → k < w53.heap.size := fun k hk => (A53.rs.lt k hk).2
      clear A53 X1 X3 X5 X7 A36 A
      rintro i w75 hiT' ⟨b75, s75, A75, X1, X3, X7, mh, X5, O75⟩ again2 hag2 _
      refine br_dec (fun hlt => ?_) (fun hge => ?_)
      · have hiM : i < T.length := by dsimp only at hlt; omega
        refine join_mk (fun _ w' => bel w w' ∧ w53.heap.size ≤ w'.heap.size ∧ TabAt w' t H (c : Int) Tb ∧ Box w' x1 (sysc u r b) ∧ Box w' x3 [.slice none 0 0] ∧ Box w' x7 [.int .i64 0] ∧ ∃ mh : Hdr, Box w' x5 [.slice mh.1 mh.2.1 mh.2.2] ∧ OwnQ w' w53.heap.size mh ((mults up.length T.length Tb row).take (i + 1))) (fun K76 hK2 => ?_) (fun x w2 q => ?_)
        case refine_2 =>
          intro _
          refine z_eq (by exact IntWalk.i64_in _ ⟨by dsimp only; omega, by dsimp only; omega⟩) ?_
          exact hag2 _ hiM q
        have hmi := hmg i hiM
        -- one more of them
        have more : ∀ {x : Rat} {ad : Addr} {w' : World}, (if Tb.b row = up.length + i then 1 else 0 + -(Tb.a row (up.length + i))) = x → bel w75 w' → Sl w' (some ad) 1 1 2 (encQ x) →
            wr Tryz.prog (Builtin.append_ #[32, 32] 32 #[.slice mh.1 mh.2.1 mh.2.2, .slice (some ad) 1 1]) (.one .slice) w' fun (y : Hdr) w1 => wu Tryz.prog (Instr.storeAt 32 (.pointer (some x5)) (.slice y.1 y.2.1 y.2.2)) w1 fun w2 => K76 () w2 := by
          intro x ad w' hx hb S
          have O := Own.kept O75 hb
          have hml' := slQ_len O.sl
          rw [List.length_take] at hml'
          have s' := hb.size
          refine wr_appX tyFracs O S (by omega) rfl (by omega) rfl (by omega) (hm11 (by omega)) (by omega) fun a' c' w1 O1 hg _ _ => ?_
          rw [app_enc] at O1
          have lo : ∀ k, blk mh.1 = some k → w53.heap.size ≤ k := fun k hk => (O.lt k hk).1
          have nb : ∀ {a : Addr}, a.block < w53.heap.size → some a.block ≠ blk mh.1 := fun h e => by have := lo _ e.symm; omega
          have A1 : TabAt w1 t H (c : Int) Tb := by
            have A' := A75.up hb
            refine ⟨A'.box.grown hg (nb (by omega)), A'.fs.keep hg fun i h k e1 e2 e3 => ?_, A'.bs.keptBy hg ?_, A'.rs.keptBy hg ?_⟩
            · have := ob i h k e1 e2; have := lo k e3; omega
            · cases hb2 : blk H.b.1 with
              | none => exact .inl rfl
              | some k => exact .inr fun e => by have := obB k hb2; have := lo k e.symm; omega
            · cases hb2 : blk H.r.1 with
              | none => exact .inl rfl
              | some k => exact .inr fun e => by have := obR k hb2; have := lo k e.symm; omega
          refine wu_box ((X5.up hb).grown hg (nb (by omega))) (by kernel_rfl) (Nat.le_refl 1) rfl fun w2 Z5 g2 _ => ?_
          have ne : ∀ {a : Addr}, a.block ≠ x5.block → some a.block ≠ some x5.block := fun h e => h (by injection e)
          refine hK2 _ _ ⟨(Xb.bel (b75.trans hb) (Xb.of (S := fun k => w53.heap.size ≤ k) hg lo) (fun k hk => by omega)).grownAt g2 (by omega), by have := hg.size; have := g2.size; omega, A1.xo (Xb.of g2 fun k e => by injection e with e; exact e.symm) (by omega),
            ((X1.up hb).grown hg (nb (by omega))).grown g2 (ne (by omega)), ((X3.up hb).grown hg (nb (by omega))).grown g2 (ne (by omega)), ((X7.up hb).grown hg (nb (by omega))).grown g2 (ne (by omega)), (a', mh.2.1 + 1, c'), Z5, ?_⟩
          rw [List.take_add_one, hmi, hx]
          exact own_box O1 g2 (by omega)
        refine z_eq (m := ((up.length + i : Nat) : Int)) (by rw [IntWalk.i64_in _ ⟨by dsimp only; omega, by dsimp only; omega⟩]; dsimp only; omega) ?_
        refine br_eq (fun hb0 => ?_) (fun hb0 => ?_)
        · refine drw_mk fun w81 h81 _ => ?_
          refine flEx_mk (fun q _ v w' => (q = 1 → v = fracv (1 : Rat).num (1 : Rat).den) ∧ (q = 2 → ∃ ad, v = .slice (some ad) 1 1 ∧ Sl w' (some ad) 1 1 2 (encQ 1))) (fun _ _ _ _ _ q hb => ⟨q.1, fun e => by obtain ⟨ad, h1, h2⟩ := q.2 e; exact ⟨ad, h1, h2.up hb⟩⟩) ?_
          refine rd_box0 (by kernel_rfl) (X5.up h81) rfl rfl ?_
          refine flc_mk (fun w84 h84 _ => ?_) fun x88 => ?_
          · exact callP_of (call_mono (lWhole 1 w84) fun x w' q => ⟨q.2, ⟨fun _ => by rw [q.1]; rfl, fun e => absurd e (by decide)⟩⟩)
          refine flc_mk (fun w89 h89 q => ?_) fun x93 => ?_
          · have ev := agg_qv (q.1.1 rfl)
            subst ev
            refine litQ fun ad w'' S1 hb hbl hs => ?_
            exact ⟨hb, fun e => absurd e (by decide), fun _ => ⟨ad, rfl, S1⟩⟩
          refine flend_mk fun w94 h94 q => ?_
          obtain ⟨ad, ev, S1⟩ := q.1.2 rfl
          obtain rfl : x93 = (some ad, 1, 1) := hv_inj ev
          have eb : Tb.b row = up.length + i := Int.ofNat_inj.1 hb0
          exact more (if_pos eb) (h81.trans h94) S1
        · refine drw_mk fun w99 h99 _ => ?_
          have hnb : ¬ Tb.b row = up.length + i := fun e => hb0 (by rw [e])
          refine flEx_mk (fun q _ v w' => (q = 1 → v = fracv (0 : Rat).num (0 : Rat).den) ∧ (q = 14 → v = fracv (0 + -(Tb.a row (up.length + i))).num (0 + -(Tb.a row (up.length + i))).den) ∧ (q = 15 → ∃ ad, v = .slice (some ad) 1 1 ∧ Sl w' (some ad) 1 1 2 (encQ (0 + -(Tb.a row (up.length + i))))))
            (fun _ _ _ _ _ q hb => ⟨q.1, q.2.1, fun e => by obtain ⟨ad, h1, h2⟩ := q.2.2 e; exact ⟨ad, h1, h2.up hb⟩⟩) ?_
          refine rd_box0 (by kernel_rfl) (X5.up h99) rfl rfl ?_
          refine flc_mk (fun w84 h84 _ => ?_) fun x106 => ?_
          · exact callP_of (call_mono (lWhole 0 w84) fun x w' q => ⟨q.2, ⟨fun _ => by rw [q.1]; rfl, fun e => absurd e (by decide), fun e => absurd e (by decide)⟩⟩)
          refine (A75.up h99).row_at ok (i := wri (some (row, below))) rfl hr fun g hg O110 => ?_
          refine z_eq (m := ((up.length + i : Nat) : Int)) (by rw [IntWalk.i64_in _ ⟨by dsimp only; omega, by dsimp only; omega⟩]; dsimp only; omega) ?_
          refine atQ O110.sl rfl (ok.el_get hr (by omega)) ?_
          refine flc_mk (fun w114 h114 q => ?_) fun x118 => ?_
          · have ev := agg_qv (q.1.1 rfl)
            subst ev
            refine callP_mono (lSub w114 f0 (ok.a_fit hr (by omega))) (fun x w' q => ⟨q.2.2, ⟨fun e => absurd e (by decide), fun _ => by rw [q.1]; rfl, fun e => absurd e (by decide)⟩⟩) (fun ch w' q => absurd (fits_neg (ok.a_fit hr (by omega))) q.1)
          refine flc_mk (fun w119 h119 q => ?_) fun x123 => ?_
          · have ev := agg_qv (q.1.2.1 rfl)
            subst ev
            refine litQ fun ad w'' S1 hb hbl hs => ?_
            exact ⟨hb, fun e => absurd e (by decide), fun e => absurd e (by decide), fun _ => ⟨ad, rfl, S1⟩⟩
          refine flend_mk fun w124 h124 q => ?_
          obtain ⟨ad, ev, S1⟩ := q.1.2.2 rfl
          obtain rfl : x123 = (some ad, 1, 1) := hv_inj ev
          exact more (if_neg hnb) (h99.trans h124) S1
      have hiM : i = T.length := by dsimp only at hge; omega
      rw [hiM, List.take_of_length_le (by rw [hml]; exact Nat.le_refl _)] at O75
      clear hag2 again2 hge
      refine rd_boxN X1 (by kernel_rfl) rfl ?_
      refine rd_box0 (by kernel_rfl) X5 rfl rfl ?_
      have SM := O75.sl
      have eM : (mults up.length T.length Tb row).flatMap encQ = ((mults up.length T.length Tb row).map prQ).flatMap encF := by rw [List.flatMap_map]
      rw [eM] at SM
      refine callP_of (call_mono (bndL u r b lo hi mh up T rt ls hs _ w75 (HS.up b75) SM (fun q hq => by
        obtain ⟨y, hy, rfl⟩ := List.mem_map.1 hq
        exact i64_fits (hmf y hy)) (HL.up b75) (HH.up b75)) fun (x131 : Bool) w132 q => ?_)
      obtain ⟨hbnd, h132⟩ := q
      have b132 := b75.trans h132
      refine br_not (fun hx => ?_) (fun hx => ?_)
      · exact give b132 (X3.up h132) ⟨_, X5.up h132⟩ (X7.up h132) (mkC hRch ok (.inr (.inr ⟨row, below, hw, hno, fun q => by rw [hbnd.2 q] at hx; cases hx⟩)))
      refine drw_mk fun w139 h139 _ => ?_
      have b139 := b132.trans h139
      have Y3 := (X3.up h132).up h139
      have Y5 := (X5.up h132).up h139
      have Y7 := (X7.up h132).up h139
      have OM := (Own.kept O75 h132).kept h139
      have s139 : w53.heap.size ≤ w139.heap.size := by have := h132.size; have := h139.size; omega
      refine flExE_mk (fun w1 w2 => Xb (fun k => k = x3.block) w1 w2 ∧ (Box w1 x3 [.slice none 0 0] → Box w2 x3 [.slice none 0 0])) (fun _ _ _ w' => Box w' x3 [.slice none 0 0]) (fun w1 => ⟨Xb.refl _ w1, id⟩) (fun _ _ _ p q => ⟨p.1.trans q.1, fun z => q.2 (p.2 z)⟩) (fun _ _ _ _ _ p q => q.2 p) ?_
      refine rdE_box0 (by kernel_rfl) (fun w' hE => Y5.xb hE.1 (by omega)) rfl rfl ?_
      refine flc_mk (fun w143 hE _ => ?_) fun _ => ?_
      · refine wu_box (hE.2 Y3) (by kernel_rfl) (Nat.le_refl 1) rfl fun w145 Z3 hg _ => ?_
        exact ⟨⟨Xb.of hg fun k e => by injection e with e; exact e.symm, fun _ => Z3⟩, Z3⟩
      refine flend_mk fun w147 hE q => ?_
      have Z3 : Box w147 x3 [.slice none 0 0] := q.1
      have Z5 := Y5.xb hE.1 (by omega)
      have Z7 := Y7.xb hE.1 (by omega)
      have b147 : bel w w147 := Xb.bel b139 hE.1 fun k hk => by omega
      have OM' := Own_xb OM hE.1 fun k hk q => by have := (OM.lt k hk).1; omega
      refine wu_box Z5 (by kernel_rfl) (Nat.le_refl 1) rfl fun w149 U5 g2 _ => ?_
      refine wu_box (Z7.grown g2 (by intro e; injection e; omega)) (by kernel_rfl) (Nat.le_refl 1) rfl fun w150 U7 g3 _ => ?_
      refine out w150 (none, 0, 0) mh 0 ((Z3.grown g2 (by intro e; injection e; omega)).grown g3 (by intro e; injection e; omega)) (U5.grown g3 (by intro e; injection e; omega)) U7 (.inr (.inl ⟨rfl, rfl, (by omega), mults up.length T.length Tb row, hml, ?_, hmf, hbnd.1 hx⟩)) ((b147.grownAt g2 (by omega)).grownAt g3 (by omega))
      exact own_mono (own_box (own_box OM' g2 (by omega)) g3 (by omega)) (by omega)
end Go.Proofs.YtajpdnphamomjaaGreat

/- Plain law: the move of a tableau is a pivot. -/

namespace Go.Proofs.YtajpdnphamomjaaGreat
open Go.RowKit Go.Q Go.Q.Num Go.V

theorem getD_set_in {l : List Rat} {i q : Nat} {x : Rat} (hq : q < l.length) : (l.set i x).getD q 0 = if i = q then x else l.getD q 0 := by
  rw [List.getD_eq_getElem?_getD, List.getD_eq_getElem?_getD]
  by_cases h : i = q
  · subst h; rw [List.getElem?_set_self hq, if_pos rfl]; rfl
  · rw [List.getElem?_set_ne h, if_neg h]
theorem divN_val {r : List Rat} {c : Rat} {q : Nat} (hq : q < r.length) : ∀ j, (divN r c j).getD q 0 = if q < j then 0 + -(r.getD q 0 / c) else r.getD q 0
  | 0 => rfl
  | j + 1 => by
    unfold divN
    split
    · rw [getD_set_in (by rw [divN_len]; exact hq), divN_val hq j]
      by_cases h : j = q
      · subst h; rw [if_pos rfl, if_pos (by omega)]
      · rw [if_neg h]
        by_cases h2 : q < j
        · rw [if_pos h2, if_pos (by omega)]
        · rw [if_neg h2, if_neg (by omega)]
    · rename_i h0
      rw [divN_val hq j]
      by_cases h : j = q
      · subst h
        have h0 : r.getD j 0 = 0 := Classical.not_not.1 h0
        rw [if_neg (by omega), if_pos (by omega), h0]; grind
      · by_cases h2 : q < j
        · rw [if_pos h2, if_pos (by omega)]
        · rw [if_neg h2, if_neg (by omega)]
theorem addN_val {r nr : List Rat} {c : Rat} {q : Nat} (hq : q < r.length) : ∀ j, (addN r c nr j).getD q 0 = if q < j then r.getD q 0 + c * nr.getD q 0 else r.getD q 0
  | 0 => rfl
  | j + 1 => by
    unfold addN
    split
    · rw [getD_set_in (by rw [addN_len]; exact hq), addN_val hq j]
      by_cases h : j = q
      · subst h; rw [if_pos rfl, if_pos (by omega), addN_val hq j, if_neg (by omega)]
      · rw [if_neg h]
        by_cases h2 : q < j
        · rw [if_pos h2, if_pos (by omega)]
        · rw [if_neg h2, if_neg (by omega)]
    · rename_i h0
      rw [addN_val hq j]
      by_cases h : j = q
      · subst h
        have h0 : nr.getD j 0 = 0 := Classical.not_not.1 h0
        rw [if_neg (by omega), if_pos (by omega), h0]; grind
      · by_cases h2 : q < j
        · rw [if_pos h2, if_pos (by omega)]
        · rw [if_neg h2, if_neg (by omega)]
section
variable {T : Tb} {N M row k : Nat} {to : Rat}
theorem nr_val (ok : TbOk N M T) (hr : row < M) {j : Nat} (hj : j < N) : (T.nr row k).getD j 0 = nrow T.a T.b row k j := by
  have hl := ok.row_len hr
  unfold Tb.nr nrow
  rw [hl, getD_set_in (by rw [List.length_set, divN_len, hl]; exact hj), getD_set_in (by rw [divN_len, hl]; exact hj), divN_val (by rw [hl]; exact hj), if_pos hj]
  by_cases h1 : j = T.b row
  · rw [if_pos h1.symm, if_pos h1]
  · rw [if_neg (fun e => h1 e.symm), if_neg h1]
    by_cases h2 : j = k
    · rw [if_pos h2.symm, if_pos h2]
    · rw [if_neg (fun e => h2 e.symm), if_neg h2]; rfl
theorem rN_val (ok : TbOk N M T) (hr : row < M) {q : Nat} (hq : q < M) : ∀ i, (T.rN row k i).getD q [] = if q = row then T.nr row k else if q < i ∧ T.a q k ≠ 0 then addN ((T.rows.getD q []).set k 0) (T.a q k) (T.nr row k) (T.nr row k).length else T.rows.getD q []
  | 0 => by
    show (T.rows.set row (T.nr row k)).getD q [] = _
    by_cases h : q = row
    · subst h; rw [getD_set (by rw [ok.lr]; exact hr), if_pos rfl]
    · rw [getD_set_ne' (fun e => h e.symm), if_neg h, if_neg (by omega)]
  | i + 1 => by
    unfold Tb.rN
    split
    · rename_i h0
      by_cases h : i = q
      · subst h
        rw [getD_set (by rw [rN_len, ok.lr]; exact hq), if_neg h0.1, if_pos ⟨by omega, h0.2⟩]
      · rw [getD_set_ne' h, rN_val ok hr hq i]
        by_cases h1 : q = row
        · rw [if_pos h1, if_pos h1]
        · rw [if_neg h1, if_neg h1]
          by_cases h2 : q < i ∧ T.a q k ≠ 0
          · rw [if_pos h2, if_pos ⟨by omega, h2.2⟩]
          · rw [if_neg h2, if_neg fun q => h2 ⟨by omega, q.2⟩]
    · rename_i h0
      rw [rN_val ok hr hq i]
      by_cases h1 : q = row
      · rw [if_pos h1, if_pos h1]
      · rw [if_neg h1, if_neg h1]
        by_cases h2 : q < i ∧ T.a q k ≠ 0
        · rw [if_pos h2, if_pos ⟨by omega, h2.2⟩]
        · rw [if_neg h2, if_neg fun q' => h2 ⟨by
            rcases Nat.lt_or_ge q i with h | h
            · exact h
            · have : q = i := by omega
              subst this; exact absurd ⟨h1, q'.2⟩ h0, q'.2⟩]
theorem move_a (ok : TbOk N M T) (hr : row < M) {i j : Nat} (hi : i < M) (hj : j < N) : (T.move row k to).a i j = nrows T.a T.b row k i j := by
  have hl := ok.row_len hi
  show ((T.rN row k T.rows.length).getD i []).getD j 0 = _
  rw [rN_val ok hr hi, ok.lr]
  unfold nrows
  by_cases h : i = row
  · rw [if_pos h, if_pos h]; exact nr_val ok hr hj
  · rw [if_neg h, if_neg h, ← nr_val ok hr hj]
    by_cases h2 : T.a i k = 0
    · rw [if_neg fun q => q.2 h2, h2]
      show T.a i j = _
      by_cases h3 : j = k
      · subst h3; rw [if_pos rfl, h2]; grind
      · rw [if_neg h3]; grind
    · rw [if_pos ⟨hi, h2⟩, addN_val (by rw [List.length_set, hl]; exact hj), nr_len, ok.row_len hr, if_pos hj, getD_set_in (by rw [hl]; exact hj)]
      by_cases h3 : j = k
      · rw [if_pos h3.symm, if_pos h3]
      · rw [if_neg (fun e => h3 e.symm), if_neg h3]; rfl
theorem move_b (ok : TbOk N M T) {i : Nat} (hi : i < M) : (T.move row k to).b i = nbas T.b row k i := by
  show (T.bas.set row k).getD i 0 = _
  unfold nbas
  rw [List.getD_eq_getElem?_getD]
  by_cases h : i = row
  · subst h; rw [List.getElem?_set_self (by rw [ok.lb]; exact hi), if_pos rfl]; rfl
  · rw [List.getElem?_set_ne (fun e => h e.symm), if_neg h]; exact (List.getD_eq_getElem?_getD ..).symm
theorem vN_other {q : Nat} : ∀ {i : Nat}, (∀ i', i' < i → i' ≠ row → T.b i' ≠ q) → (T.vN row k to i).getD q 0 = (T.v0 row k to).getD q 0
  | 0, _ => rfl
  | i + 1, h => by
    unfold Tb.vN
    split
    · rename_i h0
      rw [List.getD_eq_getElem?_getD, List.getElem?_set_ne (h i (by omega) h0.1), ← List.getD_eq_getElem?_getD]
      exact vN_other fun i' h1 h2 => h i' (by omega) h2
    · exact vN_other fun i' h1 h2 => h i' (by omega) h2
theorem vN_hit (ok : TbOk N M T) (inj : ∀ i i', i < M → i' < M → T.b i = T.b i' → i = i') {q : Nat} (hq : q ≠ row) : ∀ {i : Nat}, q < i → i ≤ M → (T.vN row k to i).getD (T.b q) 0 = (T.v0 row k to).getD (T.b q) 0 + T.a q k * T.by row k to
  | 0, h, _ => by omega
  | i + 1, h, hM => by
    have hb := ok.b_lt (i := q) (by omega)
    have hl : (T.vN row k to i).length = N := by rw [vN_len, ok.lv]
    by_cases hqi : i = q
    · subst hqi
      have ho : (T.vN row k to i).getD (T.b i) 0 = (T.v0 row k to).getD (T.b i) 0 := vN_other fun i' h1 _ e => by have := inj i' i (by omega) (by omega) e; omega
      unfold Tb.vN
      split
      · rw [getD_set_in (by rw [hl]; exact hb), if_pos rfl, ho]
      · rename_i h0
        have h0 : T.a i k = 0 := Classical.byContradiction fun e => h0 ⟨hq, e⟩
        rw [ho, h0]; grind
    · have ih := vN_hit ok inj hq (i := i) (by omega) (by omega)
      unfold Tb.vN
      split
      · rw [getD_set_in (by rw [hl]; exact hb), if_neg (fun e => hqi (inj i q (by omega) (by omega) e)), ih]
      · exact ih
theorem v0_val (ok : TbOk N M T) {q : Nat} (hq : q < N) : (T.v0 row k to).getD q 0 = if k = q then T.v k + T.by row k to else if T.b row = q then to else T.v q := by
  unfold Tb.v0
  rw [getD_set_in (by rw [List.length_set, ok.lv]; exact hq), getD_set_in (by rw [ok.lv]; exact hq)]; rfl
theorem move_v (ok : TbOk N M T) (inj : ∀ i i', i < M → i' < M → T.b i = T.b i' → i = i') (hr : row < M) (hk : k < N) (hkb : ∀ i, i < M → T.b i ≠ k) : Moved M T.a T.v T.b row k to (T.move row k to).v := by
  have e : ∀ q, (T.move row k to).v q = (T.vN row k to M).getD q 0 := fun q => by
    show (T.vN row k to T.bas.length).getD q 0 = _
    rw [ok.lb]
  refine ⟨?_, ?_, fun i hi hir => ?_, fun j hjk hj => ?_⟩
  · rw [e, vN_other fun i' h1 h2 e => h2 (inj i' row h1 hr e), v0_val ok (ok.b_lt hr), if_neg (fun e => hkb row hr e.symm), if_pos rfl]
  · rw [e, vN_other fun i' h1 _ => hkb i' h1, v0_val ok hk, if_pos rfl]; rfl
  · rw [e, vN_hit ok inj hir hi (Nat.le_refl _), v0_val ok (ok.b_lt hi), if_neg (fun e => hkb i hi e.symm), if_neg (fun e => hir (inj row i hr hi e).symm)]; rfl
  · rw [e, vN_other fun i' h1 _ => hj i' h1]
    by_cases hjN : j < N
    · rw [v0_val ok hjN, if_neg (fun e => hjk e.symm), if_neg (hj row hr)]
    · unfold Tb.v0 Tb.v
      rw [List.getD_eq_getElem?_getD, List.getElem?_eq_none (by simp [ok.lv]; omega), List.getD_eq_getElem?_getD, List.getElem?_eq_none (by rw [ok.lv]; omega)]
end
theorem TI.congr {N M : Nat} {a0 : Nat → Nat → Rat} {b0 : Nat → Nat} {lo hi : Nat → Rat} {a a' : Nat → Nat → Rat} {v : Nat → Rat} {b b' : Nat → Nat} (I : TI N M a0 b0 lo hi a v b)
    (ha : ∀ i j, i < M → j < N → a' i j = a i j) (hb : ∀ i, i < M → b' i = b i) : TI N M a0 b0 lo hi a' v b' := by
  have hs : ∀ y, Sat N M a' b' y ↔ Sat N M a b y := by
    intro y
    have e : ∀ i, i < M → sm (fun j => a' i j * y j) N = sm (fun j => a i j * y j) N := fun i hi => sm_congr fun j hj => by rw [ha i j hi hj]
    constructor
    · intro h i hi; rw [← hb i hi, ← e i hi]; exact h i hi
    · intro h i hi; rw [hb i hi, e i hi]; exact h i hi
  refine ⟨fun i i' hi hi' e => I.inj i i' hi hi' (by rw [← hb i hi, ← hb i' hi']; exact e), fun i hi => by rw [hb i hi]; exact I.lt i hi, fun i i' hi hi' => ?_, fun y => (hs y).trans (I.eqv y), (hs v).2 I.sat, fun j hj h => I.bnd j hj fun i hi => by rw [← hb i hi]; exact h i hi⟩
  rw [hb i' hi', ha i _ hi (I.lt i' hi')]
  exact I.z i i' hi hi'
abbrev TbI (N M : Nat) (a0 : Nat → Nat → Rat) (b0 : Nat → Nat) (T : Tb) : Prop := TI N M a0 b0 T.lo T.hi T.a T.v T.b
theorem TbI.move {N M : Nat} {a0 : Nat → Nat → Rat} {b0 : Nat → Nat} {T : Tb} (I : TbI N M a0 b0 T) (ok : TbOk N M T) {row k : Nat} {to : Rat} (hr : row < M) (hk : k < N) (hc : T.a row k ≠ 0) (hto : T.lo (T.b row) ≤ to ∧ to ≤ T.hi (T.b row)) : TbI N M a0 b0 (T.move row k to) := by
  have hkb : ∀ i, i < M → T.b i ≠ k := fun i hi e => hc (by rw [← e]; exact I.z row i hr hi)
  exact (TI.pivot I hr hk hc (move_v ok I.inj hr hk hkb) hto).congr (fun i j hi hj => move_a ok hr hi hj) fun i hi => move_b ok hi
end Go.Proofs.YtajpdnphamomjaaGreat

/- Plain law: what Relax finds is a solution. -/


namespace Go.Proofs.YtajpdnphamomjaaGreat
open Go.RowKit Go.Q Go.Q.Num Go.V

section
variable {up : List Int} {T : List (List Int)} {rt ls hs : List Int}
theorem getD_some {α : Type} {l : List α} {i : Nat} {x d : α} (h : l[i]? = some x) : l.getD i d = x := by rw [List.getD_eq_getElem?_getD, h]; rfl
theorem tb0_a {i j : Nat} {row : List Int} (hrow : T[i]? = some row) (hj : j < row.length + T.length) : (tb0 up T rt ls hs T.length).a i j = ((row.getD j 0 : Int) : Rat) := by
  unfold Tb.a tb0
  dsimp only
  rw [getD_some (x := rowQ T.length row) (by rw [List.take_length, List.getElem?_map, hrow]; rfl)]
  exact getD_some (rowQ_get hj)
theorem tb0_b {i : Nat} (hi : i < T.length) : (tb0 up T rt ls hs T.length).b i = up.length + i := by
  unfold Tb.b tb0
  exact getD_some (by rw [List.getElem?_map, List.getElem?_range hi]; rfl)
theorem q1_get {l : List Int} {j : Nat} {x : Int} (h : l[j]? = some x) : (q1 l)[j]? = some (x : Rat) := by unfold q1; rw [List.getElem?_map, h]; rfl
theorem q1_len (l : List Int) : (q1 l).length = l.length := by simp [q1]
theorem tb0_lo {j : Nat} {x : Int} (h : ls[j]? = some x) : (tb0 up T rt ls hs T.length).lo j = (x : Rat) := by
  unfold Tb.lo tb0
  exact getD_some (by rw [List.getElem?_append_left (by rw [q1_len]; exact (List.getElem?_eq_some_iff.1 h).1), q1_get h])
theorem tb0_hi {j : Nat} {x : Int} (h : hs[j]? = some x) : (tb0 up T rt ls hs T.length).hi j = (x : Rat) := by
  unfold Tb.hi tb0
  exact getD_some (by rw [List.getElem?_append_left (by rw [q1_len]; exact (List.getElem?_eq_some_iff.1 h).1), q1_get h])
theorem tb0_v {j : Nat} {x : Int} (h : ls[j]? = some x) : (tb0 up T rt ls hs T.length).v j = (x : Rat) := by
  unfold Tb.v tb0
  exact getD_some (by rw [List.getElem?_append_left (by rw [q1_len]; exact (List.getElem?_eq_some_iff.1 h).1), q1_get h])
theorem tb0_lob {i : Nat} {y : Int} (hll : ls.length = up.length) (hrt : rt.length = T.length) (h : rt[i]? = some y) : (tb0 up T rt ls hs T.length).lo (up.length + i) = (y : Rat) := by
  unfold Tb.lo tb0
  exact getD_some (by rw [List.getElem?_append_right (by rw [q1_len]; omega), q1_len, hll, Nat.add_sub_cancel_left, ← hrt, List.take_length, q1_get h])
theorem tb0_hib {i : Nat} {y : Int} (hhl : hs.length = up.length) (hrt : rt.length = T.length) (h : rt[i]? = some y) : (tb0 up T rt ls hs T.length).hi (up.length + i) = (y : Rat) := by
  unfold Tb.hi tb0
  exact getD_some (by rw [List.getElem?_append_right (by rw [q1_len]; omega), q1_len, hhl, Nat.add_sub_cancel_left, ← hrt, List.take_length, q1_get h])
theorem tb0_vb {i : Nat} {row : List Int} (hll : ls.length = up.length) (h : T[i]? = some row) : (tb0 up T rt ls hs T.length).v (up.length + i) = sumQ row ls up.length := by
  unfold Tb.v tb0
  exact getD_some (by rw [List.getElem?_append_right (by rw [q1_len]; omega), q1_len, hll, Nat.add_sub_cancel_left, List.take_length, List.getElem?_map, h]; rfl)
theorem sumQ_sm (row ls : List Int) : ∀ k, sumQ row ls k = sm (fun j => ((row.getD j 0 : Int) : Rat) * ((ls.getD j 0 : Int) : Rat)) k
  | 0 => rfl
  | k + 1 => by
    show (if row.getD k 0 ≠ 0 then sumQ row ls k + ((row.getD k 0 : Int) : Rat) * ((ls.getD k 0 : Int) : Rat) else sumQ row ls k) = sm (fun j => ((row.getD j 0 : Int) : Rat) * ((ls.getD j 0 : Int) : Rat)) k + ((row.getD k 0 : Int) : Rat) * ((ls.getD k 0 : Int) : Rat)
    rw [← sumQ_sm row ls k]
    split
    · rfl
    · rename_i h
      have h0 : row.getD k 0 = 0 := Classical.not_not.1 h
      rw [h0]
      show sumQ row ls k = sumQ row ls k + (0 : Rat) * _
      grind
theorem sm_ext {f : Nat → Rat} {n : Nat} : ∀ m, (∀ j, n ≤ j → j < n + m → f j = 0) → sm f (n + m) = sm f n
  | 0, _ => rfl
  | m + 1, h => by
    show sm f (n + m) + f (n + m) = sm f n
    rw [sm_ext m fun j h1 h2 => h j h1 (by omega), h (n + m) (by omega) (by omega)]; grind
theorem tb0_I (hA : SysA up T rt) (hll : ls.length = up.length) (hhl : hs.length = up.length) (hle : ∀ (k : Nat) a b, ls[k]? = some a → hs[k]? = some b → a ≤ b) :
    TbI (up.length + T.length) T.length (tb0 up T rt ls hs T.length).a (tb0 up T rt ls hs T.length).b (tb0 up T rt ls hs T.length) := by
  have row : ∀ i, i < T.length → ∃ row, T[i]? = some row ∧ row.length = up.length := fun i hi => ⟨_, List.getElem?_eq_getElem hi, hA.2 _ (List.getElem_mem hi)⟩
  refine ⟨fun i i' hi hi' e => ?_, fun i hi => ?_, fun i i' hi hi' => ?_, fun _ => Iff.rfl, fun i hi => ?_, fun j hj hn => ?_⟩
  · rw [tb0_b hi, tb0_b hi'] at e; omega
  · rw [tb0_b hi]; omega
  · obtain ⟨r, h1, h2⟩ := row i hi
    rw [tb0_b hi', tb0_a h1 (by omega), List.getD_eq_getElem?_getD, List.getElem?_eq_none (by omega)]; rfl
  · obtain ⟨r, h1, h2⟩ := row i hi
    rw [tb0_b hi, tb0_vb hll h1, sumQ_sm]
    refine (sm_ext (n := up.length) T.length (fun j hj1 hj2 => ?_)).symm.trans (sm_congr fun j hj => ?_) |>.trans rfl
    · rw [List.getD_eq_getElem?_getD (l := r), List.getElem?_eq_none (by omega)]
      show (0 : Rat) * _ = 0
      grind
    · rw [tb0_a h1 (by omega)]
      by_cases hjn : j < up.length
      · obtain ⟨x, hx⟩ : ∃ x, ls[j]? = some x := ⟨_, List.getElem?_eq_getElem (by omega)⟩
        rw [tb0_v hx, getD_some hx]
      · rw [List.getD_eq_getElem?_getD (l := r), List.getElem?_eq_none (by omega)]
        show (0 : Rat) * _ = (0 : Rat) * _
        grind
  · have hjn : j < up.length := by
      rcases Nat.lt_or_ge j up.length with h | h
      · exact h
      · exact absurd (by rw [tb0_b (by omega)]; omega) (hn (j - up.length) (by omega))
    obtain ⟨x, hx⟩ : ∃ x, ls[j]? = some x := ⟨_, List.getElem?_eq_getElem (by omega)⟩
    obtain ⟨y, hy⟩ : ∃ x, hs[j]? = some x := ⟨_, List.getElem?_eq_getElem (by omega)⟩
    rw [tb0_lo hx, tb0_hi hy, tb0_v hx]
    exact ⟨Rat.le_refl, Rat.intCast_le_intCast.2 (hle j x y hx hy)⟩
theorem Rch.inv {N M : Nat} {T0 : Tb} (I0 : TbI N M T0.a T0.b T0) (hlh : ∀ j, j < N → T0.lo j ≤ T0.hi j) {c : Nat} {B : Tb} (h : Rch N M T0 c B) : TbI N M T0.a T0.b B ∧ B.low = T0.low ∧ B.high = T0.high := by
  induction h with
  | zero => exact ⟨I0, rfl, rfl⟩
  | step hR ok hs ih =>
    rename_i c B row k below
    obtain ⟨I, e1, e2⟩ := ih
    have hr : row < M := wr_lt hs.1
    have hb := ok.b_lt hr
    have hl : B.lo (B.b row) ≤ B.hi (B.b row) := by
      have := hlh _ hb
      unfold Tb.lo Tb.hi at *
      rw [e1, e2]; exact this
    refine ⟨TbI.move I ok hr hs.2.1 hs.2.2.1.1 ?_, e1, e2⟩
    unfold goal
    split
    · exact ⟨Rat.le_refl, hl⟩
    · exact ⟨hl, Rat.le_refl⟩
theorem wr_none {T : Tb} : ∀ {M : Nat}, T.wr M = none → ∀ i, i < M → T.lo (T.b i) ≤ T.v (T.b i) ∧ T.v (T.b i) ≤ T.hi (T.b i)
  | 0, _, i, hi => by omega
  | M + 1, h, i, hi => by
    rw [wr_succ] at h
    split at h
    · split at h
      · cases h
      · split at h <;> cases h
    · rename_i hn
      by_cases him : i = M
      · subst him
        exact ⟨Rat.not_lt.1 fun q => hn (.inl q), Rat.not_lt.1 fun q => hn (.inr q)⟩
      · exact wr_none h i (by omega)
theorem rlx_sol (hA : SysA up T rt) (hll : ls.length = up.length) (hhl : hs.length = up.length) (hle : ∀ (k : Nat) a b, ls[k]? = some a → hs[k]? = some b → a ≤ b) {c : Nat} {B : Tb}
    (hR : Rch (up.length + T.length) T.length (tb0 up T rt ls hs T.length) c B) (hw : B.wr T.length = none) :
    (∀ (k : Nat) a b, ls[k]? = some a → hs[k]? = some b → (a : Rat) ≤ B.v k ∧ B.v k ≤ (b : Rat)) ∧ (∀ (i : Nat) row y, T[i]? = some row → rt[i]? = some y → sm (fun j => B.v j * ((row.getD j 0 : Int) : Rat)) up.length = (y : Rat)) := by
  have I0 := tb0_I hA hll hhl hle
  have hlh : ∀ j, j < up.length + T.length → (tb0 up T rt ls hs T.length).lo j ≤ (tb0 up T rt ls hs T.length).hi j := fun j hj => by
    rcases Nat.lt_or_ge j up.length with h | h
    · obtain ⟨x, hx⟩ : ∃ x, ls[j]? = some x := ⟨_, List.getElem?_eq_getElem (by omega)⟩
      obtain ⟨y, hy⟩ : ∃ x, hs[j]? = some x := ⟨_, List.getElem?_eq_getElem (by omega)⟩
      rw [tb0_lo hx, tb0_hi hy]
      exact Rat.intCast_le_intCast.2 (hle j x y hx hy)
    · obtain ⟨y, hy⟩ : ∃ x, rt[j - up.length]? = some x := ⟨_, List.getElem?_eq_getElem (by have := hA.1; omega)⟩
      have e1 := tb0_lob (T := T) (hs := hs) hll hA.1 hy
      have e2 := tb0_hib (T := T) (ls := ls) hhl hA.1 hy
      rw [show up.length + (j - up.length) = j by omega] at e1 e2
      rw [e1, e2]; exact Rat.le_refl
  obtain ⟨I, e1, e2⟩ := Rch.inv I0 hlh hR
  have elo : ∀ j, B.lo j = (tb0 up T rt ls hs T.length).lo j := fun j => by unfold Tb.lo; rw [e1]
  have ehi : ∀ j, B.hi j = (tb0 up T rt ls hs T.length).hi j := fun j => by unfold Tb.hi; rw [e2]
  have inb : ∀ j, j < up.length + T.length → B.lo j ≤ B.v j ∧ B.v j ≤ B.hi j := fun j hj => by
    by_cases h : ∃ i, i < T.length ∧ B.b i = j
    · obtain ⟨i, hi, rfl⟩ := h
      exact wr_none hw i hi
    · exact I.bnd j hj fun i hi e => h ⟨i, hi, e⟩
  refine ⟨fun k a b ha hb => ?_, fun i row y hrow hy => ?_⟩
  · have hk := (List.getElem?_eq_some_iff.1 ha).1
    have := inb k (by omega)
    rw [elo, ehi, tb0_lo ha, tb0_hi hb] at this
    exact this
  · have hi : i < T.length := (List.getElem?_eq_some_iff.1 hrow).1
    have hrl : row.length = up.length := hA.2 row (mem_at hrow)
    have h1 := inb (up.length + i) (by omega)
    rw [elo, ehi, tb0_lob hll hA.1 hy, tb0_hib hhl hA.1 hy] at h1
    have h2 := (I.eqv B.v).1 I.sat i hi
    rw [tb0_b hi] at h2
    have h3 : B.v (up.length + i) = (y : Rat) := by grind
    rw [← h3, h2]
    rw [sm_ext (n := up.length) T.length (fun j hj1 hj2 => ?_)]
    · exact sm_congr fun j hj => by rw [tb0_a hrow (by omega)]; grind
    · rw [tb0_a hrow (by omega), List.getD_eq_getElem?_getD, List.getElem?_eq_none (by omega)]
      show (0 : Rat) * _ = 0
      grind
end
end Go.Proofs.YtajpdnphamomjaaGreat

/- Relax from zero to the bounds: a solution. -/


namespace Go.Proofs.YtajpdnphamomjaaGreat
open Go.RowKit Go.Q Go.Q.Num Go.V

end Go.Proofs.YtajpdnphamomjaaGreat

/- The conditions of functions, printed by our tool; each is checked against the code by the kernel. -/



namespace Go.Proofs
open Go Go.V Go.RowKit
open Tryz (prog)
set_option maxRecDepth 100000
def S42g (s_a : OA) (s_n s_c : Nat) (w0 : World) (R : KR) : Prop :=
 loop (T := (Int × Unit)) (0, ()) w0 fun (g1 : Int × Unit → World → Prop) (s2 : Int × Unit) w3 => ∀ _ : NV,
 br (decide (s2.1 < ((s_n : Nat) : Int))) (rdp prog (Instr.indexAt 32 (.slice s_a s_n s_c) (ji s2.1)) oA fun (x4 : Addr) =>
 rd prog (jL 60 x4) aF w3 fun (x5 : TF) =>
 call prog 43 [.agg #[ji x5.1, ji x5.2.1]] (.one oB) w3 fun (x6 : Bool) w7 =>
 br x6 (R (ji s2.1) w7)
 (z (IntKind.wrap .i64 (s2.1 + 1)) fun (z8 : Int) =>
 g1 (z8, ()) w7))
 (R (ji (-1)) w3)
def H42g : Hints := ⟨[(2, 0, [(8, (.one (.int .i64)))])], [], [], []⟩
theorem S42g_calls (s_a : OA) (s_n s_c : Nat) (w0 : World) (R : KR) (h : S42g s_a s_n s_c w0 R) : Calls prog 42 #[.slice s_a s_n s_c, (.func (.func 43) #[] #[])] w0 (ret R) :=
 vcFn_sound (H := H42g) follows_ Tryz.func42 (Eq.mpr (by kernel_rfl) h)
def S43 (f_0 f_1 : Int) (w0 : World) (R : KR) : Prop :=
 wr prog (Instr.box 60 (.agg #[ji f_0, ji f_1])) oA w0 fun (x1 : Addr) w2 =>
 rd prog (jL 2 (Addr.add x1 1)) oI w2 fun (x3 : Int) =>
 R (.bool (x3 != 1)) w2
def H43 : Hints := ⟨[], [], [], []⟩
theorem S43_calls (f_0 f_1 : Int) (w0 : World) (R : KR) (h : S43 f_0 f_1 w0 R) : Calls prog 43 #[.agg #[ji f_0, ji f_1]] w0 (ret R) :=
 vcFn_sound (H := H43) follows_ Tryz.func43 (Eq.mpr (by kernel_rfl) h)
def S45 (low_a : OA) (low_n low_c : Nat) (high_a : OA) (high_n high_c : Nat) (cap0 cap1 : Addr) (w0 : World) (R : KR) : Prop :=
 wr prog (Instr.alloc 35 true (.tuple #[])) oA w0 fun (x1 : Addr) w2 =>
 rd prog (jL 54 cap0) (.one .ptr) w2 fun (x3 : Option Addr) =>
 rd prog (jL 3 cap1) oI w2 fun (x4 : Int) =>
 z (IntKind.wrap .i64 (x4 + 1)) fun (z5 : Int) =>
 call prog 22 [.pointer x3, .slice low_a low_n low_c, .slice high_a high_n high_c, ji z5] (.many [oS, aP, oI]) w2 fun (x6 : (Hd3 × (TP) × Int × Unit)) w7 =>
 wu prog (jS 35 x1 (.agg #[ji x6.2.1.1, jw x6.2.1.2.1, ji x6.2.1.2.2.1, ji x6.2.1.2.2.2.1, jw x6.2.1.2.2.2.2.1])) w7 fun w8 =>
 rd prog (loadVar 35 x1) aP w8 fun (x9 : TP) =>
 R (.tuple #[jw x6.1, .agg #[ji x9.1, jw x9.2.1, ji x9.2.2.1, ji x9.2.2.2.1, jw x9.2.2.2.2.1], ji x6.2.2.1]) w8
def H45 : Hints := ⟨[], [], [], []⟩
theorem S45_calls (low_a : OA) (low_n low_c : Nat) (high_a : OA) (high_n high_c : Nat) (cap0 cap1 : Addr) (w0 : World) (R : KR) (h : S45 low_a low_n low_c high_a high_n high_c cap0 cap1 w0 R) : Calls prog 45 #[.slice low_a low_n low_c, .slice high_a high_n high_c, jp cap0, jp cap1] w0 (ret R) :=
 vcFn_sound (H := H45) follows_ Tryz.func45 (Eq.mpr (by kernel_rfl) h)
def S40n (_x_ lower_a : OA) (lower_n lower_c : Nat) (upper_a : OA) (upper_n upper_c : Nat) (k_ bound_ : Int) (cap5_0 cap5_1 : Addr) (w0 : World) (R : KR) : Prop :=
 wr prog (Instr.alloc 35 true (.tuple #[])) oA w0 fun (x1 : Addr) w2 =>
 call prog 39 [.slice lower_a lower_n lower_c] (.one oS) w2 fun (x3 : Hd3) w4 =>
 call prog 39 [.slice upper_a upper_n upper_c] (.one oS) w4 fun (x5 : Hd3) w6 =>
 z (IntKind.wrap .i64 (bound_ + 1)) fun (z7 : Int) =>
 rdp prog (jI 26 x5 k_) oA fun (x8 : Addr) =>
 wu prog (jS 2 x8 (ji bound_)) w6 fun w9 =>
 rdp prog (jI 26 x3 k_) oA fun (x10 : Addr) =>
 wu prog (jS 2 x10 (ji z7)) w9 fun w11 =>
 call prog 45 [.slice lower_a lower_n lower_c, jw x5, jp cap5_0, jp cap5_1] (.many [oS, aP, oI]) w11 fun (x12 : (Hd3 × (TP) × Int × Unit)) w13 =>
 wr prog (Instr.alloc 35 true (.tuple #[])) oA w13 fun (x14 : Addr) w15 =>
 wu prog (jS 35 x14 (.agg #[ji x12.2.1.1, jw x12.2.1.2.1, ji x12.2.1.2.2.1, ji x12.2.1.2.2.2.1, jw x12.2.1.2.2.2.2.1])) w15 fun w16 =>
 br (x12.2.2.1 != 12) (drw w16 fun w17 =>
 rd prog (jL 35 x14) aP w17 fun (x18 : TP) =>
 wu prog (jS 35 x1 (.agg #[ji x18.1, jw x18.2.1, ji x18.2.2.1, ji x18.2.2.2.1, jw x18.2.2.2.2.1])) w17 fun w19 =>
 rd prog (loadVar 35 x1) aP w19 fun (x20 : TP) =>
 R (.tuple #[jw x12.1, .agg #[ji x20.1, jw x20.2.1, ji x20.2.2.1, ji x20.2.2.2.1, jw x20.2.2.2.2.1], ji x12.2.2.1]) w19)
 (call prog 45 [jw x3, .slice upper_a upper_n upper_c, jp cap5_0, jp cap5_1] (.many [oS, aP, oI]) w16 fun (x21 : (Hd3 × (TP) × Int × Unit)) w22 =>
 wr prog (Instr.alloc 35 true (.tuple #[])) oA w22 fun (x23 : Addr) w24 =>
 wu prog (jS 35 x23 (.agg #[ji x21.2.1.1, jw x21.2.1.2.1, ji x21.2.1.2.2.1, ji x21.2.1.2.2.2.1, jw x21.2.1.2.2.2.2.1])) w24 fun w25 =>
 br (x21.2.2.1 != 12) (drw w25 fun w26 =>
 rd prog (jL 35 x23) aP w26 fun (x27 : TP) =>
 wu prog (jS 35 x1 (.agg #[ji x27.1, jw x27.2.1, ji x27.2.2.1, ji x27.2.2.2.1, jw x27.2.2.2.2.1])) w26 fun w28 =>
 rd prog (loadVar 35 x1) aP w28 fun (x29 : TP) =>
 R (.tuple #[jw x21.1, .agg #[ji x29.1, jw x29.2.1, ji x29.2.2.1, ji x29.2.2.2.1, jw x29.2.2.2.2.1], ji x21.2.2.1]) w28)
 (drw w25 fun w30 => flEx fun F31 =>
 rd prog (jL 35 x14) aP w30 fun (x32 : TP) =>
 rd prog (jL 35 x23) aP w30 fun (x33 : TP) =>
 flc bel w30 (fun _w35 => True) (fun w34 =>
   wr prog (Instr.buildSlice 33 2 #[(0, (.agg #[ji x32.1, jw x32.2.1, ji x32.2.2.1, ji x32.2.2.2.1, jw x32.2.2.2.2.1])), (1, (.agg #[ji x33.1, jw x33.2.1, ji x33.2.2.1, ji x33.2.2.2.1, jw x33.2.2.2.2.1]))]) oS w34 fun (x36 : Hd3) w37 =>
 (bel w34 w37 ∧ F31 4 [.agg #[ji x32.1, jw x32.2.1, ji x32.2.2.1, ji x32.2.2.2.1, jw x32.2.2.2.2.1], .agg #[ji x33.1, jw x33.2.1, ji x33.2.2.1, ji x33.2.2.2.1, jw x33.2.2.2.2.1]] (jw x36) w37))
  fun (x38 : Hd3) =>
 flend bel w30 (fun w40 => F31 4 [.agg #[ji x32.1, jw x32.2.1, ji x32.2.2.1, ji x32.2.2.2.1, jw x32.2.2.2.2.1], .agg #[ji x33.1, jw x33.2.1, ji x33.2.2.1, ji x33.2.2.2.1, jw x33.2.2.2.2.1]] (jw x38) w40 ∧ True) fun w39 =>
 wu prog (jS 35 x1 (.agg #[ji 3, .slice none 0 0, ji k_, ji bound_, jw x38])) w39 fun w41 =>
 rd prog (loadVar 35 x1) aP w41 fun (x42 : TP) =>
 R (.tuple #[.slice none 0 0, .agg #[ji x42.1, jw x42.2.1, ji x42.2.2.1, ji x42.2.2.2.1, jw x42.2.2.2.2.1], ji 12]) w41))
def H40n : Hints := ⟨[], [(5, 4), (8, 4), (9, 7)], [], []⟩
theorem S40n_calls (x_ lower_a : OA) (lower_n lower_c : Nat) (upper_a : OA) (upper_n upper_c : Nat) (k_ bound_ : Int) (cap5_0 cap5_1 : Addr) (w0 : World) (R : KR) (h : S40n x_ lower_a lower_n lower_c upper_a upper_n upper_c k_ bound_ cap5_0 cap5_1 w0 R) : Calls prog 40 #[.pointer x_, .slice lower_a lower_n lower_c, .slice upper_a upper_n upper_c, ji k_, ji bound_, (.func (.func 45) #[] #[jp cap5_0, jp cap5_1])] w0 (ret R) :=
 vcFn_sound (H := H40n) follows_ Tryz.func40 (Eq.mpr (by kernel_rfl) h)
def S22 (x_ lower_a : OA) (lower_n lower_c : Nat) (upper_a : OA) (upper_n upper_c : Nat) (deep_ : Int) (w0 : World) (R : KR) : Prop :=
 wr prog (Instr.box 54 (.pointer x_)) oA w0 fun (x1 : Addr) w2 =>
 wr prog (Instr.box 3 (ji deep_)) oA w2 fun (x3 : Addr) w4 =>
 wr prog (Instr.alloc 35 true (.tuple #[])) oA w4 fun (x5 : Addr) w6 =>
 rd prog (jL 54 x1) (.one .ptr) w6 fun (x7 : Option Addr) =>
 nn x7 fun (a8 : Addr) =>
 rd prog (jL 3 (Addr.add a8 3)) oI w6 fun (x9 : Int) =>
 z (IntKind.wrap .i64 (x9 - 1)) fun (z10 : Int) =>
 nn x7 fun (a11 : Addr) =>
 wu prog (jS 3 (Addr.add a11 3) (ji z10)) w6 fun w12 =>
 rd prog (jL 54 x1) (.one .ptr) w12 fun (x13 : Option Addr) =>
 nn x13 fun (a14 : Addr) =>
 rd prog (jL 3 (Addr.add a14 3)) oI w12 fun (x15 : Int) =>
 br (decide (x15 < 0)) (wu prog (jS 35 x5 (.agg #[ji 0, .slice none 0 0, ji 0, ji 0, .slice none 0 0])) w12 fun w16 =>
 rd prog (loadVar 35 x5) aP w16 fun (x17 : TP) =>
 R (.tuple #[.slice none 0 0, .agg #[ji x17.1, jw x17.2.1, ji x17.2.2.1, ji x17.2.2.2.1, jw x17.2.2.2.2.1], ji 8]) w16)
 (rd prog (jL 3 x3) oI w12 fun (x18 : Int) =>
 br (decide (x18 > 200)) (wu prog (jS 35 x5 (.agg #[ji 0, .slice none 0 0, ji 0, ji 0, .slice none 0 0])) w12 fun w19 =>
 rd prog (loadVar 35 x5) aP w19 fun (x20 : TP) =>
 R (.tuple #[.slice none 0 0, .agg #[ji x20.1, jw x20.2.1, ji x20.2.2.1, ji x20.2.2.2.1, jw x20.2.2.2.2.1], ji 8]) w19)
 (rd prog (jL 54 x1) (.one .ptr) w12 fun (x21 : Option Addr) =>
 nn x21 fun (a22 : Addr) =>
 rd prog (jL 29 a22) aS w12 fun (x23 : TS) =>
 call prog 41 [.agg #[jw x23.1, jw x23.2.1, jw x23.2.2.1], .slice lower_a lower_n lower_c, .slice upper_a upper_n upper_c, ji 400] (.many [oS, oS, oI]) w12 fun (x24 : Hd3 × Hd3 × Int × Unit) w25 =>
 br (x24.2.2.1 != 0) (wu prog (jS 35 x5 (.agg #[ji 0, .slice none 0 0, ji 0, ji 0, .slice none 0 0])) w25 fun w26 =>
 rd prog (loadVar 35 x5) aP w26 fun (x27 : TP) =>
 R (.tuple #[.slice none 0 0, .agg #[ji x27.1, jw x27.2.1, ji x27.2.2.1, ji x27.2.2.2.1, jw x27.2.2.2.2.1], ji x24.2.2.1]) w26)
 (rd prog (cmpS .neq 32 (.tmp 52) (.const (.slice none 0 0)) (jw x24.2.1) (.slice none 0 0)) oB w25 fun (x28 : Bool) =>
 br x28 (wu prog (jS 35 x5 (.agg #[ji 1, jw x24.2.1, ji 0, ji 0, .slice none 0 0])) w25 fun w29 =>
 rd prog (loadVar 35 x5) aP w29 fun (x30 : TP) =>
 R (.tuple #[.slice none 0 0, .agg #[ji x30.1, jw x30.2.1, ji x30.2.2.1, ji x30.2.2.2.1, jw x30.2.2.2.2.1], ji 12]) w29)
 (call prog 42 [jw x24.1, (.func (.func 43) #[] #[])] (.one oI) w25 fun (x31 : Int) w32 =>
 br (decide (x31 < 0)) (loop (T := (Hd3 × Int × Unit)) ((none, 0, 0), 0, ()) w32 fun (g33 : Hd3 × Int × Unit → World → Prop) (s34 : Hd3 × Int × Unit) w35 => ∀ _ : NV,
 br (decide (s34.2.1 < ((x24.1.2.1 : Nat) : Int))) (rdp prog (jI 32 x24.1 s34.2.1) oA fun (x36 : Addr) =>
 rd prog (jL 60 x36) aF w35 fun (x37 : TF) =>
 wr prog (Instr.alloc 60 true (.tuple #[])) oA w35 fun (x38 : Addr) w39 =>
 wu prog (jS 60 x38 (.agg #[ji x37.1, ji x37.2.1])) w39 fun w40 =>
 rd prog (jL 2 x38) oI w40 fun (x41 : Int) =>
 wr prog (Instr.buildSlice 26 1 #[(0, (ji x41))]) oS w40 fun (x42 : Hd3) w43 =>
 wr prog (Builtin.append_ #[26, 26] 26 #[.slice s34.1.1 s34.1.2.1 s34.1.2.2, .slice x42.1 x42.2.1 x42.2.2]) oS w43 fun (x44 : Hd3) w45 =>
 z (IntKind.wrap .i64 (s34.2.1 + 1)) fun (z46 : Int) =>
 g33 ((x44.1, x44.2.1, x44.2.2), z46, ()) w45)
 (wu prog (jS 35 x5 (.agg #[ji 0, .slice none 0 0, ji 0, ji 0, .slice none 0 0])) w35 fun w47 =>
 rd prog (loadVar 35 x5) aP w47 fun (x48 : TP) =>
 R (.tuple #[jw s34.1, .agg #[ji x48.1, jw x48.2.1, ji x48.2.2.1, ji x48.2.2.2.1, jw x48.2.2.2.2.1], ji 0]) w47))
 (drw w32 fun w49 => flEx fun F50 =>
 rd prog (jL 54 x1) (.one .ptr) w49 fun (x51 : Option Addr) =>
 rdp prog (jI 32 x24.1 x31) oA fun (x52 : Addr) =>
 rd prog (jL 60 x52) aF w49 fun (x53 : TF) =>
 flc bel w49 (fun _w55 => True) (fun w54 =>
   call prog 44 [.agg #[ji x53.1, ji x53.2.1]] (.one oI) w54 fun (x56 : Int) w57 =>
 (bel w54 w57 ∧ F50 8 [.agg #[ji x53.1, ji x53.2.1]] (ji x56) w57))
  fun (x58 : Int) =>
 flend bel w49 (fun w60 => F50 8 [.agg #[ji x53.1, ji x53.2.1]] (ji x58) w60 ∧ True) fun w59 =>
 call prog 40 [.pointer x51, .slice lower_a lower_n lower_c, .slice upper_a upper_n upper_c, ji x31, ji x58, (.func (.func 45) #[] #[jp x1, jp x3])] (.many [oS, aP, oI]) w59 fun (x61 : (Hd3 × (TP) × Int × Unit)) w62 =>
 wu prog (jS 35 x5 (.agg #[ji x61.2.1.1, jw x61.2.1.2.1, ji x61.2.1.2.2.1, ji x61.2.1.2.2.2.1, jw x61.2.1.2.2.2.2.1])) w62 fun w63 =>
 rd prog (loadVar 35 x5) aP w63 fun (x64 : TP) =>
 R (.tuple #[jw x61.1, .agg #[ji x64.1, jw x64.2.1, ji x64.2.2.1, ji x64.2.2.2.1, jw x64.2.2.2.2.1], ji x61.2.2.1]) w63)))))
def H22 : Hints := ⟨[(2, 1, [(15, (.one .slice)), (62, (.one (.int .i64)))])], [(18, 10)], [], []⟩
theorem S22_calls (x_ lower_a : OA) (lower_n lower_c : Nat) (upper_a : OA) (upper_n upper_c : Nat) (deep_ : Int) (w0 : World) (R : KR) (h : S22 x_ lower_a lower_n lower_c upper_a upper_n upper_c deep_ w0 R) : Calls prog 22 #[.pointer x_, .slice lower_a lower_n lower_c, .slice upper_a upper_n upper_c, ji deep_] w0 (ret R) :=
 vcFn_sound (H := H22) follows_ Tryz.func22 (Eq.mpr (by kernel_rfl) h)
def S3 (l_a : OA) (l_n l_c : Nat) (w0 : World) (R : KR) : Prop :=
 wr prog (Instr.box 25 (.agg #[.slice l_a l_n l_c, ji 0])) oA w0 fun (x1 : Addr) w2 =>
 call prog 7 [jp x1, ji 4, ji 3, ji 8] (.one aS) w2 fun (x3 : TS) w4 =>
 wr prog (Instr.alloc 29 true (.tuple #[])) oA w4 fun (x5 : Addr) w6 =>
 wu prog (jS 29 x5 (.agg #[jw x3.1, jw x3.2.1, jw x3.2.2.1])) w6 fun w7 =>
 rd prog (jL 29 x5) aS w7 fun (x8 : TS) =>
 call prog 8 [.agg #[jw x8.1, jw x8.2.1, jw x8.2.2.1]] (.one oI) w7 fun (x9 : Int) w10 =>
 rd prog (jL 29 x5) aS w10 fun (x11 : TS) =>
 call prog 9 [.agg #[jw x11.1, jw x11.2.1, jw x11.2.2.1]] (.many [oS, aP, oI]) w10 fun (x12 : (Hd3 × (TP) × Int × Unit)) w13 =>
 wr prog (Instr.alloc 35 true (.tuple #[])) oA w13 fun (x14 : Addr) w15 =>
 wu prog (jS 35 x14 (.agg #[ji x12.2.1.1, jw x12.2.1.2.1, ji x12.2.1.2.2.1, ji x12.2.1.2.2.2.1, jw x12.2.1.2.2.2.2.1])) w15 fun w16 =>
 join (T := Unit) (fun (_s18 : Unit) w19 => ∀ _ : NV,
 br (decide (x9 > 999)) (br (x12.2.2.1 == 0) (rd prog (jL 29 x5) aS w19 fun (x20 : TS) =>
 call prog 10 [.agg #[jw x20.1, jw x20.2.1, jw x20.2.2.1], jw x12.1] (.one oB) w19 fun (x21 : Bool) w22 =>
 br x21 (R (.bool true) w22)
 (br (x12.2.2.1 == 12) (rd prog (jL 29 x5) aS w22 fun (x23 : TS) =>
 rd prog (jL 35 x14) aP w22 fun (x24 : TP) =>
 call prog 11 [.agg #[jw x23.1, jw x23.2.1, jw x23.2.2.1], .agg #[ji x24.1, jw x24.2.1, ji x24.2.2.1, ji x24.2.2.2.1, jw x24.2.2.2.2.1]] (.one oB) w22 fun (x25 : Bool) w26 =>
 R (.bool x25) w26)
 (R (.bool false) w22)))
 (br (x12.2.2.1 == 12) (rd prog (jL 29 x5) aS w19 fun (x27 : TS) =>
 rd prog (jL 35 x14) aP w19 fun (x28 : TP) =>
 call prog 11 [.agg #[jw x27.1, jw x27.2.1, jw x27.2.2.1], .agg #[ji x28.1, jw x28.2.1, ji x28.2.2.1, ji x28.2.2.2.1, jw x28.2.2.2.2.1]] (.one oB) w19 fun (x29 : Bool) w30 =>
 R (.bool x29) w30)
 (R (.bool false) w19)))
 (rd prog (jL 29 x5) aS w19 fun (x31 : TS) =>
 call prog 12 [.agg #[jw x31.1, jw x31.2.1, jw x31.2.2.1]] (.one oB) w19 fun (x32 : Bool) w33 =>
 br x32 (br (x12.2.2.1 == 0) (rd prog (jL 29 x5) aS w33 fun (x34 : TS) =>
 call prog 10 [.agg #[jw x34.1, jw x34.2.1, jw x34.2.2.1], jw x12.1] (.one oB) w33 fun (x35 : Bool) w36 =>
 R (.bool x35) w36)
 (R (.bool false) w33))
 (br (x12.2.2.1 == 12) (rd prog (jL 29 x5) aS w33 fun (x37 : TS) =>
 rd prog (jL 35 x14) aP w33 fun (x38 : TP) =>
 call prog 11 [.agg #[jw x37.1, jw x37.2.1, jw x37.2.2.1], .agg #[ji x38.1, jw x38.2.1, ji x38.2.2.1, ji x38.2.2.2.1, jw x38.2.2.2.2.1]] (.one oB) w33 fun (x39 : Bool) w40 =>
 br x39 (R (.bool (((x12.1.2.1 : Nat) : Int) == 0)) w40)
 (R (.bool false) w40))
 (R (.bool false) w33))))
  fun (K17 : Unit → World → Prop) =>
 br (x12.2.2.1 == 8) (br (decide (x9 > 500)) (R (.bool (((x12.1.2.1 : Nat) : Int) == 0)) w16)
 (K17 (()) w16))
 (K17 (()) w16)
def H3 : Hints := ⟨[(0, 27, [])], [], [], []⟩
theorem S3_calls (l_a : OA) (l_n l_c : Nat) (w0 : World) (R : KR) (h : S3 l_a l_n l_c w0 R) : Calls prog 3 #[.slice l_a l_n l_c] w0 (ret R) :=
 vcFn_sound (H := H3) follows_ Tryz.func3 (Eq.mpr (by kernel_rfl) h)
end Go.Proofs

/- The conditions of functions, printed by our tool; each is checked against the code by the kernel. -/



namespace Go.Proofs
open Go Go.V Go.RowKit
open Tryz (prog)
set_option maxRecDepth 100000
def S24 (p_0 : Int) (p_1a : OA) (p_1n p_1c : Nat) (p_2 p_3 : Int) (p_4a : OA) (p_4n p_4c : Nat) (w0 : World) (R : KR) : Prop :=
 wr prog (Instr.box 35 (.agg #[ji p_0, .slice p_1a p_1n p_1c, ji p_2, ji p_3, .slice p_4a p_4n p_4c])) oA w0 fun (x1 : Addr) w2 =>
 loop (T := TF) (1, 0, ()) w2 fun (g3 : TF → World → Prop) (s4 : TF) w5 => ∀ _ : NV,
 rd prog (jL 33 (Addr.add x1 4)) oS w5 fun (x6 : Hd3) =>
 br (decide (s4.2.1 < ((x6.2.1 : Nat) : Int))) (rd prog (jL 33 (Addr.add x1 4)) oS w5 fun (x7 : Hd3) =>
 rdp prog (jI 33 x7 s4.2.1) oA fun (x8 : Addr) =>
 rd prog (jL 35 x8) aP w5 fun (x9 : TP) =>
 call prog 24 [.agg #[ji x9.1, jw x9.2.1, ji x9.2.2.1, ji x9.2.2.2.1, jw x9.2.2.2.2.1]] (.one oI) w5 fun (x10 : Int) w11 =>
 z (IntKind.wrap .i64 (s4.1 + x10)) fun (z12 : Int) =>
 z (IntKind.wrap .i64 (s4.2.1 + 1)) fun (z13 : Int) =>
 g3 (z12, z13, ()) w11)
 (R (ji s4.1) w5)
def H24 : Hints := ⟨[(2, 0, [(3, (.one (.int .i64))), (4, (.one (.int .i64)))])], [], [], []⟩
theorem S24_calls (p_0 : Int) (p_1a : OA) (p_1n p_1c : Nat) (p_2 p_3 : Int) (p_4a : OA) (p_4n p_4c : Nat) (w0 : World) (R : KR) (h : S24 p_0 p_1a p_1n p_1c p_2 p_3 p_4a p_4n p_4c w0 R) : Calls prog 24 #[.agg #[ji p_0, .slice p_1a p_1n p_1c, ji p_2, ji p_3, .slice p_4a p_4n p_4c]] w0 (ret R) :=
 vcFn_sound (H := H24) follows_ Tryz.func24 (Eq.mpr (by kernel_rfl) h)
def S25 (p_0 : Int) (p_1a : OA) (p_1n p_1c : Nat) (p_2 p_3 : Int) (p_4a : OA) (p_4n p_4c : Nat) (w0 : World) (R : KR) : Prop :=
 wr prog (Instr.box 35 (.agg #[ji p_0, .slice p_1a p_1n p_1c, ji p_2, ji p_3, .slice p_4a p_4n p_4c])) oA w0 fun (x1 : Addr) w2 =>
 loop (T := TF) (0, 0, ()) w2 fun (g3 : TF → World → Prop) (s4 : TF) w5 => ∀ _ : NV,
 rd prog (jL 33 (Addr.add x1 4)) oS w5 fun (x6 : Hd3) =>
 br (decide (s4.2.1 < ((x6.2.1 : Nat) : Int))) (rd prog (jL 33 (Addr.add x1 4)) oS w5 fun (x7 : Hd3) =>
 rdp prog (jI 33 x7 s4.2.1) oA fun (x8 : Addr) =>
 rd prog (jL 35 x8) aP w5 fun (x9 : TP) =>
 call prog 25 [.agg #[ji x9.1, jw x9.2.1, ji x9.2.2.1, ji x9.2.2.2.1, jw x9.2.2.2.2.1]] (.one oI) w5 fun (x10 : Int) w11 =>
 z (if x10 > s4.1 then x10 else s4.1) fun (z12 : Int) =>
 z (IntKind.wrap .i64 (s4.2.1 + 1)) fun (z13 : Int) =>
 g3 (z12, z13, ()) w11)
 (z (IntKind.wrap .i64 (s4.1 + 1)) fun (z14 : Int) =>
 R (ji z14) w5)
def H25 : Hints := ⟨[(2, 0, [(3, (.one (.int .i64))), (4, (.one (.int .i64)))])], [], [], []⟩
theorem S25_calls (p_0 : Int) (p_1a : OA) (p_1n p_1c : Nat) (p_2 p_3 : Int) (p_4a : OA) (p_4n p_4c : Nat) (w0 : World) (R : KR) (h : S25 p_0 p_1a p_1n p_1c p_2 p_3 p_4a p_4n p_4c w0 R) : Calls prog 25 #[.agg #[ji p_0, .slice p_1a p_1n p_1c, ji p_2, ji p_3, .slice p_4a p_4n p_4c]] w0 (ret R) :=
 vcFn_sound (H := H25) follows_ Tryz.func25 (Eq.mpr (by kernel_rfl) h)
def S55 (l_a : OA) (l_n l_c : Nat) (w0 : World) (R : KR) : Prop :=
 wr prog (Instr.makeSlice 26 (ji ((l_n : Nat) : Int)) (ji ((l_n : Nat) : Int))) oS w0 fun (x1 : Hd3) w2 =>
 wr prog (Builtin.copy_ #[26, 26] 3 #[jw x1, .slice l_a l_n l_c]) oI w2 fun (_x3 : Int) w4 =>
 R (jw x1) w4
def H55 : Hints := ⟨[], [], [], []⟩
theorem S55_calls (l_a : OA) (l_n l_c : Nat) (w0 : World) (R : KR) (h : S55 l_a l_n l_c w0 R) : Calls prog 55 #[.slice l_a l_n l_c] w0 (ret R) :=
 vcFn_sound (H := H55) follows_ Tryz.func55 (Eq.mpr (by kernel_rfl) h)
def S39 (s_a : OA) (s_n s_c : Nat) (w0 : World) (R : KR) : Prop :=
 rd prog (cmpS .eql 26 (.tmp 3) (.const (.slice none 0 0)) (.slice s_a s_n s_c) (.slice none 0 0)) oB w0 fun (x1 : Bool) =>
 br x1 (R (.slice none 0 0) w0)
 (wr prog (Instr.buildSlice 26 0 #[]) oS w0 fun (x2 : Hd3) w3 =>
 wr prog (Builtin.append_ #[26, 26] 26 #[.slice x2.1 x2.2.1 x2.2.2, .slice s_a s_n s_c]) oS w3 fun (x4 : Hd3) w5 =>
 R (jw x4) w5)
def H39 : Hints := ⟨[], [], [], []⟩
theorem S39_calls (s_a : OA) (s_n s_c : Nat) (w0 : World) (R : KR) (h : S39 s_a s_n s_c w0 R) : Calls prog 39 #[.slice s_a s_n s_c] w0 (ret R) :=
 vcFn_sound (H := H39) follows_ Tryz.func39 (Eq.mpr (by kernel_rfl) h)
def S26 (s_0a : OA) (s_0n s_0c : Nat) (s_1a : OA) (s_1n s_1c : Nat) (s_2a : OA) (s_2n s_2c : Nat) (p_0 : Int) (p_1a : OA) (p_1n p_1c : Nat) (p_2 p_3 : Int) (p_4a : OA) (p_4n p_4c : Nat) (lower_a : OA) (lower_n lower_c : Nat) (upper_a : OA) (upper_n upper_c : Nat) (w0 : World) (R : KR) : Prop :=
 wr prog (Instr.box 29 (.agg #[.slice s_0a s_0n s_0c, .slice s_1a s_1n s_1c, .slice s_2a s_2n s_2c])) oA w0 fun (x1 : Addr) w2 =>
 wr prog (Instr.box 35 (.agg #[ji p_0, .slice p_1a p_1n p_1c, ji p_2, ji p_3, .slice p_4a p_4n p_4c])) oA w2 fun (x3 : Addr) w4 =>
 rd prog (jL 3 x3) oI w4 fun (x5 : Int) =>
 br (x5 == 1) (rd prog (jL 33 (Addr.add x3 4)) oS w4 fun (x6 : Hd3) =>
 br (((x6.2.1 : Nat) : Int) == 0) (rd prog (jL 3 (Addr.add x3 2)) oI w4 fun (x7 : Int) =>
 br (x7 == 0) (rd prog (jL 2 (Addr.add x3 3)) oI w4 fun (x8 : Int) =>
 br (x8 == 0) (rd prog (jL 29 x1) aS w4 fun (x9 : TS) =>
 rd prog (jL 32 (Addr.add x3 1)) oS w4 fun (x10 : Hd3) =>
 call prog 53 [.agg #[jw x9.1, jw x9.2.1, jw x9.2.2.1], .slice lower_a lower_n lower_c, .slice upper_a upper_n upper_c, jw x10] (.one oB) w4 fun (x11 : Bool) w12 =>
 R (.bool x11) w12)
 (R (.bool false) w4))
 (R (.bool false) w4))
 (R (.bool false) w4))
 (br (x5 == 2) (rd prog (jL 33 (Addr.add x3 4)) oS w4 fun (x13 : Hd3) =>
 br (((x13.2.1 : Nat) : Int) == 0) (rd prog (jL 3 (Addr.add x3 2)) oI w4 fun (x14 : Int) =>
 br (x14 == 0) (rd prog (jL 2 (Addr.add x3 3)) oI w4 fun (x15 : Int) =>
 br (x15 == 0) (rd prog (jL 29 x1) aS w4 fun (x16 : TS) =>
 rd prog (jL 32 (Addr.add x3 1)) oS w4 fun (x17 : Hd3) =>
 call prog 54 [.agg #[jw x16.1, jw x16.2.1, jw x16.2.2.1], jw x17] (.one oB) w4 fun (x18 : Bool) w19 =>
 R (.bool x18) w19)
 (R (.bool false) w4))
 (R (.bool false) w4))
 (R (.bool false) w4))
 (br (x5 == 3) (rd prog (jL 33 (Addr.add x3 4)) oS w4 fun (x20 : Hd3) =>
 br (((x20.2.1 : Nat) : Int) != 2) (R (.bool false) w4)
 (rd prog (jL 32 (Addr.add x3 1)) oS w4 fun (x21 : Hd3) =>
 br (decide (((x21.2.1 : Nat) : Int) > 0)) (R (.bool false) w4)
 (rd prog (jL 3 (Addr.add x3 2)) oI w4 fun (x22 : Int) =>
 br (decide (x22 < 0)) (R (.bool false) w4)
 (rd prog (jL 3 (Addr.add x3 2)) oI w4 fun (x23 : Int) =>
 rd prog (jL 26 x1) oS w4 fun (x24 : Hd3) =>
 br (decide (x23 ≥ ((x24.2.1 : Nat) : Int))) (R (.bool false) w4)
 (rd prog (jL 2 (Addr.add x3 3)) oI w4 fun (x25 : Int) =>
 br (decide (x25 < 0)) (R (.bool false) w4)
 (rd prog (jL 2 (Addr.add x3 3)) oI w4 fun (x26 : Int) =>
 br (decide (x26 > 1000000000)) (R (.bool false) w4)
 (call prog 55 [.slice lower_a lower_n lower_c] (.one oS) w4 fun (x27 : Hd3) w28 =>
 call prog 55 [.slice upper_a upper_n upper_c] (.one oS) w28 fun (x29 : Hd3) w30 =>
 drw w30 fun w31 =>
 rd prog (jL 3 (Addr.add x3 2)) oI w31 fun (x32 : Int) =>
 rd prog (jL 3 (Addr.add x3 2)) oI w31 fun (x33 : Int) =>
 rdp prog (jI 26 x29 x33) oA fun (x34 : Addr) =>
 rd prog (jL 2 x34) oI w31 fun (x35 : Int) =>
 rd prog (jL 2 (Addr.add x3 3)) oI w31 fun (x36 : Int) =>
 z (if x36 < x35 then x36 else x35) fun (z37 : Int) =>
 rdp prog (jI 26 x29 x32) oA fun (x38 : Addr) =>
 wu prog (jS 2 x38 (ji z37)) w31 fun w39 =>
 drw w39 fun w40 =>
 rd prog (jL 3 (Addr.add x3 2)) oI w40 fun (x41 : Int) =>
 rd prog (jL 3 (Addr.add x3 2)) oI w40 fun (x42 : Int) =>
 rdp prog (jI 26 x27 x42) oA fun (x43 : Addr) =>
 rd prog (jL 2 x43) oI w40 fun (x44 : Int) =>
 rd prog (jL 2 (Addr.add x3 3)) oI w40 fun (x45 : Int) =>
 z (IntKind.wrap .i64 (x45 + 1)) fun (z46 : Int) =>
 z (if z46 > x44 then z46 else x44) fun (z47 : Int) =>
 rdp prog (jI 26 x27 x41) oA fun (x48 : Addr) =>
 wu prog (jS 2 x48 (ji z47)) w40 fun w49 =>
 drw w49 fun w50 => flEx fun F51 =>
 rd prog (jL 29 x1) aS w50 fun (x52 : TS) =>
 rd prog (jL 33 (Addr.add x3 4)) oS w50 fun (x53 : Hd3) =>
 rdp prog (jI 33 x53 0) oA fun (x54 : Addr) =>
 rd prog (jL 35 x54) aP w50 fun (x55 : TP) =>
 flc bel w50 (fun _w57 => True) (fun w56 =>
   call prog 26 [.agg #[jw x52.1, jw x52.2.1, jw x52.2.2.1], .agg #[ji x55.1, jw x55.2.1, ji x55.2.2.1, ji x55.2.2.2.1, jw x55.2.2.2.2.1], .slice lower_a lower_n lower_c, jw x29] (.one oB) w56 fun (x58 : Bool) w59 =>
 (bel w56 w59 ∧ F51 7 [.agg #[jw x52.1, jw x52.2.1, jw x52.2.2.1], .agg #[ji x55.1, jw x55.2.1, ji x55.2.2.1, ji x55.2.2.2.1, jw x55.2.2.2.2.1], .slice lower_a lower_n lower_c, jw x29] (.bool x58) w59))
  fun (x60 : Bool) =>
 br x60 (rd prog (jL 29 x1) aS w50 fun (x61 : TS) =>
 rd prog (jL 33 (Addr.add x3 4)) oS w50 fun (x62 : Hd3) =>
 rdp prog (jI 33 x62 1) oA fun (x63 : Addr) =>
 rd prog (jL 35 x63) aP w50 fun (x64 : TP) =>
 flend bel w50 (fun w66 => F51 7 [.agg #[jw x52.1, jw x52.2.1, jw x52.2.2.1], .agg #[ji x55.1, jw x55.2.1, ji x55.2.2.1, ji x55.2.2.2.1, jw x55.2.2.2.2.1], .slice lower_a lower_n lower_c, jw x29] (.bool x60) w66 ∧ True) fun w65 =>
 call prog 26 [.agg #[jw x61.1, jw x61.2.1, jw x61.2.2.1], .agg #[ji x64.1, jw x64.2.1, ji x64.2.2.1, ji x64.2.2.2.1, jw x64.2.2.2.2.1], jw x27, .slice upper_a upper_n upper_c] (.one oB) w65 fun (x67 : Bool) w68 =>
 R (.bool x67) w68)
 (flend bel w50 (fun w70 => F51 7 [.agg #[jw x52.1, jw x52.2.1, jw x52.2.2.1], .agg #[ji x55.1, jw x55.2.1, ji x55.2.2.1, ji x55.2.2.2.1, jw x55.2.2.2.2.1], .slice lower_a lower_n lower_c, jw x29] (.bool x60) w70 ∧ True) fun w69 =>
 R (.bool false) w69))))))))
 (R (.bool false) w4)))
def H26 : Hints := ⟨[], [(10, 11), (11, 12), (12, 16)], [], []⟩
theorem S26_calls (s_0a : OA) (s_0n s_0c : Nat) (s_1a : OA) (s_1n s_1c : Nat) (s_2a : OA) (s_2n s_2c : Nat) (p_0 : Int) (p_1a : OA) (p_1n p_1c : Nat) (p_2 p_3 : Int) (p_4a : OA) (p_4n p_4c : Nat) (lower_a : OA) (lower_n lower_c : Nat) (upper_a : OA) (upper_n upper_c : Nat) (w0 : World) (R : KR) (h : S26 s_0a s_0n s_0c s_1a s_1n s_1c s_2a s_2n s_2c p_0 p_1a p_1n p_1c p_2 p_3 p_4a p_4n p_4c lower_a lower_n lower_c upper_a upper_n upper_c w0 R) : Calls prog 26 #[.agg #[.slice s_0a s_0n s_0c, .slice s_1a s_1n s_1c, .slice s_2a s_2n s_2c], .agg #[ji p_0, .slice p_1a p_1n p_1c, ji p_2, ji p_3, .slice p_4a p_4n p_4c], .slice lower_a lower_n lower_c, .slice upper_a upper_n upper_c] w0 (ret R) :=
 vcFn_sound (H := H26) follows_ Tryz.func26 (Eq.mpr (by kernel_rfl) h)
def S11 (s_0a : OA) (s_0n s_0c : Nat) (s_1a : OA) (s_1n s_1c : Nat) (s_2a : OA) (s_2n s_2c : Nat) (p_0 : Int) (p_1a : OA) (p_1n p_1c : Nat) (p_2 p_3 : Int) (p_4a : OA) (p_4n p_4c : Nat) (w0 : World) (R : KR) : Prop :=
 wr prog (Instr.box 29 (.agg #[.slice s_0a s_0n s_0c, .slice s_1a s_1n s_1c, .slice s_2a s_2n s_2c])) oA w0 fun (x1 : Addr) w2 =>
 wr prog (Instr.box 35 (.agg #[ji p_0, .slice p_1a p_1n p_1c, ji p_2, ji p_3, .slice p_4a p_4n p_4c])) oA w2 fun (x3 : Addr) w4 =>
 rd prog (jL 29 x1) aS w4 fun (x5 : TS) =>
 call prog 14 [.agg #[jw x5.1, jw x5.2.1, jw x5.2.2.1]] (.one oI) w4 fun (x6 : Int) w7 =>
 br (x6 != 0) (R (.bool false) w7)
 (rd prog (jL 35 x3) aP w7 fun (x8 : TP) =>
 call prog 24 [.agg #[ji x8.1, jw x8.2.1, ji x8.2.2.1, ji x8.2.2.2.1, jw x8.2.2.2.2.1]] (.one oI) w7 fun (x9 : Int) w10 =>
 br (decide (x9 > 2000)) (R (.bool false) w10)
 (rd prog (jL 35 x3) aP w10 fun (x11 : TP) =>
 call prog 25 [.agg #[ji x11.1, jw x11.2.1, ji x11.2.2.1, ji x11.2.2.2.1, jw x11.2.2.2.2.1]] (.one oI) w10 fun (x12 : Int) w13 =>
 br (decide (x12 > 200)) (R (.bool false) w13)
 (drw w13 fun w14 => flEx fun F15 =>
 rd prog (jL 29 x1) aS w14 fun (x16 : TS) =>
 rd prog (jL 35 x3) aP w14 fun (x17 : TP) =>
 rd prog (jL 26 x1) oS w14 fun (x18 : Hd3) =>
 flc bel w14 (fun _w20 => True) (fun w19 =>
   wr prog (Instr.makeSlice 26 (ji ((x18.2.1 : Nat) : Int)) (ji ((x18.2.1 : Nat) : Int))) oS w19 fun (x21 : Hd3) w22 =>
 (bel w19 w22 ∧ F15 5 [] (jw x21) w22))
  fun (x23 : Hd3) =>
 rd prog (jL 26 x1) oS w14 fun (x24 : Hd3) =>
 flend bel w14 (fun w26 => F15 5 [] (jw x23) w26 ∧ True) fun w25 =>
 call prog 26 [.agg #[jw x16.1, jw x16.2.1, jw x16.2.2.1], .agg #[ji x17.1, jw x17.2.1, ji x17.2.2.1, ji x17.2.2.2.1, jw x17.2.2.2.2.1], jw x23, jw x24] (.one oB) w25 fun (x27 : Bool) w28 =>
 R (.bool x27) w28)))
def H11 : Hints := ⟨[], [(3, 8)], [], []⟩
theorem S11_calls (s_0a : OA) (s_0n s_0c : Nat) (s_1a : OA) (s_1n s_1c : Nat) (s_2a : OA) (s_2n s_2c : Nat) (p_0 : Int) (p_1a : OA) (p_1n p_1c : Nat) (p_2 p_3 : Int) (p_4a : OA) (p_4n p_4c : Nat) (w0 : World) (R : KR) (h : S11 s_0a s_0n s_0c s_1a s_1n s_1c s_2a s_2n s_2c p_0 p_1a p_1n p_1c p_2 p_3 p_4a p_4n p_4c w0 R) : Calls prog 11 #[.agg #[.slice s_0a s_0n s_0c, .slice s_1a s_1n s_1c, .slice s_2a s_2n s_2c], .agg #[ji p_0, .slice p_1a p_1n p_1c, ji p_2, ji p_3, .slice p_4a p_4n p_4c]] w0 (ret R) :=
 vcFn_sound (H := H11) follows_ Tryz.func11 (Eq.mpr (by kernel_rfl) h)
end Go.Proofs

/- Proofs as trees: few, Size, depth. -/



namespace Go.Proofs.YtajpdnphamomjaaGreat
open Go.RowKit Go.Q Go.Q.Num Go.V

abbrev CPr := Int × Hdr × Int × Int × Hdr × Unit
abbrev prc (x : CPr) : List Value := [.int .i64 x.1, .slice x.2.1.1 x.2.1.2.1 x.2.1.2.2, .int .i64 x.2.2.1, .int .i64 x.2.2.2.1, .slice x.2.2.2.2.1.1 x.2.2.2.2.1.2.1 x.2.2.2.2.1.2.2]
abbrev prv (x : CPr) : Value := .agg #[.int .i64 x.1, .slice x.2.1.1 x.2.1.2.1 x.2.1.2.2, .int .i64 x.2.2.1, .int .i64 x.2.2.2.1, .slice x.2.2.2.2.1.1 x.2.2.2.2.1.2.1 x.2.2.2.2.1.2.2]
theorem prc_len (x : CPr) : (prc x).length = 5 := rfl
theorem tyPrs : TyS Tryz.prog 33 35 (.agg #[.int .i64 0, .slice none 0 0, .int .i64 0, .int .i64 0, .slice none 0 0]) 5 72 := ⟨by kernel_rfl, by kernel_rfl⟩
theorem agPr : aggOf Tryz.prog 35 5 = true := by kernel_rfl
structure PN (α : Type) where
  kind : Int
  mul : List (Int × Int)
  var : Int
  bound : Int
  kids : List α
def PT : Nat → Type
  | 0 => Empty
  | n + 1 => PN (PT n)
def PrAt (w : World) : (n : Nat) → PT n → CPr → Prop
  | 0, _, _ => False
  | n + 1, p, x =>
    let q : PN (PT n) := p
    (x.1 = q.kind ∧ I64 q.kind) ∧ (Sl w x.2.1.1 x.2.1.2.1 x.2.1.2.2 2 (q.mul.flatMap encF) ∧ ∀ y ∈ q.mul, I64 y.1 ∧ I64 y.2) ∧ (x.2.2.1 = q.var ∧ I64 q.var) ∧ (x.2.2.2.1 = q.bound ∧ I64 q.bound) ∧ q.kids.length ≤ 3 ∧
      ∃ xs : List CPr, Sl w x.2.2.2.2.1.1 x.2.2.2.2.1.2.1 x.2.2.2.2.1.2.2 5 (xs.flatMap prc) ∧ xs.length = q.kids.length ∧ ∀ (i : Nat) (y : CPr) (k : PT n), xs[i]? = some y → q.kids[i]? = some k → PrAt w n k y
theorem PrAt.up {w w' : World} (hb : bel w w') : ∀ {n : Nat} {p : PT n} {x : CPr}, PrAt w n p x → PrAt w' n p x
  | 0, _, _, h => h
  | n + 1, p, x, h => by
    obtain ⟨h1, ⟨h2, h3⟩, h4, h5, h6, xs, h7, h8, h9⟩ := h
    exact ⟨h1, ⟨h2.kept hb, h3⟩, h4, h5, h6, xs, h7.kept hb, h8, fun i y k q1 q2 => PrAt.up hb (h9 i y k q1 q2)⟩
def szP : (n : Nat) → PT n → Nat
  | 0, _ => 0
  | n + 1, p => let q : PN (PT n) := p; 1 + (q.kids.map (szP n)).sum
def maxl (l : List Nat) : Nat := l.foldl max 0
def depP : (n : Nat) → PT n → Nat
  | 0, _ => 0
  | n + 1, p => let q : PN (PT n) := p; maxl (q.kids.map (depP n)) + 1
theorem maxl_le {B : Nat} {l : List Nat} (h : ∀ x ∈ l, x ≤ B) : maxl l ≤ B := by
  have key : ∀ (l : List Nat) (a : Nat), a ≤ B → (∀ x ∈ l, x ≤ B) → l.foldl max a ≤ B := by
    intro l
    induction l with
    | nil => intro a ha _; exact ha
    | cons x l ih => intro a ha h; exact ih _ (by have := h x (List.mem_cons_self ..); omega) fun y hy => h y (List.mem_cons_of_mem _ hy)
  exact key l 0 (Nat.zero_le _) h
theorem depP_le {w : World} : ∀ {n : Nat} {p : PT n} {x : CPr}, PrAt w n p x → depP n p ≤ n
  | 0, _, _, _ => Nat.le_refl _
  | n + 1, p, x, h => by
    obtain ⟨_, _, _, _, h6, xs, _, h8, h9⟩ := h
    have : maxl ((p : PN (PT n)).kids.map (depP n)) ≤ n := maxl_le fun y hy => by
      obtain ⟨k, hk, rfl⟩ := List.mem_map.1 hy
      obtain ⟨j, hj, rfl⟩ := List.mem_iff_getElem.1 hk
      exact depP_le (h9 j _ _ (List.getElem?_eq_getElem (by omega)) (List.getElem?_eq_getElem hj))
    show maxl ((p : PN (PT n)).kids.map (depP n)) + 1 ≤ n + 1
    omega
theorem sum_take {l : List Nat} {i x : Nat} (h : l[i]? = some x) : (l.take (i + 1)).sum = (l.take i).sum + x := by
  rw [List.take_add_one, h]; simp
theorem max_take {l : List Nat} {i x : Nat} (h : l[i]? = some x) : maxl (l.take (i + 1)) = max (maxl (l.take i)) x := by
  rw [List.take_add_one, h]; simp [maxl]
end Go.Proofs.YtajpdnphamomjaaGreat

/- Size and depth of proofs. -/

namespace Go.Proofs.YtajpdnphamomjaaGreat
open Go.RowKit Go.Q Go.Q.Num Go.V

theorem sz_part {w : World} {n : Nat} {p : PN (PT n)} {x : CPr} (_ : PrAt w (n + 1) p x) (hn : szP (n + 1) p ≤ 4 ^ 31) (i : Nat) : (((p.kids.map (szP n)).take i).sum) ≤ 4 ^ 31 := by
  have h2 : szP (n + 1) p = 1 + (p.kids.map (szP n)).sum := rfl
  have h3 : (p.kids.map (szP n)).sum = ((p.kids.map (szP n)).take i).sum + ((p.kids.map (szP n)).drop i).sum := by rw [← List.sum_append, List.take_append_drop]
  omega
theorem dep_part {w : World} {n : Nat} {p : PN (PT n)} {x : CPr} (h : PrAt w (n + 1) p x) (i : Nat) : maxl ((p.kids.map (depP n)).take i) ≤ n := by
  obtain ⟨_, _, _, _, h6, xs, _, h8, h9⟩ := h
  refine maxl_le fun y hy => ?_
  obtain ⟨k, hk, rfl⟩ := List.mem_map.1 (List.mem_of_mem_take hy)
  obtain ⟨j, hj, rfl⟩ := List.mem_iff_getElem.1 hk
  exact depP_le (h9 j _ _ (List.getElem?_eq_getElem (by omega)) (List.getElem?_eq_getElem hj))
theorem take_all {α : Type} {l : List α} {i : Nat} (h : l.length ≤ i) : l.take i = l := List.take_of_length_le h

set_option maxHeartbeats 1600000 in
theorem sz12 : ∀ (m : Nat) (p : PT m) (x : CPr) (w : World), szP m p ≤ 4 ^ 31 → PrAt w m p x →
    call Tryz.prog 24 [prv x] (.one (.one (.int .i64))) w (fun (n : Int) w' => n = (szP m p : Int) ∧ bel w w') := by
  intro m
  induction m with
  | zero => intro p; exact p.elim
  | succ m ih =>
    intro (p : PN (PT m)) x w hm hP
    obtain ⟨_, _, _, _, h6, xs, S5, hxl, hK⟩ := id hP
    have hxn : xs.length = x.2.2.2.2.1.2.1 := by have := S5.len; rw [flat_len prc_len] at this; omega
    refine call_of (S24_calls x.1 x.2.1.1 x.2.1.2.1 x.2.1.2.2 x.2.2.1 x.2.2.2.1 x.2.2.2.2.1.1 x.2.2.2.2.1.2.1 x.2.2.2.2.1.2.2 w _ ?_)
    unfold S24
    refine wr_box fun x1 w2 X h _ _ => ?_
    replace X : Box w2 x1 (prc x) := X
    refine loop_upA xs.length (fun i a w' => bel w2 w' ∧ a = 1 + (((p.kids.map (szP m)).take i).sum : Nat)) ⟨Below.refl _ _, by simp⟩ fun i a w7 hi ⟨hw, ha⟩ again hag _ => ?_
    have h7 := h.trans hw
    have hb1 := sz_part hP hm i
    have hb2 := sz_part hP hm (i + 1)
    refine rd_box (by kernel_rfl) (X.up hw) (i := 4) rfl rfl ?_
    refine br_dec (fun e4 => ?_) (fun e4 => ?_)
    · dsimp only at e4
      refine rd_box (by kernel_rfl) (X.up hw) (i := 4) rfl rfl ?_
      obtain ⟨y, hy⟩ : ∃ y, xs[i]? = some y := ⟨_, List.getElem?_eq_getElem (by omega)⟩
      obtain ⟨k, hk⟩ : ∃ k, p.kids[i]? = some k := ⟨_, List.getElem?_eq_getElem (by omega)⟩
      have hmap : (p.kids.map (szP m))[i]? = some (szP m k) := by rw [List.getElem?_map, hk]; rfl
      rw [sum_take hmap] at hb2
      refine at_agg tyPrs agPr prc_len (by omega) (S5.up h7) rfl hy rfl ?_
      refine call_mono (ih k y w7 (by omega) ((hK i y k hy hk).up h7)) ?_
      rintro (n : Int) w14 ⟨rfl, h14⟩
      refine z_i64 (by dsimp only; omega) ?_
      refine z_i64 (by dsimp only; omega) ?_
      refine hag _ _ (by omega) ⟨hw.trans h14, ?_⟩
      rw [sum_take hmap]; subst ha; omega
    · dsimp only at e4
      refine ⟨a, rfl, ?_, h7⟩
      rw [take_all (by simp; omega)] at ha
      rw [ha]
      show _ = ((1 + (p.kids.map (szP m)).sum : Nat) : Int)
      omega
set_option maxHeartbeats 1600000 in
theorem dep12 : ∀ (m : Nat) (p : PT m) (x : CPr) (w : World), m ≤ 1000 → PrAt w m p x →
    call Tryz.prog 25 [prv x] (.one (.one (.int .i64))) w (fun (n : Int) w' => n = (depP m p : Int) ∧ bel w w') := by
  intro m
  induction m with
  | zero => intro p; exact p.elim
  | succ m ih =>
    intro (p : PN (PT m)) x w hm hP
    obtain ⟨_, _, _, _, h6, xs, S5, hxl, hK⟩ := id hP
    have hxn : xs.length = x.2.2.2.2.1.2.1 := by have := S5.len; rw [flat_len prc_len] at this; omega
    refine call_of (S25_calls x.1 x.2.1.1 x.2.1.2.1 x.2.1.2.2 x.2.2.1 x.2.2.2.1 x.2.2.2.2.1.1 x.2.2.2.2.1.2.1 x.2.2.2.2.1.2.2 w _ ?_)
    unfold S25
    refine wr_box fun x1 w2 X h _ _ => ?_
    replace X : Box w2 x1 (prc x) := X
    refine loop_upA xs.length (fun i a w' => bel w2 w' ∧ a = ((maxl ((p.kids.map (depP m)).take i) : Nat) : Int)) ⟨Below.refl _ _, by simp [maxl]⟩ fun i a w7 hi ⟨hw, ha⟩ again hag _ => ?_
    have h7 := h.trans hw
    have hb1 := dep_part hP i
    have hb2 := dep_part hP (i + 1)
    refine rd_box (by kernel_rfl) (X.up hw) (i := 4) rfl rfl ?_
    refine br_dec (fun e4 => ?_) (fun e4 => ?_)
    · dsimp only at e4
      refine rd_box (by kernel_rfl) (X.up hw) (i := 4) rfl rfl ?_
      obtain ⟨y, hy⟩ : ∃ y, xs[i]? = some y := ⟨_, List.getElem?_eq_getElem (by omega)⟩
      obtain ⟨k, hk⟩ : ∃ k, p.kids[i]? = some k := ⟨_, List.getElem?_eq_getElem (by omega)⟩
      have hmap : (p.kids.map (depP m))[i]? = some (depP m k) := by rw [List.getElem?_map, hk]; rfl
      refine at_agg tyPrs agPr prc_len (by omega) (S5.up h7) rfl hy rfl ?_
      refine call_mono (ih k y w7 (by omega) ((hK i y k hy hk).up h7)) ?_
      rintro (n : Int) w14 ⟨rfl, h14⟩
      rw [max_take hmap] at hb2
      refine z_eq rfl ?_
      refine z_i64 (by dsimp only; omega) ?_
      refine hag _ _ (by omega) ⟨hw.trans h14, ?_⟩
      rw [max_take hmap]; subst ha; dsimp only; split <;> omega
    · dsimp only at e4
      refine z_i64 (by dsimp only; omega) ?_
      refine ⟨a + 1, rfl, ?_, h7⟩
      rw [take_all (by simp; omega)] at ha
      rw [ha]
      show _ = ((maxl (p.kids.map (depP m)) + 1 : Nat) : Int)
      omega
end Go.Proofs.YtajpdnphamomjaaGreat

/- right, of both. -/

namespace Go.Proofs.YtajpdnphamomjaaGreat
open Go.RowKit Go.Q Go.Q.Num Go.V

theorem own_some {w : World} {B : Nat} {e : TypeId} {a : Option Addr} {n c : Nat} {xs : List Int} (O : Own w B e 1 a n c (ints .i64 xs)) {j : Nat} (hj : j < xs.length) : ∃ ad, a = some ad := by
  obtain ⟨ad, h, _⟩ := O.sl.at' j (.int .i64 xs[j]) (by simp [ints, hj])
  exact ⟨ad, h⟩
theorem clone64 (s : Hdr) (xs : List Int) (w : World) (S : Sl w s.1 s.2.1 s.2.2 1 (ints .i64 xs)) (hn : s.2.1 ≤ 1000000) :
    call Tryz.prog 39 [.slice s.1 s.2.1 s.2.2] (.one (.one .slice)) w (fun (x : Hdr) w' => OwnI w' w.heap.size x xs ∧ bel w w') := by
  refine call_of (S39_calls s.1 s.2.1 s.2.2 w _ ?_)
  unfold S39
  have hl := S.int
  refine rd_nil tyI64 ?_
  obtain ⟨a, n, c⟩ := s
  dsimp only at hl hn S ⊢
  cases a with
  | none =>
    refine br_t rfl ?_
    have hn0 := (S.nil' rfl).1
    have : xs = [] := List.eq_nil_of_length_eq_zero (by omega)
    subst this
    exact ⟨((none, 0, 0) : Hdr), rfl, Own.nil _ _ _ _, bel.refl _⟩
  | some ad =>
    refine br_f rfl ?_
    refine wr_lit0 tyI64 fun b w3 O h3 _ _ => ?_
    refine wr_app tyI64 (O w.heap.size (Nat.le_refl _)) (S.up h3) h3.size rfl (by omega) (by clear S hl; induction xs with | nil => rfl | cons y ys ih => exact ih) (by omega) (by unfold maxLen; omega) fun a' c' w5 O5 hg _ _ => ?_
    refine ⟨((a', 0 + n, c') : Hdr), rfl, by simpa using O5, h3.grown hg fun k hk => ?_⟩
    have := (Own.lt (O w.heap.size (Nat.le_refl _)) k hk).1
    omega
theorem copiedF (s : Hdr) (xs : List Int) (w : World) (S : Sl w s.1 s.2.1 s.2.2 1 (ints .i64 xs)) (hn : s.2.1 ≤ 1000000) :
    call Tryz.prog 55 [.slice s.1 s.2.1 s.2.2] (.one (.one .slice)) w (fun (x : Hdr) w' => OwnI w' w.heap.size x xs ∧ bel w w') := by
  refine call_of (S55_calls s.1 s.2.1 s.2.2 w _ ?_)
  unfold S55
  have hl := S.int
  refine wr_make tyI64 s.2.1 rfl rfl (by omega) (by unfold maxLen; omega) fun ad w2 O h2 hb _ => ?_
  have O2 := O w.heap.size (Nat.le_refl _)
  refine wr_copy tyI64 O2 (S.up h2) (by clear S hl; induction xs with | nil => rfl | cons y ys ih => exact ih) fun w4 O4 hg _ => ?_
  have e : (ints .i64 xs).take s.2.1 ++ (madeCells (Value.int .i64 0).cells (s.2.1 * 1)).toList.drop s.2.1 = ints .i64 xs := by
    rw [List.take_of_length_le (by simp [ints]; omega), List.drop_of_length_le (by rw [Array.length_toList, size_madeCells]; omega), List.append_nil]
  rw [e] at O4
  exact ⟨((some ad, s.2.1, s.2.1) : Hdr), rfl, O4, h2.grown hg fun k hk => by have := (O2.lt k hk).1; omega⟩

def rightP (up : List Int) (T : List (List Int)) (rt : List Int) : (n : Nat) → PT n → List Int → List Int → Prop
  | 0, _, _, _ => False
  | n + 1, p, lo, hi =>
    let q : PN (PT n) := p
    (q.kind = 1 ∧ (q.var = 0 ∧ q.bound = 0 ∧ q.kids.length = 0) ∧ BndP up T rt lo hi q.mul) ∨
    (q.kind = 2 ∧ (q.var = 0 ∧ q.bound = 0 ∧ q.kids.length = 0) ∧ LatP up T rt q.mul) ∨
    (q.kind = 3 ∧ q.kids.length = 2 ∧ q.mul.length = 0 ∧ (0 ≤ q.var ∧ q.var < (up.length : Int)) ∧ (0 ≤ q.bound ∧ q.bound ≤ 1000000000) ∧
      (∀ a, q.kids[0]? = some a → rightP up T rt n a lo (hi.set q.var.toNat (min (hi.getD q.var.toNat 0) q.bound))) ∧ (∀ a, q.kids[1]? = some a → rightP up T rt n a (lo.set q.var.toNat (max (lo.getD q.var.toNat 0) (q.bound + 1))) hi))
section
variable {up : List Int} {T : List (List Int)} {rt : List Int} {n : Nat} {p : PN (PT n)} {lo hi : List Int}
theorem right_1 (hk : p.kind = 1) (hZ : p.var = 0 ∧ p.bound = 0 ∧ p.kids.length = 0) : rightP up T rt (n + 1) p lo hi ↔ BndP up T rt lo hi p.mul := by
  refine ⟨fun h => ?_, fun h => .inl ⟨hk, hZ, h⟩⟩
  rcases (h : _ ∨ _ ∨ _) with ⟨_, _, h⟩ | ⟨h1, _⟩ | ⟨h1, _⟩
  · exact h
  · have h1 : p.kind = 2 := h1; omega
  · have h1 : p.kind = 3 := h1; omega
theorem right_2 (hk : p.kind = 2) (hZ : p.var = 0 ∧ p.bound = 0 ∧ p.kids.length = 0) : rightP up T rt (n + 1) p lo hi ↔ LatP up T rt p.mul := by
  refine ⟨fun h => ?_, fun h => .inr (.inl ⟨hk, hZ, h⟩)⟩
  rcases (h : _ ∨ _ ∨ _) with ⟨h1, _⟩ | ⟨_, _, h⟩ | ⟨h1, _⟩
  · have h1 : p.kind = 1 := h1; omega
  · exact h
  · have h1 : p.kind = 3 := h1; omega
theorem right_no (hk : p.kind ≠ 3) (hZ : p.kind = 1 ∨ p.kind = 2 → ¬ (p.var = 0 ∧ p.bound = 0 ∧ p.kids.length = 0)) : ¬ rightP up T rt (n + 1) p lo hi := by
  intro h
  rcases (h : _ ∨ _ ∨ _) with ⟨h1, h2, _⟩ | ⟨h1, h2, _⟩ | ⟨h1, _⟩
  · exact hZ (.inl h1) h2
  · exact hZ (.inr h1) h2
  · exact hk h1
theorem right_3 (hk : p.kind = 3) : rightP up T rt (n + 1) p lo hi ↔ p.kids.length = 2 ∧ p.mul.length = 0 ∧ (0 ≤ p.var ∧ p.var < (up.length : Int)) ∧ (0 ≤ p.bound ∧ p.bound ≤ 1000000000) ∧
      (∀ a, p.kids[0]? = some a → rightP up T rt n a lo (hi.set p.var.toNat (min (hi.getD p.var.toNat 0) p.bound))) ∧ (∀ a, p.kids[1]? = some a → rightP up T rt n a (lo.set p.var.toNat (max (lo.getD p.var.toNat 0) (p.bound + 1))) hi) := by
  refine ⟨fun h => ?_, fun h => .inr (.inr ⟨hk, h⟩)⟩
  rcases (h : _ ∨ _ ∨ _) with ⟨h1, _⟩ | ⟨h1, _⟩ | ⟨_, h⟩
  · have h1 : p.kind = 1 := h1; omega
  · have h1 : p.kind = 2 := h1; omega
  · exact h
end
theorem iff_no {P : Prop} (h : ¬ P) : (false = true ↔ P) := ⟨(fun q => by cases q), fun q => absurd q h⟩
end Go.Proofs.YtajpdnphamomjaaGreat

/- Plain law: a right proof refutes all points; unit multipliers. -/


namespace Go.Proofs.YtajpdnphamomjaaGreat
open Go.RowKit Go.Q Go.Q.Num Go.V

theorem dotN_sm (r : List Int) (L : List (Int × Int)) : ∀ n, dotN r L n = sm (dotT r L) n
  | 0 => rfl
  | n + 1 => by show dotN r L n + dotT r L n = sm (dotT r L) n + dotT r L n; rw [dotN_sm r L n]
theorem dotI_sm (r xs : List Int) : ∀ n, ((dotI r xs n : Int) : Rat) = sm (fun k => ((dotJ r xs k : Int) : Rat)) n
  | 0 => rfl
  | n + 1 => by
    show ((dotI r xs n + dotJ r xs n : Int) : Rat) = sm (fun k => ((dotJ r xs k : Int) : Rat)) n + ((dotJ r xs n : Int) : Rat)
    rw [← dotI_sm r xs n]; exact Rat.intCast_add _ _

/-! ### points -/
structure Pt (T : List (List Int)) (rt lo hi xs : List Int) : Prop where
  llo : lo.length = xs.length
  lhi : hi.length = xs.length
  each : ∀ (k : Nat) a b x, lo[k]? = some a → hi[k]? = some b → xs[k]? = some x → a ≤ x ∧ x ≤ b
  rows : ∀ (i : Nat) r b, T[i]? = some r → rt[i]? = some b → dotI r xs xs.length = b
section
variable {up : List Int} {T : List (List Int)} {rt lo hi xs : List Int} {M : List (Int × Int)}
theorem comb_pt (hA : SysA up T rt) (hM : M.length = T.length) (hx : xs.length = up.length) (hr : ∀ (i : Nat) r b, T[i]? = some r → rt[i]? = some b → dotI r xs xs.length = b) :
    sm (fun k => colQ T M k * ((xs.getD k 0 : Int) : Rat)) up.length = rhsQ T rt M := by
  have h1 : sm (fun k => colQ T M k * ((xs.getD k 0 : Int) : Rat)) up.length = sm (fun k => sm (fun i => dotT (colI T k) M i * ((xs.getD k 0 : Int) : Rat)) T.length) up.length :=
    sm_congr fun k _ => by rw [sm_mul, ← dotN_sm]; rfl
  rw [h1, sm_comm (fun i k => dotT (colI T k) M i * ((xs.getD k 0 : Int) : Rat))]
  show _ = dotN rt M T.length
  rw [dotN_sm]
  refine sm_congr fun i hi => ?_
  obtain ⟨row, hrow⟩ : ∃ row, T[i]? = some row := ⟨_, List.getElem?_eq_getElem hi⟩
  obtain ⟨p, hp⟩ : ∃ p, M[i]? = some p := ⟨_, List.getElem?_eq_getElem (by omega)⟩
  obtain ⟨b, hb⟩ : ∃ b, rt[i]? = some b := ⟨_, List.getElem?_eq_getElem (by rw [hA.1]; exact hi)⟩
  have hl : row.length = up.length := hA.2 row (List.mem_of_getElem? hrow)
  rw [dotT_at hb hp, ← hr i row b hrow hb, hx, dotI_sm, Rat.mul_comm, ← sm_mul]
  refine sm_congr fun k hk => ?_
  obtain ⟨c, hc⟩ : ∃ c, row[k]? = some c := ⟨_, List.getElem?_eq_getElem (by omega)⟩
  obtain ⟨x, hx'⟩ : ∃ x, xs[k]? = some x := ⟨_, List.getElem?_eq_getElem (by omega)⟩
  rw [dotT_at (colI_get hrow hc) hp, List.getD_eq_getElem?_getD, hx']
  have : dotJ row xs k = c * x := by unfold dotJ; rw [hc, hx']
  rw [this, Rat.intCast_mul]
  show ratv p.1 p.2 * (c : Rat) * (x : Rat) = (c : Rat) * (x : Rat) * ratv p.1 p.2
  grind
theorem lowN_sm (T : List (List Int)) (M : List (Int × Int)) (lo hi : List Int) : ∀ n, lowN T M lo hi n = sm (fun k => colQ T M k * ((pickB (colQ T M k) lo hi k : Int) : Rat)) n
  | 0 => rfl
  | n + 1 => by
    show lowN T M lo hi n + _ = sm _ n + _
    rw [lowN_sm T M lo hi n]
theorem mul_mono {c : Rat} {x y : Int} (h : 0 ≤ c) (hxy : x ≤ y) : c * (x : Rat) ≤ c * (y : Rat) := Rat.mul_le_mul_of_nonneg_left (Rat.intCast_le_intCast.2 hxy) h
theorem mul_anti {c : Rat} {x y : Int} (h : c < 0) (hxy : x ≤ y) : c * (y : Rat) ≤ c * (x : Rat) := by
  have h1 : -c * (x : Rat) ≤ -c * (y : Rat) := mul_mono (by grind) hxy
  grind
theorem bnd_sound (h : BndP up T rt lo hi M) (hx : Pt T rt lo hi xs) : False := by
  obtain ⟨h1, h2, h3, h4, h5, h6⟩ := h
  obtain ⟨c1, c2, c3, c4, c5⟩ := combE_ok h1
  obtain ⟨_, _, _, hA⟩ := sysE_ok c1
  have hxl : xs.length = up.length := by rw [← hx.llo, h2]
  have hc := comb_pt hA c2 hxl hx.rows
  have get : ∀ k, k < up.length → ∃ a b x, lo[k]? = some a ∧ hi[k]? = some b ∧ xs[k]? = some x ∧ a ≤ x ∧ x ≤ b := fun k hk => by
    obtain ⟨a, ha⟩ : ∃ a, lo[k]? = some a := ⟨_, List.getElem?_eq_getElem (by omega)⟩
    obtain ⟨b, hb⟩ : ∃ b, hi[k]? = some b := ⟨_, List.getElem?_eq_getElem (by omega)⟩
    obtain ⟨x, hx'⟩ : ∃ x, xs[k]? = some x := ⟨_, List.getElem?_eq_getElem (by omega)⟩
    exact ⟨a, b, x, ha, hb, hx', hx.each k a b x ha hb hx'⟩
  have hlow : lowN T M lo hi up.length ≤ rhsQ T rt M := by
    rw [lowN_sm, ← hc]
    refine sm_le fun k hk => ?_
    obtain ⟨a, b, x, ha, hb, hx', hax, hxb⟩ := get k hk
    rw [pick_at ha hb, List.getD_eq_getElem?_getD, hx']
    show _ ≤ colQ T M k * (x : Rat)
    split
    · rename_i hn; exact mul_anti hn hxb
    · rename_i hn; exact mul_mono (by grind) hax
  have hhigh : rhsQ T rt M ≤ lowN T M hi lo up.length := by
    rw [lowN_sm, ← hc]
    refine sm_le fun k hk => ?_
    obtain ⟨a, b, x, ha, hb, hx', hax, hxb⟩ := get k hk
    rw [pick_at hb ha, List.getD_eq_getElem?_getD, hx']
    show colQ T M k * (x : Rat) ≤ _
    split
    · rename_i hn; exact mul_anti hn hax
    · rename_i hn; exact mul_mono (by grind) hxb
  rcases h6 with ⟨k, a, b, ha, hb, hab⟩ | h6 | h6
  · have hk : k < xs.length := by have := (List.getElem?_eq_some_iff.1 ha).1; have := hx.llo; omega
    obtain ⟨x, hx'⟩ : ∃ x, xs[k]? = some x := ⟨_, List.getElem?_eq_getElem hk⟩
    have := hx.each k a b x ha hb hx'
    omega
  · grind
  · grind
theorem sm_whole {f : Nat → Rat} : ∀ {n : Nat}, (∀ k, k < n → ∃ z : Int, f k = (z : Rat)) → ∃ z : Int, sm f n = (z : Rat)
  | 0, _ => ⟨0, rfl⟩
  | n + 1, h => by
    obtain ⟨a, ha⟩ := sm_whole (n := n) fun k hk => h k (by omega)
    obtain ⟨b, hb⟩ := h n (by omega)
    exact ⟨a + b, by show sm f n + f n = _; rw [ha, hb]; exact (Rat.intCast_add _ _).symm⟩
theorem den_one {q : Rat} (h : q.den = 1) : q = (q.num : Rat) := by
  apply Rat.ext
  · rfl
  · rw [h]; rfl
theorem lat_sound (h : LatP up T rt M) (hx : Pt T rt lo hi xs) (hl : xs.length = up.length) : False := by
  obtain ⟨h1, h2, h3⟩ := h
  obtain ⟨c1, c2, c3, c4, c5⟩ := combE_ok h1
  obtain ⟨_, _, _, hA⟩ := sysE_ok c1
  have hc := comb_pt hA c2 hl hx.rows
  obtain ⟨z, hz⟩ := sm_whole (n := up.length) (f := fun k => colQ T M k * ((xs.getD k 0 : Int) : Rat)) fun k hk => by
    have hd := h2 _ (List.mem_of_getElem? (cols_get (up := up) (T := T) (M := M) hk))
    have hd' : (colQ T M k).den = 1 := by
      have : (((colQ T M k).den : Nat) : Int) = 1 := hd
      omega
    refine ⟨(colQ T M k).num * xs.getD k 0, ?_⟩
    rw [Rat.intCast_mul, ← den_one hd']
  rw [hc] at hz
  refine h3 ?_
  rw [hz]; rfl
theorem right_sound : ∀ (n : Nat) (p : PT n) (lo hi : List Int), rightP up T rt n p lo hi → lo.length = up.length → hi.length = up.length → ¬ Pt T rt lo hi xs
  | 0, _, _, _, h, _, _, _ => h
  | n + 1, p, lo, hi, h, hl, hh, hx => by
    have hxl : xs.length = up.length := by rw [← hx.llo, hl]
    rcases (h : _ ∨ _ ∨ _) with ⟨_, _, h⟩ | ⟨_, _, h⟩ | ⟨_, h1, _, h3, h4, h5, h6⟩
    · exact bnd_sound h hx
    · exact lat_sound h hx hxl
    · generalize hq : (p : PN (PT n)) = q at *
      have h1 : q.kids.length = 2 := h1
      have h3 : 0 ≤ q.var ∧ q.var < (up.length : Int) := h3
      obtain ⟨k, hk⟩ : ∃ k : Nat, q.var = (k : Int) := ⟨q.var.toNat, by omega⟩
      have hkk : q.var.toNat = k := by omega
      have h5 : ∀ a, q.kids[0]? = some a → rightP up T rt n a lo (hi.set q.var.toNat (min (hi.getD q.var.toNat 0) q.bound)) := h5
      have h6 : ∀ a, q.kids[1]? = some a → rightP up T rt n a (lo.set q.var.toNat (max (lo.getD q.var.toNat 0) (q.bound + 1))) hi := h6
      rw [hkk] at h5 h6
      have hku : k < up.length := by omega
      obtain ⟨a, ha⟩ : ∃ a, lo[k]? = some a := ⟨_, List.getElem?_eq_getElem (by omega)⟩
      obtain ⟨b, hb⟩ : ∃ b, hi[k]? = some b := ⟨_, List.getElem?_eq_getElem (by omega)⟩
      obtain ⟨x, hx'⟩ : ∃ x, xs[k]? = some x := ⟨_, List.getElem?_eq_getElem (by omega)⟩
      obtain ⟨hax, hxb⟩ := hx.each k a b x ha hb hx'
      rcases Int.lt_or_le q.bound x with hlt | hle
      · refine right_sound n _ _ _ (h6 q.kids[1] (by simp)) (by simp [hl]) hh ⟨by simp [hx.llo], hx.lhi, fun j a' b' y ha' hb' hy => ?_, hx.rows⟩
        by_cases hj : j = k
        · subst hj
          rw [List.getElem?_set_self (by omega), List.getD_eq_getElem?_getD, ha] at ha'
          rw [hb] at hb'; rw [hx'] at hy
          cases hb'; cases hy
          have : max a (q.bound + 1) = a' := by simpa using ha'
          omega
        · rw [List.getElem?_set_ne (fun e => hj e.symm)] at ha'
          exact hx.each j a' b' y ha' hb' hy
      · refine right_sound n _ _ _ (h5 q.kids[0] (by simp)) hl (by simp [hh]) ⟨hx.llo, by simp [hx.lhi], fun j a' b' y ha' hb' hy => ?_, hx.rows⟩
        by_cases hj : j = k
        · subst hj
          rw [List.getElem?_set_self (by omega), List.getD_eq_getElem?_getD, hb] at hb'
          rw [ha] at ha'; rw [hx'] at hy
          cases ha'; cases hy
          have : min b q.bound = b' := by simpa using hb'
          omega
        · rw [List.getElem?_set_ne (fun e => hj e.symm)] at hb'
          exact hx.each j a' b' y ha' hb' hy
end

theorem divInt_1 (n : Int) : Rat.divInt n 1 = n := by
  show Rat.divInt n ((1 : Nat) : Int) = n
  rw [Rat.divInt_ofNat, Rat.mkRat_one]

/-! ### unit multipliers -/
def unitM (m i : Nat) (p : Int × Int) : List (Int × Int) := (List.replicate m (0, 1)).set i p
theorem unitM_len (m i : Nat) (p : Int × Int) : (unitM m i p).length = m := by simp [unitM]
theorem unitM_self {m i : Nat} (h : i < m) (p : Int × Int) : (unitM m i p)[i]? = some p := by unfold unitM; rw [List.getElem?_set_self (by simpa using h)]
theorem unitM_ne {m i k : Nat} (h : k < m) (hk : k ≠ i) (p : Int × Int) : (unitM m i p)[k]? = some (0, 1) := by unfold unitM; rw [List.getElem?_set_ne (fun e => hk e.symm), List.getElem?_replicate, if_pos h]
theorem dotN_unit {r : List Int} {m i : Nat} {p : Int × Int} {c : Int} (hr : r.length = m) (hc : r[i]? = some c) : dotN r (unitM m i p) m = ratv p.1 p.2 * (c : Rat) := by
  have hi : i < m := by have := (List.getElem?_eq_some_iff.1 hc).1; omega
  have key : ∀ k, k ≤ m → dotN r (unitM m i p) k = if i < k then ratv p.1 p.2 * (c : Rat) else 0 := by
    intro k
    induction k with
    | zero => intro _; rfl
    | succ k ih =>
      intro hk
      show dotN r (unitM m i p) k + dotT r (unitM m i p) k = _
      rw [ih (by omega)]
      by_cases h : k = i
      · subst h
        rw [if_neg (by omega), if_pos (by omega), dotT_at hc (unitM_self hi p), Rat.zero_add]
      · obtain ⟨d, hd⟩ : ∃ d, r[k]? = some d := ⟨_, List.getElem?_eq_getElem (by omega)⟩
        rw [dotT_p0 hd (unitM_ne (by omega) h p) rfl, Rat.add_zero]
        by_cases h2 : i < k
        · rw [if_pos h2, if_pos (by omega)]
        · rw [if_neg h2, if_neg (by omega)]
  rw [key m (Nat.le_refl _), if_pos hi]
section
variable {up : List Int} {T : List (List Int)} {rt lo hi : List Int} {i : Nat} {row : List Int} {b : Int} {p : Int × Int}
theorem colQ_unit (hrow : T[i]? = some row) {k : Nat} {c : Int} (hc : row[k]? = some c) : colQ T (unitM T.length i p) k = ratv p.1 p.2 * (c : Rat) :=
  dotN_unit (colI_len T k) (colI_get hrow hc)
theorem rhsQ_unit (hA : SysA up T rt) (hb : rt[i]? = some b) : rhsQ T rt (unitM T.length i p) = ratv p.1 p.2 * (b : Rat) := dotN_unit hA.1 hb
theorem unit_frac (hp : IsFrac p.1 p.2) {m : Nat} : ∀ q ∈ unitM m i p, IsFrac q.1 q.2 := by
  intro q hq
  obtain ⟨k, hk⟩ := List.getElem?_of_mem hq
  by_cases h : k = i
  · subst h
    have hkm : k < m := by have := (List.getElem?_eq_some_iff.1 hk).1; simpa [unitM] using this
    rw [unitM_self hkm] at hk; cases hk; exact hp
  · have hkm : k < m := by have := (List.getElem?_eq_some_iff.1 hk).1; simpa [unitM] using this
    rw [unitM_ne hkm h] at hk; cases hk
    exact ⟨by decide, by decide, by decide, by decide, by decide⟩
theorem fits_int {z : Int} (h : -1000000000 ≤ z ∧ z ≤ 1000000000) : Fits (z : Rat) := ⟨by rw [show ((z : Rat)).num = z from rfl]; omega, by rw [show ((z : Rat)).num = z from rfl]; omega, by rw [show ((z : Rat)).den = 1 from rfl]; omega⟩
def minI (r lo hi : List Int) : Nat → Int
  | 0 => 0
  | k + 1 => minI r lo hi k + min (r.getD k 0 * lo.getD k 0) (r.getD k 0 * hi.getD k 0)
def maxI (r lo hi : List Int) : Nat → Int
  | 0 => 0
  | k + 1 => maxI r lo hi k + max (r.getD k 0 * lo.getD k 0) (r.getD k 0 * hi.getD k 0)
theorem low_unit (hrow : T[i]? = some row) (hlo : lo.length = row.length) (hhi : hi.length = row.length) (hle : ∀ (k : Nat) a b, lo[k]? = some a → hi[k]? = some b → a ≤ b) : ∀ n, n ≤ row.length → lowN T (unitM T.length i (1, 1)) lo hi n = ((minI row lo hi n : Int) : Rat) ∧ lowN T (unitM T.length i (1, 1)) hi lo n = ((maxI row lo hi n : Int) : Rat)
  | 0, _ => ⟨rfl, rfl⟩
  | n + 1, hn => by
    obtain ⟨h1, h2⟩ := low_unit hrow hlo hhi hle n (by omega)
    obtain ⟨c, hc⟩ : ∃ c, row[n]? = some c := ⟨_, List.getElem?_eq_getElem (by omega)⟩
    obtain ⟨a, ha⟩ : ∃ a, lo[n]? = some a := ⟨_, List.getElem?_eq_getElem (by omega)⟩
    obtain ⟨b, hb⟩ : ∃ b, hi[n]? = some b := ⟨_, List.getElem?_eq_getElem (by omega)⟩
    have hab := hle n a b ha hb
    have hq : colQ T (unitM T.length i (1, 1)) n = (c : Rat) := by rw [colQ_unit hrow hc, ratv_one]; exact Rat.one_mul _
    have hneg : (c : Rat) < 0 ↔ c < 0 := by rw [← Rat.intCast_lt_intCast]; exact Iff.rfl
    have g1 : row.getD n 0 = c := by rw [List.getD_eq_getElem?_getD, hc]; rfl
    have g2 : lo.getD n 0 = a := by rw [List.getD_eq_getElem?_getD, ha]; rfl
    have g3 : hi.getD n 0 = b := by rw [List.getD_eq_getElem?_getD, hb]; rfl
    constructor
    · show lowN T (unitM T.length i (1, 1)) lo hi n + colQ T (unitM T.length i (1, 1)) n * ((pickB (colQ T (unitM T.length i (1, 1)) n) lo hi n : Int) : Rat) = ((minI row lo hi n + min (row.getD n 0 * lo.getD n 0) (row.getD n 0 * hi.getD n 0) : Int) : Rat)
      rw [h1, hq, pick_at ha hb, g1, g2, g3, Rat.intCast_add, ← Rat.intCast_mul]
      congr 2
      by_cases hn : c < 0
      · rw [if_pos (hneg.2 hn)]
        have := Int.mul_le_mul_of_nonpos_left (by omega : c ≤ 0) hab
        omega
      · rw [if_neg (fun q => hn (hneg.1 q))]
        have := Int.mul_le_mul_of_nonneg_left hab (by omega : 0 ≤ c)
        omega
    · show lowN T (unitM T.length i (1, 1)) hi lo n + colQ T (unitM T.length i (1, 1)) n * ((pickB (colQ T (unitM T.length i (1, 1)) n) hi lo n : Int) : Rat) = ((maxI row lo hi n + max (row.getD n 0 * lo.getD n 0) (row.getD n 0 * hi.getD n 0) : Int) : Rat)
      rw [h2, hq, pick_at hb ha, g1, g2, g3, Rat.intCast_add, ← Rat.intCast_mul]
      congr 2
      by_cases hn : c < 0
      · rw [if_pos (hneg.2 hn)]
        have := Int.mul_le_mul_of_nonpos_left (by omega : c ≤ 0) hab
        omega
      · rw [if_neg (fun q => hn (hneg.1 q))]
        have := Int.mul_le_mul_of_nonneg_left hab (by omega : 0 ≤ c)
        omega
theorem unit_comb (hok : sysE up T rt = 0) (hrow : T[i]? = some row) (hb : rt[i]? = some b) : combE up T rt (unitM T.length i (1, 1)) = 0 := by
  obtain ⟨_, _, hR, hA⟩ := sysE_ok hok
  have hl := hA.2 row (List.mem_of_getElem? hrow)
  refine combE_0 hok (unitM_len _ _ _) (unit_frac ⟨by decide, by decide, by decide, by decide, by decide⟩) ⟨fun k hk => ?_, ?_⟩
  · obtain ⟨c, hc⟩ : ∃ c, row[k]? = some c := ⟨_, List.getElem?_eq_getElem (by omega)⟩
    rw [colQ_unit hrow hc, ratv_one]
    have := hR.2.2 row (List.mem_of_getElem? hrow) c (List.mem_of_getElem? hc)
    rw [show ((1 : Int) : Rat) = 1 from rfl, Rat.one_mul]
    exact fits_int (by omega)
  · rw [rhsQ_unit hA hb, ratv_one, show ((1 : Int) : Rat) = 1 from rfl, Rat.one_mul]
    exact fits_int (hR.2.1 b (List.mem_of_getElem? hb))
theorem unit_bnd (hok : sysE up T rt = 0) (hrow : T[i]? = some row) (hb : rt[i]? = some b) (hlo : lo.length = up.length) (hhi : hi.length = up.length) (hle : ∀ (k : Nat) a b, lo[k]? = some a → hi[k]? = some b → a ≤ b)
    (w1 : ∀ x ∈ lo, Win x) (w2 : ∀ x ∈ hi, Win x) (h : b < minI row lo hi up.length ∨ maxI row lo hi up.length < b) : BndP up T rt lo hi (unitM T.length i (1, 1)) := by
  obtain ⟨_, _, hR, hA⟩ := sysE_ok hok
  have hl := hA.2 row (List.mem_of_getElem? hrow)
  obtain ⟨e1, e2⟩ := low_unit hrow (by omega) (by omega) hle up.length (by omega)
  refine ⟨unit_comb hok hrow hb, hlo, hhi, w1, w2, .inr ?_⟩
  rw [e1, e2, rhsQ_unit hA hb, ratv_one, show ((1 : Int) : Rat) = 1 from rfl, Rat.one_mul]
  rcases h with h | h
  · exact .inl (Rat.intCast_lt_intCast.2 h)
  · exact .inr (Rat.intCast_lt_intCast.2 h)
theorem unit_lat (hok : sysE up T rt = 0) (hrow : T[i]? = some row) (hb : rt[i]? = some b) {g : Int} (hg : 1 < g) (hg2 : g ≤ 1000000) (hd : ∀ c ∈ row, g ∣ c) (hn : ¬ g ∣ b) : LatP up T rt (unitM T.length i (1, g)) := by
  obtain ⟨_, _, hR, hA⟩ := sysE_ok hok
  have hl := hA.2 row (List.mem_of_getElem? hrow)
  have hf : IsFrac 1 g := ⟨by omega, by omega, by omega, by omega, by simp⟩
  have hr : ratv 1 g = Rat.divInt 1 g := ratv_div hf
  have col : ∀ k c, row[k]? = some c → ∃ z : Int, c = g * z ∧ colQ T (unitM T.length i (1, g)) k = (z : Rat) := fun k c hc => by
    obtain ⟨z, hz⟩ := hd c (List.mem_of_getElem? hc)
    refine ⟨z, hz, ?_⟩
    rw [colQ_unit hrow hc, hr, hz, Rat.intCast_mul]
    show Rat.divInt 1 g * ((g : Rat) * (z : Rat)) = z
    rw [← Rat.mul_assoc]
    have : Rat.divInt 1 g * (g : Rat) = 1 := by
      rw [← divInt_1 g, Rat.divInt_mul_divInt, Int.one_mul, Int.mul_one, Rat.divInt_self' (by omega)]
    rw [this, Rat.one_mul]
  have rhs : rhsQ T rt (unitM T.length i (1, g)) = Rat.divInt b g := by
    rw [rhsQ_unit hA hb, hr, ← divInt_1 b, Rat.divInt_mul_divInt, Int.one_mul, Int.mul_one]
  have hbr := hR.2.1 b (List.mem_of_getElem? hb)
  refine ⟨combE_0 hok (unitM_len _ _ _) (unit_frac hf) ⟨fun k hk => ?_, ?_⟩, fun q hq => ?_, ?_⟩
  · obtain ⟨c, hc⟩ : ∃ c, row[k]? = some c := ⟨_, List.getElem?_eq_getElem (by omega)⟩
    obtain ⟨z, hz, e⟩ := col k c hc
    rw [e]
    have := hR.2.2 row (List.mem_of_getElem? hrow) c (List.mem_of_getElem? hc)
    refine fits_int ?_
    have h1 : z.natAbs ≤ c.natAbs := by
      rw [hz, Int.natAbs_mul]
      exact Nat.le_mul_of_pos_left _ (by omega)
    omega
  · rw [rhs]
    exact (Bd.div (N := 1000000000) (D := 1000000) (by omega) (by omega) (by omega)).fits (by omega) (by omega)
  · obtain ⟨k, hk⟩ := List.getElem?_of_mem hq
    have hk' : k < up.length := by have := (List.getElem?_eq_some_iff.1 hk).1; rwa [cols_len] at this
    rw [cols_get hk'] at hk
    cases hk
    obtain ⟨c, hc⟩ : ∃ c, row[k]? = some c := ⟨_, List.getElem?_eq_getElem (by omega)⟩
    obtain ⟨z, _, e⟩ := col k c hc
    show (((colQ T _ k).den : Nat) : Int) = 1
    rw [e]; rfl
  · rw [rhs]
    intro h1
    have h1' : (Rat.divInt b g).den = 1 := by omega
    have h2 := den_one h1'
    have h3 : Rat.divInt b g * (g : Rat) = (b : Rat) := by
      rw [← divInt_1 g, Rat.divInt_mul_divInt, Int.mul_one, ← divInt_1 b, Rat.divInt_eq_divInt_iff (by omega) (by omega)]; grind
    rw [h2, ← Rat.intCast_mul] at h3
    have h4 := Rat.intCast_inj.1 h3
    exact hn ⟨_, by rw [← h4, Int.mul_comm]⟩
end
end Go.Proofs.YtajpdnphamomjaaGreat

/- The conditions of functions, printed by our tool; each is checked against the code by the kernel. -/



namespace Go.Proofs
open Go Go.V Go.RowKit
open Tryz (prog)
set_option maxRecDepth 100000
def S38 (s_0a : OA) (s_0n s_0c : Nat) (s_1a : OA) (s_1n s_1c : Nat) (s_2a : OA) (s_2n s_2c : Nat) (row_ f_0 f_1 : Int) (w0 : World) (R : KR) : Prop :=
 wr prog (Instr.box 29 (.agg #[.slice s_0a s_0n s_0c, .slice s_1a s_1n s_1c, .slice s_2a s_2n s_2c])) oA w0 fun (x1 : Addr) w2 =>
 wr prog (Instr.box 60 (.agg #[ji f_0, ji f_1])) oA w2 fun (x3 : Addr) w4 =>
 rd prog (jL 27 (Addr.add x1 1)) oS w4 fun (x5 : Hd3) =>
 wr prog (Instr.makeSlice 32 (ji ((x5.2.1 : Nat) : Int)) (ji ((x5.2.1 : Nat) : Int))) oS w4 fun (x6 : Hd3) w7 =>
 loop (T := (Int × Unit)) (0, ()) w7 fun (g8 : Int × Unit → World → Prop) (s9 : Int × Unit) w10 => ∀ _ : NV,
 br (decide (s9.1 < ((x6.2.1 : Nat) : Int))) (rdp prog (jI 32 x6 s9.1) oA fun (x11 : Addr) =>
 wu prog (jS 60 x11 (.agg #[ji 0, ji 1])) w10 fun w12 =>
 z (IntKind.wrap .i64 (s9.1 + 1)) fun (z13 : Int) =>
 g8 (z13, ()) w12)
 (rd prog (jL 60 x3) aF w10 fun (x14 : TF) =>
 rdp prog (jI 32 x6 row_) oA fun (x15 : Addr) =>
 wu prog (jS 60 x15 (.agg #[ji x14.1, ji x14.2.1])) w10 fun w16 =>
 R (jw x6) w16)
def H38 : Hints := ⟨[(2, 0, [(15, (.one (.int .i64)))])], [], [], []⟩
theorem S38_calls (s_0a : OA) (s_0n s_0c : Nat) (s_1a : OA) (s_1n s_1c : Nat) (s_2a : OA) (s_2n s_2c : Nat) (row_ f_0 f_1 : Int) (w0 : World) (R : KR) (h : S38 s_0a s_0n s_0c s_1a s_1n s_1c s_2a s_2n s_2c row_ f_0 f_1 w0 R) : Calls prog 38 #[.agg #[.slice s_0a s_0n s_0c, .slice s_1a s_1n s_1c, .slice s_2a s_2n s_2c], ji row_, .agg #[ji f_0, ji f_1]] w0 (ret R) :=
 vcFn_sound (H := H38) follows_ Tryz.func38 (Eq.mpr (by kernel_rfl) h)
def S19 (s_0a : OA) (s_0n s_0c : Nat) (s_1a : OA) (s_1n s_1c : Nat) (s_2a : OA) (s_2n s_2c : Nat) (w0 : World) (R : KR) : Prop :=
 wr prog (Instr.box 29 (.agg #[.slice s_0a s_0n s_0c, .slice s_1a s_1n s_1c, .slice s_2a s_2n s_2c])) oA w0 fun (x1 : Addr) w2 =>
 wr prog (Instr.alloc 35 true (.tuple #[])) oA w2 fun (x3 : Addr) w4 =>
 rd prog (jL 27 (Addr.add x1 1)) oS w4 fun (x5 : Hd3) =>
 loop (T := (Int × Unit)) (0, ()) w4 fun (g6 : Int × Unit → World → Prop) (s7 : Int × Unit) w8 => ∀ _ : NV,
 br (decide (s7.1 < ((x5.2.1 : Nat) : Int))) (join (T := Unit) (fun (_s10 : Unit) w11 => ∀ _ : NV,
 z (IntKind.wrap .i64 (s7.1 + 1)) fun (z12 : Int) =>
 g6 (z12, ()) w11)
  fun (K9 : Unit → World → Prop) =>
 rdp prog (jI 27 x5 s7.1) oA fun (x13 : Addr) =>
 rd prog (jL 26 x13) oS w8 fun (x14 : Hd3) =>
 loop (T := TF) (0, 0, ()) w8 fun (g15 : TF → World → Prop) (s16 : TF) w17 => ∀ _ : NV,
 br (decide (s16.2.1 < ((x14.2.1 : Nat) : Int))) (rdp prog (jI 26 x14 s16.2.1) oA fun (x18 : Addr) =>
 rd prog (jL 2 x18) oI w17 fun (x19 : Int) =>
 z (IntKind.wrap .i64 (0 - x19)) fun (z20 : Int) =>
 z (if z20 > x19 then z20 else x19) fun (z21 : Int) =>
 loop (T := TF) (s16.1, z21, ()) w17 fun (g22 : TF → World → Prop) (s23 : TF) w24 => ∀ _ : NV,
 br (s23.2.1 == 0) (z (IntKind.wrap .i64 (s16.2.1 + 1)) fun (z25 : Int) =>
 g15 (s23.1, z25, ()) w24)
 (drw w24 fun w26 =>
 rdp prog (cmpS .rem 2 (.tmp 31) (.tmp 32) (ji s23.1) (ji s23.2.1)) oI fun (x27 : Int) =>
 g22 (s23.2.1, x27, ()) w26))
 (br (decide (s16.1 > 1)) (rd prog (jL 26 (Addr.add x1 2)) oS w17 fun (x28 : Hd3) =>
 rdp prog (jI 26 x28 s7.1) oA fun (x29 : Addr) =>
 rd prog (jL 2 x29) oI w17 fun (x30 : Int) =>
 rdp prog (cmpS .rem 2 (.tmp 45) (.tmp 46) (ji x30) (ji s16.1)) oI fun (x31 : Int) =>
 br (x31 != 0) (rd prog (jL 29 x1) aS w17 fun (x32 : TS) =>
 call prog 38 [.agg #[jw x32.1, jw x32.2.1, jw x32.2.2.1], ji s7.1, .agg #[ji 1, ji s16.1]] (.one oS) w17 fun (x33 : Hd3) w34 =>
 wu prog (jS 35 x3 (.agg #[ji 2, jw x33, ji 0, ji 0, .slice none 0 0])) w34 fun w35 =>
 rd prog (loadVar 35 x3) aP w35 fun (x36 : TP) =>
 R (.tuple #[.agg #[ji x36.1, jw x36.2.1, ji x36.2.2.1, ji x36.2.2.2.1, jw x36.2.2.2.2.1], .bool true]) w35)
 (K9 (()) w17))
 (K9 (()) w17)))
 (wu prog (jS 35 x3 (.agg #[ji 0, .slice none 0 0, ji 0, ji 0, .slice none 0 0])) w8 fun w37 =>
 rd prog (loadVar 35 x3) aP w37 fun (x38 : TP) =>
 R (.tuple #[.agg #[ji x38.1, jw x38.2.1, ji x38.2.2.1, ji x38.2.2.2.1, jw x38.2.2.2.2.1], .bool false]) w37)
def H19 : Hints := ⟨[(2, 0, [(14, (.one (.int .i64)))]), (2, 2, [(6, (.one (.int .i64))), (21, (.one (.int .i64)))]), (2, 4, [(9, (.one (.int .i64))), (10, (.one (.int .i64)))]), (1, 1, [])], [(9, 0)], [], []⟩
theorem S19_calls (s_0a : OA) (s_0n s_0c : Nat) (s_1a : OA) (s_1n s_1c : Nat) (s_2a : OA) (s_2n s_2c : Nat) (w0 : World) (R : KR) (h : S19 s_0a s_0n s_0c s_1a s_1n s_1c s_2a s_2n s_2c w0 R) : Calls prog 19 #[.agg #[.slice s_0a s_0n s_0c, .slice s_1a s_1n s_1c, .slice s_2a s_2n s_2c]] w0 (ret R) :=
 vcFn_sound (H := H19) follows_ Tryz.func19 (Eq.mpr (by kernel_rfl) h)
def S20 (s_0a : OA) (s_0n s_0c : Nat) (s_1a : OA) (s_1n s_1c : Nat) (s_2a : OA) (s_2n s_2c : Nat) (w0 : World) (R : KR) : Prop :=
 wr prog (Instr.box 29 (.agg #[.slice s_0a s_0n s_0c, .slice s_1a s_1n s_1c, .slice s_2a s_2n s_2c])) oA w0 fun (x1 : Addr) w2 =>
 rd prog (jL 26 x1) oS w2 fun (x3 : Hd3) =>
 loop (T := TF) (1, 0, ()) w2 fun (g4 : TF → World → Prop) (s5 : TF) w6 => ∀ _ : NV,
 br (decide (s5.2.1 < ((x3.2.1 : Nat) : Int))) (rdp prog (jI 26 x3 s5.2.1) oA fun (x7 : Addr) =>
 rd prog (jL 2 x7) oI w6 fun (x8 : Int) =>
 z (IntKind.wrap .i64 (x8 + 1)) fun (z9 : Int) =>
 br (decide (z9 > 500)) (R (.tuple #[ji 0, .bool false]) w6)
 (z (IntKind.wrap .i64 (x8 + 1)) fun (z10 : Int) =>
 z (IntKind.wrap .i64 (s5.1 * z10)) fun (z11 : Int) =>
 br (decide (z11 > 500)) (R (.tuple #[ji 0, .bool false]) w6)
 (z (IntKind.wrap .i64 (s5.2.1 + 1)) fun (z12 : Int) =>
 g4 (z11, z12, ()) w6)))
 (R (.tuple #[ji s5.1, .bool true]) w6)
def H20 : Hints := ⟨[(2, 0, [(4, (.one (.int .i64))), (10, (.one (.int .i64)))])], [], [], []⟩
theorem S20_calls (s_0a : OA) (s_0n s_0c : Nat) (s_1a : OA) (s_1n s_1c : Nat) (s_2a : OA) (s_2n s_2c : Nat) (w0 : World) (R : KR) (h : S20 s_0a s_0n s_0c s_1a s_1n s_1c s_2a s_2n s_2c w0 R) : Calls prog 20 #[.agg #[.slice s_0a s_0n s_0c, .slice s_1a s_1n s_1c, .slice s_2a s_2n s_2c]] w0 (ret R) :=
 vcFn_sound (H := H20) follows_ Tryz.func20 (Eq.mpr (by kernel_rfl) h)
def S21 (x_ lower_a : OA) (lower_n lower_c : Nat) (upper_a : OA) (upper_n upper_c : Nat) (w0 : World) (R : KR) : Prop :=
 wr prog (Instr.alloc 35 true (.tuple #[])) oA w0 fun (x1 : Addr) w2 =>
 nn x_ fun (a3 : Addr) =>
 rd prog (jL 27 (Addr.add a3 1)) oS w2 fun (x4 : Hd3) =>
 loop (T := (Int × Unit)) (0, ()) w2 fun (g5 : Int × Unit → World → Prop) (s6 : Int × Unit) w7 => ∀ _ : NV,
 br (decide (s6.1 < ((x4.2.1 : Nat) : Int))) (rdp prog (jI 27 x4 s6.1) oA fun (x8 : Addr) =>
 rd prog (jL 26 x8) oS w7 fun (x9 : Hd3) =>
 loop (T := (Int × Int × Int × Unit)) (0, 0, 0, ()) w7 fun (g10 : Int × Int × Int × Unit → World → Prop) (s11 : Int × Int × Int × Unit) w12 => ∀ _ : NV,
 br (decide (s11.2.2.1 < ((x9.2.1 : Nat) : Int))) (rdp prog (jI 26 x9 s11.2.2.1) oA fun (x13 : Addr) =>
 rd prog (jL 2 x13) oI w12 fun (x14 : Int) =>
 drw w12 fun w15 =>
 rdp prog (Instr.indexAt 26 (.slice lower_a lower_n lower_c) (ji s11.2.2.1)) oA fun (x16 : Addr) =>
 rd prog (jL 2 x16) oI w15 fun (x17 : Int) =>
 z (IntKind.wrap .i64 (x14 * x17)) fun (z18 : Int) =>
 rdp prog (Instr.indexAt 26 (.slice upper_a upper_n upper_c) (ji s11.2.2.1)) oA fun (x19 : Addr) =>
 rd prog (jL 2 x19) oI w15 fun (x20 : Int) =>
 z (IntKind.wrap .i64 (x14 * x20)) fun (z21 : Int) =>
 z (if z21 < z18 then z21 else z18) fun (z22 : Int) =>
 z (IntKind.wrap .i64 (s11.1 + z22)) fun (z23 : Int) =>
 rdp prog (Instr.indexAt 26 (.slice lower_a lower_n lower_c) (ji s11.2.2.1)) oA fun (x24 : Addr) =>
 rd prog (jL 2 x24) oI w15 fun (x25 : Int) =>
 z (IntKind.wrap .i64 (x14 * x25)) fun (z26 : Int) =>
 rdp prog (Instr.indexAt 26 (.slice upper_a upper_n upper_c) (ji s11.2.2.1)) oA fun (x27 : Addr) =>
 rd prog (jL 2 x27) oI w15 fun (x28 : Int) =>
 z (IntKind.wrap .i64 (x14 * x28)) fun (z29 : Int) =>
 z (if z29 > z26 then z29 else z26) fun (z30 : Int) =>
 z (IntKind.wrap .i64 (s11.2.1 + z30)) fun (z31 : Int) =>
 z (IntKind.wrap .i64 (s11.2.2.1 + 1)) fun (z32 : Int) =>
 g10 (z23, z31, z32, ()) w15)
 (nn x_ fun (a33 : Addr) =>
 rd prog (jL 26 (Addr.add a33 2)) oS w12 fun (x34 : Hd3) =>
 rdp prog (jI 26 x34 s6.1) oA fun (x35 : Addr) =>
 rd prog (jL 2 x35) oI w12 fun (x36 : Int) =>
 br (decide (s11.1 > x36)) (nn x_ fun (a37 : Addr) =>
 rd prog (jL 29 a37) aS w12 fun (x38 : TS) =>
 call prog 38 [.agg #[jw x38.1, jw x38.2.1, jw x38.2.2.1], ji s6.1, .agg #[ji 1, ji 1]] (.one oS) w12 fun (x39 : Hd3) w40 =>
 wu prog (jS 35 x1 (.agg #[ji 1, jw x39, ji 0, ji 0, .slice none 0 0])) w40 fun w41 =>
 rd prog (loadVar 35 x1) aP w41 fun (x42 : TP) =>
 R (.tuple #[.slice none 0 0, .agg #[ji x42.1, jw x42.2.1, ji x42.2.2.1, ji x42.2.2.2.1, jw x42.2.2.2.2.1], ji 12]) w41)
 (nn x_ fun (a43 : Addr) =>
 rd prog (jL 26 (Addr.add a43 2)) oS w12 fun (x44 : Hd3) =>
 rdp prog (jI 26 x44 s6.1) oA fun (x45 : Addr) =>
 rd prog (jL 2 x45) oI w12 fun (x46 : Int) =>
 br (decide (s11.2.1 < x46)) (nn x_ fun (a47 : Addr) =>
 rd prog (jL 29 a47) aS w12 fun (x48 : TS) =>
 call prog 38 [.agg #[jw x48.1, jw x48.2.1, jw x48.2.2.1], ji s6.1, .agg #[ji 1, ji 1]] (.one oS) w12 fun (x49 : Hd3) w50 =>
 wu prog (jS 35 x1 (.agg #[ji 1, jw x49, ji 0, ji 0, .slice none 0 0])) w50 fun w51 =>
 rd prog (loadVar 35 x1) aP w51 fun (x52 : TP) =>
 R (.tuple #[.slice none 0 0, .agg #[ji x52.1, jw x52.2.1, ji x52.2.2.1, ji x52.2.2.2.1, jw x52.2.2.2.2.1], ji 12]) w51)
 (z (IntKind.wrap .i64 (s6.1 + 1)) fun (z53 : Int) =>
 g5 (z53, ()) w12))))
 (loop (T := TF) ((-1), 0, ()) w7 fun (g54 : TF → World → Prop) (s55 : TF) w56 => ∀ _ : NV,
 br (decide (s55.2.1 < ((lower_n : Nat) : Int))) (join (T := (Int × Unit)) (fun (s58 : Int × Unit) w59 => ∀ _ : NV,
 z (IntKind.wrap .i64 (s55.2.1 + 1)) fun (z60 : Int) =>
 g54 (s58.1, z60, ()) w59)
  fun (K57 : Int × Unit → World → Prop) =>
 drw w56 fun w61 =>
 rdp prog (Instr.indexAt 26 (.slice upper_a upper_n upper_c) (ji s55.2.1)) oA fun (x62 : Addr) =>
 rd prog (jL 2 x62) oI w61 fun (x63 : Int) =>
 rdp prog (Instr.indexAt 26 (.slice lower_a lower_n lower_c) (ji s55.2.1)) oA fun (x64 : Addr) =>
 rd prog (jL 2 x64) oI w61 fun (x65 : Int) =>
 br (decide (x63 > x65)) (br (decide (s55.1 < 0)) (K57 (s55.2.1, ()) w61)
 (rdp prog (Instr.indexAt 26 (.slice upper_a upper_n upper_c) (ji s55.2.1)) oA fun (x66 : Addr) =>
 rd prog (jL 2 x66) oI w61 fun (x67 : Int) =>
 rdp prog (Instr.indexAt 26 (.slice lower_a lower_n lower_c) (ji s55.2.1)) oA fun (x68 : Addr) =>
 rd prog (jL 2 x68) oI w61 fun (x69 : Int) =>
 z (IntKind.wrap .i64 (x67 - x69)) fun (z70 : Int) =>
 rdp prog (Instr.indexAt 26 (.slice upper_a upper_n upper_c) (ji s55.1)) oA fun (x71 : Addr) =>
 rd prog (jL 2 x71) oI w61 fun (x72 : Int) =>
 rdp prog (Instr.indexAt 26 (.slice lower_a lower_n lower_c) (ji s55.1)) oA fun (x73 : Addr) =>
 rd prog (jL 2 x73) oI w61 fun (x74 : Int) =>
 z (IntKind.wrap .i64 (x72 - x74)) fun (z75 : Int) =>
 br (decide (z70 > z75)) (K57 (s55.2.1, ()) w61)
 (K57 (s55.1, ()) w61)))
 (K57 (s55.1, ()) w61))
 (br (decide (s55.1 < 0)) (call prog 39 [.slice lower_a lower_n lower_c] (.one oS) w56 fun (x76 : Hd3) w77 =>
 wu prog (jS 35 x1 (.agg #[ji 0, .slice none 0 0, ji 0, ji 0, .slice none 0 0])) w77 fun w78 =>
 rd prog (loadVar 35 x1) aP w78 fun (x79 : TP) =>
 R (.tuple #[jw x76, .agg #[ji x79.1, jw x79.2.1, ji x79.2.2.1, ji x79.2.2.2.1, jw x79.2.2.2.2.1], ji 0]) w78)
 (drw w56 fun w80 =>
 rdp prog (Instr.indexAt 26 (.slice lower_a lower_n lower_c) (ji s55.1)) oA fun (x81 : Addr) =>
 rd prog (jL 2 x81) oI w80 fun (x82 : Int) =>
 rdp prog (Instr.indexAt 26 (.slice upper_a upper_n upper_c) (ji s55.1)) oA fun (x83 : Addr) =>
 rd prog (jL 2 x83) oI w80 fun (x84 : Int) =>
 rdp prog (Instr.indexAt 26 (.slice lower_a lower_n lower_c) (ji s55.1)) oA fun (x85 : Addr) =>
 rd prog (jL 2 x85) oI w80 fun (x86 : Int) =>
 z (IntKind.wrap .i64 (x84 - x86)) fun (z87 : Int) =>
 rdp prog (cmpS .quo 2 (.tmp 159) (.const (ji 2)) (ji z87) (ji 2)) oI fun (x88 : Int) =>
 z (IntKind.wrap .i64 (x82 + x88)) fun (z89 : Int) =>
 call prog 40 [.pointer x_, .slice lower_a lower_n lower_c, .slice upper_a upper_n upper_c, ji s55.1, ji z89, (.func (.func 21) #[.pointer x_] #[])] (.many [oS, aP, oI]) w80 fun (x90 : (Hd3 × (TP) × Int × Unit)) w91 =>
 wu prog (jS 35 x1 (.agg #[ji x90.2.1.1, jw x90.2.1.2.1, ji x90.2.1.2.2.1, ji x90.2.1.2.2.2.1, jw x90.2.1.2.2.2.2.1])) w91 fun w92 =>
 rd prog (loadVar 35 x1) aP w92 fun (x93 : TP) =>
 R (.tuple #[jw x90.1, .agg #[ji x93.1, jw x93.2.1, ji x93.2.2.1, ji x93.2.2.2.1, jw x93.2.2.2.2.1], ji x90.2.2.1]) w92)))
def H21 : Hints := ⟨[(2, 0, [(23, (.one (.int .i64)))]), (2, 2, [(11, (.one (.int .i64))), (12, (.one (.int .i64))), (30, (.one (.int .i64)))]), (2, 4, [(15, (.one (.int .i64))), (99, (.one (.int .i64)))]), (1, 5, [(15, (.one (.int .i64)))])], [(8, 31), (17, 31), (22, 21)], [], []⟩
theorem S21_calls (x_ lower_a : OA) (lower_n lower_c : Nat) (upper_a : OA) (upper_n upper_c : Nat) (w0 : World) (R : KR) (h : S21 x_ lower_a lower_n lower_c upper_a upper_n upper_c w0 R) : Calls prog 21 #[.pointer x_, .slice lower_a lower_n lower_c, .slice upper_a upper_n upper_c] w0 (ret R) :=
 vcFn_sound (H := H21) follows_ Tryz.func21 (Eq.mpr (by kernel_rfl) h)
def S40h (_x_ lower_a : OA) (lower_n lower_c : Nat) (upper_a : OA) (upper_n upper_c : Nat) (k_ bound_ : Int) (fst5_0 : Addr) (w0 : World) (R : KR) : Prop :=
 wr prog (Instr.alloc 35 true (.tuple #[])) oA w0 fun (x1 : Addr) w2 =>
 call prog 39 [.slice lower_a lower_n lower_c] (.one oS) w2 fun (x3 : Hd3) w4 =>
 call prog 39 [.slice upper_a upper_n upper_c] (.one oS) w4 fun (x5 : Hd3) w6 =>
 z (IntKind.wrap .i64 (bound_ + 1)) fun (z7 : Int) =>
 rdp prog (jI 26 x5 k_) oA fun (x8 : Addr) =>
 wu prog (jS 2 x8 (ji bound_)) w6 fun w9 =>
 rdp prog (jI 26 x3 k_) oA fun (x10 : Addr) =>
 wu prog (jS 2 x10 (ji z7)) w9 fun w11 =>
 call prog 21 [jp fst5_0, .slice lower_a lower_n lower_c, jw x5] (.many [oS, aP, oI]) w11 fun (x12 : (Hd3 × (TP) × Int × Unit)) w13 =>
 wr prog (Instr.alloc 35 true (.tuple #[])) oA w13 fun (x14 : Addr) w15 =>
 wu prog (jS 35 x14 (.agg #[ji x12.2.1.1, jw x12.2.1.2.1, ji x12.2.1.2.2.1, ji x12.2.1.2.2.2.1, jw x12.2.1.2.2.2.2.1])) w15 fun w16 =>
 br (x12.2.2.1 != 12) (drw w16 fun w17 =>
 rd prog (jL 35 x14) aP w17 fun (x18 : TP) =>
 wu prog (jS 35 x1 (.agg #[ji x18.1, jw x18.2.1, ji x18.2.2.1, ji x18.2.2.2.1, jw x18.2.2.2.2.1])) w17 fun w19 =>
 rd prog (loadVar 35 x1) aP w19 fun (x20 : TP) =>
 R (.tuple #[jw x12.1, .agg #[ji x20.1, jw x20.2.1, ji x20.2.2.1, ji x20.2.2.2.1, jw x20.2.2.2.2.1], ji x12.2.2.1]) w19)
 (call prog 21 [jp fst5_0, jw x3, .slice upper_a upper_n upper_c] (.many [oS, aP, oI]) w16 fun (x21 : (Hd3 × (TP) × Int × Unit)) w22 =>
 wr prog (Instr.alloc 35 true (.tuple #[])) oA w22 fun (x23 : Addr) w24 =>
 wu prog (jS 35 x23 (.agg #[ji x21.2.1.1, jw x21.2.1.2.1, ji x21.2.1.2.2.1, ji x21.2.1.2.2.2.1, jw x21.2.1.2.2.2.2.1])) w24 fun w25 =>
 br (x21.2.2.1 != 12) (drw w25 fun w26 =>
 rd prog (jL 35 x23) aP w26 fun (x27 : TP) =>
 wu prog (jS 35 x1 (.agg #[ji x27.1, jw x27.2.1, ji x27.2.2.1, ji x27.2.2.2.1, jw x27.2.2.2.2.1])) w26 fun w28 =>
 rd prog (loadVar 35 x1) aP w28 fun (x29 : TP) =>
 R (.tuple #[jw x21.1, .agg #[ji x29.1, jw x29.2.1, ji x29.2.2.1, ji x29.2.2.2.1, jw x29.2.2.2.2.1], ji x21.2.2.1]) w28)
 (drw w25 fun w30 => flEx fun F31 =>
 rd prog (jL 35 x14) aP w30 fun (x32 : TP) =>
 rd prog (jL 35 x23) aP w30 fun (x33 : TP) =>
 flc bel w30 (fun _w35 => True) (fun w34 =>
   wr prog (Instr.buildSlice 33 2 #[(0, (.agg #[ji x32.1, jw x32.2.1, ji x32.2.2.1, ji x32.2.2.2.1, jw x32.2.2.2.2.1])), (1, (.agg #[ji x33.1, jw x33.2.1, ji x33.2.2.1, ji x33.2.2.2.1, jw x33.2.2.2.2.1]))]) oS w34 fun (x36 : Hd3) w37 =>
 (bel w34 w37 ∧ F31 4 [.agg #[ji x32.1, jw x32.2.1, ji x32.2.2.1, ji x32.2.2.2.1, jw x32.2.2.2.2.1], .agg #[ji x33.1, jw x33.2.1, ji x33.2.2.1, ji x33.2.2.2.1, jw x33.2.2.2.2.1]] (jw x36) w37))
  fun (x38 : Hd3) =>
 flend bel w30 (fun w40 => F31 4 [.agg #[ji x32.1, jw x32.2.1, ji x32.2.2.1, ji x32.2.2.2.1, jw x32.2.2.2.2.1], .agg #[ji x33.1, jw x33.2.1, ji x33.2.2.1, ji x33.2.2.2.1, jw x33.2.2.2.2.1]] (jw x38) w40 ∧ True) fun w39 =>
 wu prog (jS 35 x1 (.agg #[ji 3, .slice none 0 0, ji k_, ji bound_, jw x38])) w39 fun w41 =>
 rd prog (loadVar 35 x1) aP w41 fun (x42 : TP) =>
 R (.tuple #[.slice none 0 0, .agg #[ji x42.1, jw x42.2.1, ji x42.2.2.1, ji x42.2.2.2.1, jw x42.2.2.2.2.1], ji 12]) w41))
def H40h : Hints := ⟨[], [(5, 4), (8, 4), (9, 7)], [], []⟩
theorem S40h_calls (x_ lower_a : OA) (lower_n lower_c : Nat) (upper_a : OA) (upper_n upper_c : Nat) (k_ bound_ : Int) (fst5_0 : Addr) (w0 : World) (R : KR) (h : S40h x_ lower_a lower_n lower_c upper_a upper_n upper_c k_ bound_ fst5_0 w0 R) : Calls prog 40 #[.pointer x_, .slice lower_a lower_n lower_c, .slice upper_a upper_n upper_c, ji k_, ji bound_, (.func (.func 21) #[jp fst5_0] #[])] w0 (ret R) :=
 vcFn_sound (H := H40h) follows_ Tryz.func40 (Eq.mpr (by kernel_rfl) h)
end Go.Proofs

/- unit, lattice, points. -/



namespace Go.Proofs.YtajpdnphamomjaaGreat
open Go.RowKit Go.Q Go.Q.Num Go.V

theorem unit_fill (m i : Nat) : i ≤ m → ∀ p : Int × Int, (List.replicate i ((0, 1) : Int × Int) ++ List.replicate (m - i) (0, 0)).set i p = if i < m then List.replicate i ((0, 1) : Int × Int) ++ (p :: List.replicate (m - (i + 1)) (0, 0)) else List.replicate i ((0, 1) : Int × Int) ++ List.replicate (m - i) (0, 0) := by
  intro hi p
  rw [List.set_append_right _ _ (by simp)]
  simp only [List.length_replicate, Nat.sub_self]
  split
  · rename_i h
    obtain ⟨k, hk⟩ : ∃ k, m - i = k + 1 := ⟨m - i - 1, by omega⟩
    rw [hk, List.replicate_succ, List.set_cons_zero, show m - (i + 1) = k by omega]
  · rw [show m - i = 0 by omega]; rfl
theorem unit_next (m i : Nat) (h : i < m) : (List.replicate i ((0, 1) : Int × Int) ++ List.replicate (m - i) (0, 0)).set i (0, 1) = List.replicate (i + 1) ((0, 1) : Int × Int) ++ List.replicate (m - (i + 1)) (0, 0) := by
  rw [unit_fill m i (by omega), if_pos h, List.replicate_succ' (n := i)]; simp

theorem unitF (u r b : Hdr) (up : List Int) (T : List (List Int)) (rt : List Int) (j : Nat) (n d : Int) (w : World) (H : Sys w u r b up T rt) (hj : j < T.length) (hT : T.length ≤ 1000) :
    call Tryz.prog 38 [sysv u r b, .int .i64 (j : Int), .agg #[.int .i64 n, .int .i64 d]] (.one (.one .slice)) w (fun (x : Hdr) w' => Sl w' x.1 x.2.1 x.2.2 2 ((unitM T.length j (n, d)).flatMap encF) ∧ Fr w x.1 ∧ bel w w') := by
  refine call_of (S38_calls u.1 u.2.1 u.2.2 r.1 r.2.1 r.2.2 b.1 b.2.1 b.2.2 j n d w _ ?_)
  unfold S38
  have hrl := H.r.len
  refine wr_box fun x1 w2 X1 h2 _ _ => ?_
  refine wr_box fun x3 w4 X3 h4 _ _ => ?_
  replace X1 : Box w4 x1 (sysc u r b) := Box.up (show Box w2 x1 (sysc u r b) from X1) h4
  replace X3 : Box w4 x3 [.int .i64 n, .int .i64 d] := X3
  have h := h2.trans h4
  clear h2 h4
  refine rd_box (by kernel_rfl) X1 rfl rfl ?_
  refine wr_make tyFr r.2.1 rfl rfl (by omega) (by unfold maxLen; omega) fun ad w7 O h7 hb7 _ => ?_
  have O7 := O w4.heap.size (Nat.le_refl _)
  have em := made_flat (enc := encF) encF_len (by omega) ((0, 0) : Int × Int) (Value.agg #[Value.int .i64 0, Value.int .i64 0]).cells rfl r.2.1
  rw [em] at O7
  have hx3 := X3.lt
  have hne : some x3.block ≠ some ad.block := by intro e; injection e; omega
  have had : w.heap.size ≤ ad.block := by rw [hb7]; exact h.size
  replace X3 := X3.up h7
  replace h := h.trans h7
  refine loop_up r.2.1 (fun i w' => Own w' w4.heap.size 60 2 (some ad) r.2.1 r.2.1 ((List.replicate i ((0, 1) : Int × Int) ++ List.replicate (T.length - i) (0, 0)).flatMap encF) ∧ Box w' x3 [.int .i64 n, .int .i64 d] ∧ bel w w') ⟨by rw [hrl]; simpa using O7, X3, h⟩ ?_
  rintro i w8 hi ⟨O8, X3, h⟩ again hag _
  refine br_dec (fun e => ?_) (fun e => ?_)
  · dsimp only at e
    have hi' : i < T.length := by omega
    refine set_agg tyFr encF_len O8 rfl (by simp; omega) (p := ((0, 1) : Int × Int)) rfl (by omega) rfl fun w9 O9 hg _ => ?_
    rw [unit_next _ _ hi'] at O9
    refine z_i64 (by omega) ?_
    exact hag _ (by omega) ⟨O9, X3.grown hg hne, h.grownAt hg had⟩
  · dsimp only at e
    have hi' : i = T.length := by omega
    rw [hi', Nat.sub_self, List.replicate_zero, List.append_nil] at O8
    refine rd_boxN X3 (by kernel_rfl) rfl ?_
    refine set_agg tyFr encF_len O8 rfl (by simpa using hj) (p := (n, d)) rfl (by omega) rfl fun w9 O9 hg _ => ?_
    exact ⟨((some ad, r.2.1, r.2.1) : Hdr), rfl, O9.sl, fun a q => by cases q; exact had, h.grownAt hg had⟩

theorem i64_1 : I64 1 := ⟨by decide, by decide⟩
theorem i64_0 : I64 0 := ⟨by decide, by decide⟩
abbrev zprv : CPr := (0, (none, 0, 0), 0, 0, (none, 0, 0), ())
abbrev lfv (k : Int) (h : Hdr) : CPr := (k, h, 0, 0, (none, 0, 0), ())
abbrev Hi (B : Nat) (h : Hdr) : Prop := ∀ ad, h.1 = some ad → B ≤ ad.block
def PrB (w : World) (B : Nat) : (n : Nat) → PT n → CPr → Prop
  | 0, _, _ => False
  | n + 1, p, x =>
    let q : PN (PT n) := p
    (x.1 = q.kind ∧ I64 q.kind) ∧ (Sl w x.2.1.1 x.2.1.2.1 x.2.1.2.2 2 (q.mul.flatMap encF) ∧ (∀ y ∈ q.mul, I64 y.1 ∧ I64 y.2) ∧ Hi B x.2.1) ∧ (x.2.2.1 = q.var ∧ I64 q.var) ∧ (x.2.2.2.1 = q.bound ∧ I64 q.bound) ∧ q.kids.length ≤ 3 ∧ Hi B x.2.2.2.2.1 ∧
      ∃ xs : List CPr, Sl w x.2.2.2.2.1.1 x.2.2.2.2.1.2.1 x.2.2.2.2.1.2.2 5 (xs.flatMap prc) ∧ xs.length = q.kids.length ∧ ∀ (i : Nat) (y : CPr) (k : PT n), xs[i]? = some y → q.kids[i]? = some k → PrB w B n k y
theorem PrB.at {w : World} {B : Nat} : ∀ {n : Nat} {p : PT n} {x : CPr}, PrB w B n p x → PrAt w n p x
  | 0, _, _, h => h
  | n + 1, p, x, h => by
    obtain ⟨h1, ⟨h2, h3, _⟩, h4, h5, h6, _, xs, h7, h8, h9⟩ := h
    exact ⟨h1, ⟨h2, h3⟩, h4, h5, h6, xs, h7, h8, fun i y k q1 q2 => (h9 i y k q1 q2).at⟩
theorem PrB.grown {w w' : World} {B : Nat} {o : Option Nat} (hg : w.grownBy w' o) (ho : ∀ k, o = some k → k < B) : ∀ {n : Nat} {p : PT n} {x : CPr}, PrB w B n p x → PrB w' B n p x
  | 0, _, _, h => h
  | n + 1, p, x, h => by
    obtain ⟨h1, ⟨h2, h3, hb⟩, h4, h5, h6, hk, xs, h7, h8, h9⟩ := h
    exact ⟨h1, ⟨h2.grown hg fun ad ha _ e => by have := hb ad ha; have := ho _ e.symm; omega, h3, hb⟩, h4, h5, h6, hk, xs, h7.grown hg fun ad ha _ e => by have := hk ad ha; have := ho _ e.symm; omega, h8, fun i y k q1 q2 => PrB.grown hg ho (h9 i y k q1 q2)⟩
theorem PrB.up {w w' : World} {B : Nat} (hb : bel w w') {n : Nat} {p : PT n} {x : CPr} (h : PrB w B n p x) : PrB w' B n p x := h.grown (grown_of_bel hb none) (fun k q => by cases q)
theorem PrB.mono {w : World} {B B' : Nat} (hB : B' ≤ B) : ∀ {n : Nat} {p : PT n} {x : CPr}, PrB w B n p x → PrB w B' n p x
  | 0, _, _, h => h
  | n + 1, p, x, h => by
    obtain ⟨h1, ⟨h2, h3, hb⟩, h4, h5, h6, hk, xs, h7, h8, h9⟩ := h
    exact ⟨h1, ⟨h2, h3, fun ad ha => Nat.le_trans hB (hb ad ha)⟩, h4, h5, h6, fun ad ha => Nat.le_trans hB (hk ad ha), xs, h7, h8, fun i y k q1 q2 => PrB.mono hB (h9 i y k q1 q2)⟩
theorem leafB {w : World} {B : Nat} (n : Nat) (kind : Int) (hk : I64 kind) {h : Hdr} {M : List (Int × Int)} (S : Sl w h.1 h.2.1 h.2.2 2 (M.flatMap encF)) (hI : ∀ y ∈ M, I64 y.1 ∧ I64 y.2) (hB : Hi B h) :
    PrB w B (n + 1) (⟨kind, M, 0, 0, []⟩ : PN (PT n)) (kind, h, 0, 0, (none, 0, 0), ()) :=
  ⟨⟨rfl, hk⟩, ⟨S, hI, hB⟩, ⟨rfl, i64_0⟩, ⟨rfl, i64_0⟩, Nat.zero_le _, fun ad ha => (by cases ha), [], Sl.nil _ _, rfl, fun i y k q _ => by simp at q⟩
theorem unit_i64 {m j : Nat} {p : Int × Int} (hp : I64 p.1 ∧ I64 p.2) : ∀ y ∈ unitM m j p, I64 y.1 ∧ I64 y.2 := by
  intro y hy
  obtain ⟨k, hk⟩ := List.getElem?_of_mem hy
  have hkm : k < m := by have := (List.getElem?_eq_some_iff.1 hk).1; simpa [unitM] using this
  by_cases h : k = j
  · subst h; rw [unitM_self hkm] at hk; cases hk; exact hp
  · rw [unitM_ne hkm h] at hk; cases hk; exact ⟨⟨by decide, by decide⟩, ⟨by decide, by decide⟩⟩

abbrev rPB : RS := .many [.agg [.int .i64, .slice, .int .i64, .int .i64, .slice], .one .bool]
set_option maxHeartbeats 1000000 in
theorem latticeF (u r b : Hdr) (up : List Int) (T : List (List Int)) (rt : List Int) (w : World) (H : Sys w u r b up T rt) (hok : sysE up T rt = 0) :
    call Tryz.prog 19 [sysv u r b] rPB w (fun (x : CPr × Bool × Unit) w' => (x.2.1 = true → ∃ M, LatP up T rt M ∧ ∀ n, PrB w' w.heap.size (n + 1) (⟨2, M, 0, 0, []⟩ : PN (PT n)) x.1) ∧ bel w w') := by
  refine call_of (S19_calls u.1 u.2.1 u.2.2 r.1 r.2.1 r.2.2 b.1 b.2.1 b.2.2 w _ ?_)
  unfold S19
  obtain ⟨hul, hTl, hR, hA⟩ := sysE_ok hok
  have hrl := H.r.len
  have hbl := H.b.int
  refine wr_box fun x1 w2 X1 h2 _ _ => ?_
  refine wr_alloc (z := .agg #[.int .i64 0, .slice none 0 0, .int .i64 0, .int .i64 0, .slice none 0 0]) (by kernel_rfl) fun x3 w4 X3 h4 hb3 _ => ?_
  replace X1 : Box w4 x1 (sysc u r b) := Box.up (show Box w2 x1 (sysc u r b) from X1) h4
  have hx3 : w.heap.size ≤ x3.block := by rw [hb3]; exact h2.size
  have h := h2.trans h4
  clear h2 h4
  refine rd_box (by kernel_rfl) X1 rfl rfl ?_
  replace H := H.up h
  refine loop_up r.2.1 (fun i w' => Sys w' u r b up T rt ∧ Box w' x1 (sysc u r b) ∧ Box w' x3 [.int .i64 0, .slice none 0 0, .int .i64 0, .int .i64 0, .slice none 0 0] ∧ bel w w') ⟨H, X1, X3, h⟩ ?_
  clear H X1 X3 h
  rintro i w8 hi ⟨H, X1, X3, h⟩ again hag _
  refine br_dec (fun e => ?_) (fun e => ?_)
  · dsimp only at e
    have hi' : i < r.2.1 := by omega
    refine join_mk (fun _ w' => Sys w' u r b up T rt ∧ Box w' x1 (sysc u r b) ∧ Box w' x3 [.int .i64 0, .slice none 0 0, .int .i64 0, .int .i64 0, .slice none 0 0] ∧ bel w w') (fun K hK => ?_) ?_
    · refine H.r.at tyTab (by kernel_rfl) (j := i) rfl (by omega) fun hr row hrow S => ?_
      have hrw := S.int
      have hrl2 := hA.2 row (mem_at hrow)
      have hcR := hR.2.2 row (mem_at hrow)
      refine loop_gh (G := Nat × Nat) (fun g s w' => s.1 = (g.2 : Int) ∧ s.2.1 = (g.1 : Int) ∧ g.1 ≤ row.length ∧ g.2 ≤ 1000000 ∧ (∀ j, j < g.1 → ∀ c, row[j]? = some c → (g.2 : Int) ∣ c) ∧ Sys w' u r b up T rt ∧ Sl w' hr.1 hr.2.1 hr.2.2 1 (ints .i64 row) ∧ Box w' x1 (sysc u r b) ∧ Box w' x3 [.int .i64 0, .slice none 0 0, .int .i64 0, .int .i64 0, .slice none 0 0] ∧ bel w w') (fun g => row.length - g.1) (0, 0) ⟨rfl, rfl, Nat.zero_le _, by omega, fun j hj => absurd hj (Nat.not_lt_zero _), H, S, X1, X3, h⟩ ?_
      clear H S X1 X3 h
      rintro ⟨k, g⟩ ⟨s1, s2, _⟩ w17 ⟨rfl, rfl, hk, hg, hd, H, S, X1, X3, h⟩ again2 hag2 _
      dsimp only at hk hg hd ⊢
      refine br_dec (fun e2 => ?_) (fun e2 => ?_)
      · have hk' : k < row.length := by omega
        refine at_int tyI64 (by kernel_rfl) S (j := k) rfl (by omega) fun c hc => ?_
        have hcb := hcR c (mem_at hc)
        refine z_i64 (by omega) ?_
        have hab : (if 0 - c > c then 0 - c else c) = ((c.natAbs : Nat) : Int) := by split <;> omega
        refine z_eq hab ?_
        refine loop_gh (G := Nat × Nat) (fun q s w' => s.1 = (q.1 : Int) ∧ s.2.1 = (q.2 : Int) ∧ q.1 ≤ 1000000 ∧ q.2 ≤ 1000000 ∧ Nat.gcd q.1 q.2 = Nat.gcd g c.natAbs ∧ Sys w' u r b up T rt ∧ Sl w' hr.1 hr.2.1 hr.2.2 1 (ints .i64 row) ∧ Box w' x1 (sysc u r b) ∧ Box w' x3 [.int .i64 0, .slice none 0 0, .int .i64 0, .int .i64 0, .slice none 0 0] ∧ bel w w') (fun q => q.2) (g, c.natAbs) ⟨rfl, rfl, hg, by omega, rfl, H, S, X1, X3, h⟩ ?_
        clear H S X1 X3 h
        rintro ⟨p, q⟩ ⟨s1, s2, _⟩ w24 ⟨rfl, rfl, hp, hq, hgc, H, S, X1, X3, h⟩ again3 hag3 _
        dsimp only at hp hq hgc ⊢
        refine br_eq (fun e3 => ?_) (fun e3 => ?_)
        · have hq0 : q = 0 := by omega
          subst hq0
          rw [Nat.gcd_zero_right] at hgc
          refine z_i64 (by omega) ?_
          refine hag2 (k + 1, p) _ _ ⟨rfl, rfl, hk', hp, ?_, H, S, X1, X3, h⟩ (by dsimp only; omega)
          intro j hj y hy
          rcases Nat.lt_or_ge j k with hjk | hjk
          · refine Int.dvd_trans ?_ (hd j hjk y hy)
            rw [hgc]; exact Int.natCast_dvd_natCast.2 (Nat.gcd_dvd_left _ _)
          · have : j = k := by omega
            subst this
            rw [hc] at hy; cases hy
            refine Int.dvd_trans (b := ((c.natAbs : Nat) : Int)) ?_ (Int.natAbs_dvd.2 (Int.dvd_refl c))
            rw [hgc]; exact Int.natCast_dvd_natCast.2 (Nat.gcd_dvd_right _ _)
        · refine drw_mk fun w26 hb _ => ?_
          refine rdp_rem (by omega) ?_
          have hq0 : 0 < q := by omega
          have hm := Nat.mod_lt p hq0
          refine hag3 (q, p % q) _ _ ⟨rfl, ?_, hq, by dsimp only; omega, ?_, H.up hb, S.up hb, X1.up hb, X3.up hb, h.trans hb⟩ (by dsimp only; omega)
          · exact (Int.ofNat_tmod p q).symm
          · dsimp only; rw [Nat.gcd_comm q, ← Nat.gcd_rec, Nat.gcd_comm, hgc]
      · have hk' : k = row.length := by omega
        refine br_dec (fun e3 => ?_) (fun e3 => hK _ _ ⟨H, X1, X3, h⟩)
        refine rd_box (by kernel_rfl) X1 rfl rfl ?_
        have hAl := hA.1
        refine at_int tyI64 (by kernel_rfl) H.b (j := i) rfl (by omega) fun y hy => ?_
        refine rdp_rem (by omega) ?_
        refine br_ne (fun e4 => ?_) (fun e4 => hK _ _ ⟨H, X1, X3, h⟩)
        refine rd_boxN X1 (by kernel_rfl) rfl ?_
        refine call_mono (unitF u r b up T rt i 1 g w17 H (by omega) (by omega)) ?_
        rintro x33 w34 ⟨S33, F33, hb⟩
        have hx3l := X3.lt
        have hsz := h.size
        replace X3 := X3.up hb
        replace h := h.trans hb
        refine wu_box X3 (by kernel_rfl) (Nat.le_refl 5) rfl fun w35 X3 hg2 _ => ?_
        refine rd_boxV X3 (by kernel_rfl) rfl ⟨((lfv 2 x33, true, ()) : CPr × Bool × Unit), rfl, fun _ => ⟨unitM T.length i (1, g), unit_lat hok hrow hy (by omega) (by omega) (fun c hc => ?_) (fun hdv => e4 (Int.tmod_eq_zero_of_dvd hdv)), fun n => leafB n 2 ⟨by decide, by decide⟩ ?_ (unit_i64 ⟨i64_1, ⟨by dsimp only; omega, by dsimp only; omega⟩⟩) fun ad ha => by have := F33 ad ha; have := hsz; omega⟩, h.grownAt hg2 hx3⟩
        · obtain ⟨j, hj, rfl⟩ := List.mem_iff_getElem.1 hc
          exact hd j (by omega) _ (List.getElem?_eq_getElem hj)
        · exact S33.grown hg2 fun ad ha _ e => by have := F33 ad ha; injection e; omega
    · rintro _ w11 ⟨H, X1, X3, h⟩ _
      refine z_i64 (by omega) ?_
      exact hag _ hi' ⟨H, X1, X3, h⟩
  · refine wu_box X3 (by kernel_rfl) (Nat.le_refl 5) rfl fun w35 X3 hg2 _ => ?_
    exact rd_boxV X3 (by kernel_rfl) rfl ⟨((zprv, false, ()) : CPr × Bool × Unit), rfl, (fun q => by cases q), h.grownAt hg2 hx3⟩

/-! ### the number of points -/
def ptsN (lo hi : List Int) : Nat → Int
  | 0 => 1
  | k + 1 => ptsN lo hi k * (hi.getD k 0 - lo.getD k 0 + 1)
def OkBox (lo hi : List Int) : Prop := ∀ k, lo.getD k 0 ≤ hi.getD k 0
theorem pts_pos {lo hi : List Int} (h : OkBox lo hi) : ∀ n, 1 ≤ ptsN lo hi n
  | 0 => Int.le_refl _
  | n + 1 => by
    have h1 := pts_pos h n
    have h2 := h n
    show 1 ≤ ptsN lo hi n * (hi.getD n 0 - lo.getD n 0 + 1)
    have := Int.mul_le_mul h1 (show (1 : Int) ≤ hi.getD n 0 - lo.getD n 0 + 1 by omega) (by omega) (by omega)
    omega
theorem pts_mono {lo hi : List Int} (h : OkBox lo hi) {k n : Nat} (hkn : k ≤ n) : ptsN lo hi k ≤ ptsN lo hi n := by
  induction n with
  | zero => have : k = 0 := by omega
            subst this; exact Int.le_refl _
  | succ n ih =>
    by_cases e : k = n + 1
    · subst e; exact Int.le_refl _
    · have h1 := ih (by omega)
      have h2 := h n
      have h3 := pts_pos h n
      show _ ≤ ptsN lo hi n * (hi.getD n 0 - lo.getD n 0 + 1)
      have := Int.mul_le_mul_of_nonneg_left (show (1 : Int) ≤ hi.getD n 0 - lo.getD n 0 + 1 by omega) (by omega : 0 ≤ ptsN lo hi n)
      omega
abbrev zs (n : Nat) : List Int := List.replicate n 0
theorem zs_getD (n k : Nat) : (zs n).getD k 0 = 0 := by
  rw [List.getD_eq_getElem?_getD, List.getElem?_replicate]; split <;> rfl
theorem ok_zero {up : List Int} (h : ∀ x ∈ up, 0 ≤ x ∧ x ≤ 1000000000) : OkBox (zs up.length) up := by
  intro k
  rw [zs_getD, List.getD_eq_getElem?_getD]
  cases hk : up[k]? with
  | none => exact Int.le_refl _
  | some x => exact (h x (mem_at hk)).1

set_option maxHeartbeats 400000 in
theorem pointsF (u r b : Hdr) (up : List Int) (T : List (List Int)) (rt : List Int) (w : World) (H : Sys w u r b up T rt) (hok : sysE up T rt = 0) :
    call Tryz.prog 20 [sysv u r b] (.many [.one (.int .i64), .one .bool]) w (fun (x : Int × Bool × Unit) w' => x.2.1 = decide (ptsN (zs up.length) up up.length ≤ 500) ∧ bel w w') := by
  refine call_of (S20_calls u.1 u.2.1 u.2.2 r.1 r.2.1 r.2.2 b.1 b.2.1 b.2.2 w _ ?_)
  unfold S20
  obtain ⟨hul, hTl, hR, hA⟩ := sysE_ok hok
  have hu := H.u.int
  have hb := ok_zero hR.1
  refine wr_box fun x1 w2 X1 h2 _ _ => ?_
  replace X1 : Box w2 x1 (sysc u r b) := X1
  refine rd_box0 (by kernel_rfl) X1 rfl rfl ?_
  replace H := H.up h2
  refine loop_upA u.2.1 (fun i n w' => w' = w2 ∧ n = ptsN (zs up.length) up i ∧ n ≤ 500) ⟨rfl, rfl, by omega⟩ ?_
  rintro i n w' hi ⟨rfl, rfl, hn⟩ again hag _
  have hp := pts_pos hb i
  have no : ¬ ptsN (zs up.length) up up.length ≤ 500 → ∃ y : Int × Bool × Unit, Value.tuple #[.int .i64 0, .bool false] = (RS.many [.one (.int .i64), .one .bool]).val y ∧ y.2.1 = decide (ptsN (zs up.length) up up.length ≤ 500) ∧ bel w w' := fun q => ⟨((0, false, ()) : Int × Bool × Unit), rfl, (decide_eq_false q).symm, h2⟩
  refine br_dec (fun e => ?_) (fun e => ?_)
  · dsimp only at e
    refine at_int tyI64 (by kernel_rfl) H.u (j := i) rfl (by omega) fun y hy => ?_
    have hyb := hR.1 y (mem_at hy)
    have hstep : ptsN (zs up.length) up (i + 1) = ptsN (zs up.length) up i * (y + 1) := by
      show ptsN (zs up.length) up i * (up.getD i 0 - (zs up.length).getD i 0 + 1) = _
      rw [zs_getD, List.getD_eq_getElem?_getD, hy]; simp
    have hmono := pts_mono hb (show i + 1 ≤ up.length by omega)
    refine z_i64 (by omega) ?_
    have hge : y + 1 ≤ ptsN (zs up.length) up i * (y + 1) := by
      have := Int.mul_le_mul_of_nonneg_right hp (show 0 ≤ y + 1 by omega)
      omega
    refine br_dec (fun e2 => no (by omega)) (fun e2 => ?_)
    refine z_i64 (by omega) ?_
    have hle : ptsN (zs up.length) up i * (y + 1) ≤ 500 * 500 := Int.mul_le_mul hn (by omega) (by omega) (by omega)
    refine z_i64 (by dsimp only; omega) ?_
    refine br_dec (fun e3 => no (by dsimp only at e3; omega)) (fun e3 => ?_)
    dsimp only at e3
    refine z_i64 (by dsimp only; omega) ?_
    exact hag _ _ (by omega) ⟨rfl, hstep.symm, by dsimp only; omega⟩
  · dsimp only at e
    have hi' : i = up.length := by omega
    subst hi'
    exact ⟨((ptsN (zs up.length) up up.length, true, ()) : Int × Bool × Unit), rfl, (decide_eq_true hn).symm, h2⟩
end Go.Proofs.YtajpdnphamomjaaGreat

/- Halving boxes: plain law. -/

namespace Go.Proofs.YtajpdnphamomjaaGreat
open Go.RowKit Go.Q Go.Q.Num Go.V

/-! ### binary digits of a width -/
def nb (d : Nat) : Nat := if h : d = 0 then 0 else nb (d / 2) + 1
termination_by d
decreasing_by omega
theorem nb_zero : nb 0 = 0 := by rw [nb]; simp
theorem nb_pos {d : Nat} (h : 0 < d) : nb d = nb (d / 2) + 1 := by rw [nb]; simp [show d ≠ 0 by omega]
theorem nb_mono : ∀ (b a : Nat), a ≤ b → nb a ≤ nb b := by
  intro b
  induction b using Nat.strongRecOn with
  | _ b ih =>
    intro a h
    by_cases ha : a = 0
    · subst ha; rw [nb_zero]; exact Nat.zero_le _
    · rw [nb_pos (d := a) (by omega), nb_pos (d := b) (by omega)]
      have := ih (b / 2) (by omega) (a / 2) (Nat.div_le_div_right h)
      omega
theorem nb_pow : ∀ (d : Nat), 0 < d → 2 ^ nb d ≤ 2 * d := by
  intro d
  induction d using Nat.strongRecOn with
  | _ d ih =>
    intro h
    rw [nb_pos h, Nat.pow_succ]
    by_cases h1 : d = 1
    · subst h1; rw [show 1 / 2 = 0 from rfl, nb_zero]; decide
    · have := ih (d / 2) (by omega) (by omega)
      omega
theorem nb_sq (d : Nat) : ((2 ^ nb d : Nat) : Int) ≤ ((d : Int) + 1) * ((d : Int) + 1) := by
  by_cases h : d = 0
  · subst h; rw [nb_zero]; decide
  · have h1 := nb_pow d (by omega)
    have h2 : (0 : Int) ≤ (d : Int) * d := Int.mul_nonneg (by omega) (by omega)
    have h3 : ((d : Int) + 1) * ((d : Int) + 1) = (d : Int) * d + 2 * d + 1 := by grind
    omega

/-! ### sums and products over the variables -/
def wd (lo hi : List Int) (k : Nat) : Nat := (hi.getD k 0 - lo.getD k 0).toNat
def bitN (lo hi : List Int) : Nat → Nat
  | 0 => 0
  | k + 1 => bitN lo hi k + nb (wd lo hi k)
theorem bit_pts {lo hi : List Int} (h : OkBox lo hi) : ∀ n, ((2 ^ bitN lo hi n : Nat) : Int) ≤ ptsN lo hi n * ptsN lo hi n
  | 0 => by show ((2 ^ 0 : Nat) : Int) ≤ 1 * 1; decide
  | n + 1 => by
    have h1 := bit_pts h n
    have h2 := nb_sq (wd lo hi n)
    have h3 := pts_pos h n
    have h4 := h n
    have e : ((wd lo hi n : Nat) : Int) = hi.getD n 0 - lo.getD n 0 := by unfold wd; omega
    rw [e] at h2
    show ((2 ^ (bitN lo hi n + nb (wd lo hi n)) : Nat) : Int) ≤ ptsN lo hi n * (hi.getD n 0 - lo.getD n 0 + 1) * (ptsN lo hi n * (hi.getD n 0 - lo.getD n 0 + 1))
    rw [Nat.pow_add, Int.natCast_mul]
    have := Int.mul_le_mul h1 h2 (Int.natCast_nonneg _) (Int.mul_nonneg (by omega) (by omega))
    have e2 : ptsN lo hi n * (hi.getD n 0 - lo.getD n 0 + 1) * (ptsN lo hi n * (hi.getD n 0 - lo.getD n 0 + 1)) = ptsN lo hi n * ptsN lo hi n * ((hi.getD n 0 - lo.getD n 0 + 1) * (hi.getD n 0 - lo.getD n 0 + 1)) := by grind
    rw [e2]; exact this
theorem bit_17 {lo hi : List Int} (h : OkBox lo hi) {n : Nat} (hp : ptsN lo hi n ≤ 500) : bitN lo hi n ≤ 17 := by
  have h1 := bit_pts h n
  have h2 := pts_pos h n
  have h3 : ptsN lo hi n * ptsN lo hi n ≤ 500 * 500 := Int.mul_le_mul hp hp (by omega) (by omega)
  rcases Nat.lt_or_ge (bitN lo hi n) 18 with h4 | h4
  · omega
  · have h5 : 2 ^ 18 ≤ 2 ^ bitN lo hi n := Nat.pow_le_pow_right (by omega) h4
    have h6 : (2 : Nat) ^ 18 = 262144 := by decide
    omega
def Off (k : Nat) (a b : List Int) : Prop := ∀ j, j ≠ k → a.getD j 0 = b.getD j 0
theorem Off.refl (k : Nat) (a : List Int) : Off k a a := fun _ _ => rfl
theorem Off.set (k : Nat) (a : List Int) (x : Int) : Off k (a.set k x) a := by
  intro j hj
  rw [List.getD_eq_getElem?_getD, List.getD_eq_getElem?_getD, List.getElem?_set_ne (fun e => hj e.symm)]
theorem pts_low {lo hi lo' hi' : List Int} {k : Nat} (h1 : Off k lo' lo) (h2 : Off k hi' hi) : ∀ n, n ≤ k → ptsN lo' hi' n = ptsN lo hi n
  | 0, _ => rfl
  | n + 1, h => by
    show ptsN lo' hi' n * _ = ptsN lo hi n * _
    rw [pts_low h1 h2 n (by omega), h1 n (by omega), h2 n (by omega)]
theorem pts_lin {lo hi lo' hi' : List Int} {k : Nat} (h1 : Off k lo' lo) (h2 : Off k hi' hi) : ∀ n, k < n → ptsN lo' hi' n * (hi.getD k 0 - lo.getD k 0 + 1) = ptsN lo hi n * (hi'.getD k 0 - lo'.getD k 0 + 1)
  | 0, h => by omega
  | n + 1, h => by
    show ptsN lo' hi' n * (hi'.getD n 0 - lo'.getD n 0 + 1) * _ = ptsN lo hi n * (hi.getD n 0 - lo.getD n 0 + 1) * _
    by_cases e : n = k
    · subst e
      rw [pts_low h1 h2 n (Nat.le_refl _)]; grind
    · have := pts_lin h1 h2 n (by omega)
      rw [h1 n e, h2 n e]; grind
theorem bit_low {lo hi lo' hi' : List Int} {k : Nat} (h1 : Off k lo' lo) (h2 : Off k hi' hi) : ∀ n, n ≤ k → bitN lo' hi' n = bitN lo hi n
  | 0, _ => rfl
  | n + 1, h => by
    show bitN lo' hi' n + nb (wd lo' hi' n) = bitN lo hi n + nb (wd lo hi n)
    unfold wd
    rw [bit_low h1 h2 n (by omega), h1 n (by omega), h2 n (by omega)]
theorem bit_lin {lo hi lo' hi' : List Int} {k : Nat} (h1 : Off k lo' lo) (h2 : Off k hi' hi) : ∀ n, k < n → bitN lo' hi' n + nb (wd lo hi k) = bitN lo hi n + nb (wd lo' hi' k)
  | 0, h => by omega
  | n + 1, h => by
    show bitN lo' hi' n + nb (wd lo' hi' n) + _ = bitN lo hi n + nb (wd lo hi n) + _
    by_cases e : n = k
    · subst e
      rw [bit_low h1 h2 n (Nat.le_refl _)]; omega
    · have := bit_lin h1 h2 n (by omega)
      have e2 : wd lo' hi' n = wd lo hi n := by unfold wd; rw [h1 n e, h2 n e]
      rw [e2]; omega
theorem halves {lo hi : List Int} {k n : Nat} (hb : OkBox lo hi) (hk : k < n) (hlo : k < lo.length) (hhi : k < hi.length) (hw : lo.getD k 0 < hi.getD k 0) {m : Int} (hm : m = lo.getD k 0 + (hi.getD k 0 - lo.getD k 0).tdiv 2) :
    (lo.getD k 0 ≤ m ∧ m < hi.getD k 0) ∧ OkBox lo (hi.set k m) ∧ OkBox (lo.set k (m + 1)) hi ∧ ptsN lo (hi.set k m) n + ptsN (lo.set k (m + 1)) hi n = ptsN lo hi n ∧ bitN lo (hi.set k m) n < bitN lo hi n ∧ bitN (lo.set k (m + 1)) hi n < bitN lo hi n := by
  have h2 : (hi.getD k 0 - lo.getD k 0).tdiv 2 = (hi.getD k 0 - lo.getD k 0) / 2 := Int.tdiv_eq_ediv_of_nonneg (by omega)
  rw [h2] at hm
  have g1 : (hi.set k m).getD k 0 = m := by rw [List.getD_eq_getElem?_getD, List.getElem?_set_self hhi]; rfl
  have g2 : (lo.set k (m + 1)).getD k 0 = m + 1 := by rw [List.getD_eq_getElem?_getD, List.getElem?_set_self hlo]; rfl
  have o1 : OkBox lo (hi.set k m) := fun j => by
    by_cases e : j = k
    · subst e; rw [g1]; omega
    · rw [Off.set k hi m j e]; exact hb j
  have o2 : OkBox (lo.set k (m + 1)) hi := fun j => by
    by_cases e : j = k
    · subst e; rw [g2]; omega
    · rw [Off.set k lo (m + 1) j e]; exact hb j
  have l1 := pts_lin (Off.refl k lo) (Off.set k hi m) n hk
  have l2 := pts_lin (Off.set k lo (m + 1)) (Off.refl k hi) n hk
  rw [g1] at l1; rw [g2] at l2
  have b1 := bit_lin (Off.refl k lo) (Off.set k hi m) n hk
  have b2 := bit_lin (Off.set k lo (m + 1)) (Off.refl k hi) n hk
  have w0 : wd lo hi k = (hi.getD k 0 - lo.getD k 0).toNat := rfl
  have w1 : wd lo (hi.set k m) k = wd lo hi k / 2 := by unfold wd; rw [g1]; omega
  have w2 : wd (lo.set k (m + 1)) hi k ≤ wd lo hi k / 2 := by unfold wd; rw [g2]; omega
  have n1 := nb_pos (d := wd lo hi k) (by omega)
  have n2 := nb_mono _ _ w2
  rw [w1] at b1
  refine ⟨⟨by omega, by omega⟩, o1, o2, ?_, by omega, by omega⟩
  have hpos : 0 < hi.getD k 0 - lo.getD k 0 + 1 := by omega
  refine Int.eq_of_mul_eq_mul_right (show hi.getD k 0 - lo.getD k 0 + 1 ≠ 0 by omega) ?_
  rw [Int.add_mul, l1, l2, ← Int.mul_add]
  congr 1
  omega

/-! ### a proof by two proofs -/
section
variable {up : List Int} {T : List (List Int)} {rt lo hi : List Int} {n : Nat}
theorem getD_at {l : List Int} {k : Nat} {x : Int} (h : l[k]? = some x) : l.getD k 0 = x := by rw [List.getD_eq_getElem?_getD, h]; rfl
theorem split_right {k : Nat} {m : Int} {p q : PT n} (hk : k < up.length) (hm : 0 ≤ m ∧ m ≤ 1000000000) (hl : lo.length = up.length) (hh : hi.length = up.length) (h1 : lo.getD k 0 ≤ m) (h2 : m < hi.getD k 0)
    (hp : rightP up T rt n p lo (hi.set k m)) (hq : rightP up T rt n q (lo.set k (m + 1)) hi) : rightP up T rt (n + 1) (⟨3, [], (k : Int), m, [p, q]⟩ : PN (PT n)) lo hi := by
  refine (right_3 (p := (⟨3, [], (k : Int), m, [p, q]⟩ : PN (PT n))) rfl).2 ⟨rfl, rfl, ⟨by dsimp only; omega, by dsimp only; omega⟩, hm, fun a ha => ?_, fun a ha => ?_⟩
  · have : a = p := by simpa using ha.symm
    subst this
    have e : min (hi.getD (k : Int).toNat 0) m = m := by rw [Int.toNat_natCast]; omega
    dsimp only
    rw [e, Int.toNat_natCast]; exact hp
  · have : a = q := by simpa using ha.symm
    subst this
    have e : max (lo.getD (k : Int).toNat 0) (m + 1) = m + 1 := by rw [Int.toNat_natCast]; omega
    dsimp only
    rw [e, Int.toNat_natCast]; exact hq
theorem split_size {k m : Int} {p q : PT n} : szP (n + 1) (⟨3, [], k, m, [p, q]⟩ : PN (PT n)) = 1 + (szP n p + szP n q) := by
  show 1 + ([p, q].map (szP n)).sum = _
  simp
theorem leaf_size {kind : Int} {M : List (Int × Int)} : szP (n + 1) (⟨kind, M, 0, 0, []⟩ : PN (PT n)) = 1 := rfl
theorem split_pt {k : Nat} {m : Int} {xs : List Int} (h : Pt T rt lo (hi.set k m) xs) (hm : ∀ b, hi[k]? = some b → m ≤ b) : Pt T rt lo hi xs :=
  ⟨h.llo, by rw [← h.lhi]; simp, fun j a b x ha hb hx => by
    by_cases e : j = k
    · subst e
      have hj : j < hi.length := (List.getElem?_eq_some_iff.1 hb).1
      have := h.each j a m x ha (by rw [List.getElem?_set_self hj]) hx
      have := hm b hb
      omega
    · exact h.each j a b x ha (by rw [List.getElem?_set_ne (fun q => e q.symm)]; exact hb) hx, h.rows⟩
theorem split_pt' {k : Nat} {m : Int} {xs : List Int} (h : Pt T rt (lo.set k m) hi xs) (hm : ∀ a, lo[k]? = some a → a ≤ m) : Pt T rt lo hi xs :=
  ⟨by rw [← h.llo]; simp, h.lhi, fun j a b x ha hb hx => by
    by_cases e : j = k
    · subst e
      have hj : j < lo.length := (List.getElem?_eq_some_iff.1 ha).1
      have := h.each j m b x (by rw [List.getElem?_set_self hj]) hb hx
      have := hm a ha
      omega
    · exact h.each j a b x (by rw [List.getElem?_set_ne (fun q => e q.symm)]; exact ha) hb hx, h.rows⟩
theorem min_dot {r : List Int} {lo hi : List Int} (h : ∀ k, hi.getD k 0 = lo.getD k 0) (hl : r.length = lo.length) : ∀ n, n ≤ r.length → minI r lo hi n = dotI r lo n ∧ maxI r lo hi n = dotI r lo n
  | 0, _ => ⟨rfl, rfl⟩
  | n + 1, hn => by
    obtain ⟨h1, h2⟩ := min_dot h hl n (by omega)
    obtain ⟨c, hc⟩ : ∃ c, r[n]? = some c := ⟨_, List.getElem?_eq_getElem (by omega)⟩
    obtain ⟨a, ha⟩ : ∃ a, lo[n]? = some a := ⟨_, List.getElem?_eq_getElem (by omega)⟩
    have e : dotI r lo (n + 1) = dotI r lo n + c * a := dotI_step hc ha
    refine ⟨?_, ?_⟩
    · show minI r lo hi n + min (r.getD n 0 * lo.getD n 0) (r.getD n 0 * hi.getD n 0) = _
      rw [h1, h n, getD_at hc, getD_at ha, e]; omega
    · show maxI r lo hi n + max (r.getD n 0 * lo.getD n 0) (r.getD n 0 * hi.getD n 0) = _
      rw [h2, h n, getD_at hc, getD_at ha, e]; omega
theorem point_pt (hok : sysE up T rt = 0) (hl : lo.length = up.length) (hh : hi.length = up.length) (he : ∀ k, hi.getD k 0 = lo.getD k 0)
    (h : ∀ (i : Nat) row b, T[i]? = some row → rt[i]? = some b → minI row lo hi up.length ≤ b ∧ b ≤ maxI row lo hi up.length) : Pt T rt lo hi lo := by
  obtain ⟨_, _, _, hA⟩ := sysE_ok hok
  refine ⟨rfl, by omega, fun k a b x ha hb hx => ?_, fun i row b hrow hb => ?_⟩
  · rw [ha] at hx; cases hx
    have := he k
    rw [getD_at ha, getD_at hb] at this
    omega
  · have hr := hA.2 row (mem_at hrow)
    obtain ⟨e1, e2⟩ := min_dot he (by omega : row.length = lo.length) up.length (by omega)
    have := h i row b hrow hb
    rw [hl]; omega
end
end Go.Proofs.YtajpdnphamomjaaGreat

/- Splitting a box: the walk of split, for a search that answers rightly on both sides. -/

namespace Go.Proofs.YtajpdnphamomjaaGreat
open Go.RowKit Go.Q Go.Q.Num Go.V

abbrev HX := Hdr × CPr × Int × Unit
abbrev rHX : RS := .many [.one .slice, .agg [.int .i64, .slice, .int .i64, .int .i64, .slice], .one (.int .i64)]
abbrev srcC (u r b : Hdr) (left : Int) : List Value := [.slice u.1 u.2.1 u.2.2, .slice r.1 r.2.1 r.2.2, .slice b.1 b.2.1 b.2.2, .int .i64 left]
def HRes (up : List Int) (T : List (List Int)) (rt lo hi : List Int) (B n N : Nat) (x : HX) (w' : World) : Prop :=
  (x.2.2.1 = 0 ∧ ∃ xs, Sl w' x.1.1 x.1.2.1 x.1.2.2 1 (ints .i64 xs) ∧ Hi B x.1 ∧ Pt T rt lo hi xs) ∨
  (x.2.2.1 = 12 ∧ x.1 = (none, 0, 0) ∧ ∃ p : PT n, PrB w' B n p x.2.1 ∧ rightP up T rt n p lo hi ∧ szP n p ≤ N)
theorem HRes.up {up : List Int} {T : List (List Int)} {rt lo hi : List Int} {B n N : Nat} {x : HX} {w w' : World} (h : HRes up T rt lo hi B n N x w) (hb : bel w w') : HRes up T rt lo hi B n N x w' := by
  rcases h with ⟨h1, xs, h2, h3⟩ | ⟨h1, h2, p, h3, h4⟩
  · exact .inl ⟨h1, xs, h2.up hb, h3⟩
  · exact .inr ⟨h1, h2, p, h3.up hb, h4⟩
abbrev zpc : List Value := [.int .i64 0, .slice none 0 0, .int .i64 0, .int .i64 0, .slice none 0 0]
theorem fill_pr2 (a b : CPr) : Instr.fill (fun i => some (i * 5, 5)) ((Array.range (2 * 5)).map ((Value.agg zpc.toArray).cells[· % (Value.agg zpc.toArray).cells.size]!)) (#[(0, prv a), (1, prv b)] : Array (Nat × Value)).toList = some (prc a ++ prc b).toArray := by kernel_rfl
def HalveC (u r b : Hdr) (up : List Int) (T : List (List Int)) (rt : List Int) (left : Int) (xa : Addr) (n : Nat) : Prop :=
  ∀ (lo hi : Hdr) (ls hs : List Int) (w : World), Sys w u r b up T rt → Box w xa (srcC u r b left) → Sl w lo.1 lo.2.1 lo.2.2 1 (ints .i64 ls) → Sl w hi.1 hi.2.1 hi.2.2 1 (ints .i64 hs) → ls.length = up.length → hs.length = up.length →
    OkBox ls hs → (∀ k, 0 ≤ ls.getD k 0 ∧ hs.getD k 0 ≤ 1000000000) → bitN ls hs up.length < n →
    call Tryz.prog 21 [.pointer (some xa), .slice lo.1 lo.2.1 lo.2.2, .slice hi.1 hi.2.1 hi.2.2] rHX w (fun (x : HX) w' => HRes up T rt ls hs w.heap.size n (2 * ptsN ls hs up.length - 1).toNat x w' ∧ bel w w')

set_option maxHeartbeats 1600000 in
theorem splitF (u r b : Hdr) (up : List Int) (T : List (List Int)) (rt : List Int) (hok : sysE up T rt = 0) (left : Int) (xa : Addr) (n : Nat) (IH : HalveC u r b up T rt left xa n)
    (lo hi : Hdr) (ls hs : List Int) (w : World) (H : Sys w u r b up T rt) (XA : Box w xa (srcC u r b left)) (L : Sl w lo.1 lo.2.1 lo.2.2 1 (ints .i64 ls)) (U : Sl w hi.1 hi.2.1 hi.2.2 1 (ints .i64 hs)) (hl : ls.length = up.length) (hh : hs.length = up.length)
    (ob : OkBox ls hs) (win : ∀ k, 0 ≤ ls.getD k 0 ∧ hs.getD k 0 ≤ 1000000000) (hbit : bitN ls hs up.length < n + 1) (k : Nat) (m : Int) (hk : k < up.length) (hw : ls.getD k 0 < hs.getD k 0) (hm : m = ls.getD k 0 + (hs.getD k 0 - ls.getD k 0).tdiv 2) :
    call Tryz.prog 40 [.pointer (some xa), .slice lo.1 lo.2.1 lo.2.2, .slice hi.1 hi.2.1 hi.2.2, .int .i64 (k : Int), .int .i64 m, .func (.func 21) #[.pointer (some xa)] #[]] rHX w
      (fun (x : HX) w' => HRes up T rt ls hs w.heap.size (n + 1) (2 * ptsN ls hs up.length - 1).toNat x w' ∧ bel w w') := by
  obtain ⟨hul, _, hR, hA⟩ := sysE_ok hok
  obtain ⟨⟨m1, m2⟩, ob1, ob2, hpts, hb1, hb2⟩ := halves ob hk (by omega) (by omega) hw hm
  have wk := win k
  have p1 := pts_pos ob1 up.length
  have p2 := pts_pos ob2 up.length
  refine call_of (S40h_calls (some xa) lo.1 lo.2.1 lo.2.2 hi.1 hi.2.1 hi.2.2 k m xa w _ ?_)
  unfold S40h
  have hll := L.int
  have hul' := U.int
  refine wr_alloc (z := .agg zpc.toArray) (by kernel_rfl) fun x1 w2 X1 h2 hx1 _ => ?_
  have hx1w : w.heap.size ≤ x1.block := by omega
  refine call_mono (clone64 lo ls w2 (L.up h2) (by omega)) ?_
  rintro (x3 : Hdr) w4 ⟨O3, h4⟩
  refine call_mono (clone64 hi hs w4 ((U.up h2).up h4) (by omega)) ?_
  rintro (x5 : Hdr) w6 ⟨O5, h6⟩
  have n3 := O3.len
  have n5 := O5.len
  obtain ⟨a5, ha5⟩ := own_some O5 (j := k) (by omega)
  obtain ⟨a3, ha3⟩ := own_some O3 (j := k) (by omega)
  have l3 := O3.lt a3.block (by rw [ha3]; rfl)
  have l5 := O5.lt a5.block (by rw [ha5]; rfl)
  have bk5 : blk x5.1 = some a5.block := by rw [ha5]; rfl
  have bk3 : blk x3.1 = some a3.block := by rw [ha3]; rfl
  replace O3 : OwnI w6 w2.heap.size x3 ls := Own.kept O3 h6
  have X1l := X1.lt
  have s2 := h2.size
  have s4 := h4.size
  have s6 := h6.size
  replace X1 : Box w6 x1 zpc := (X1.up h4).up h6
  have h := (h2.trans h4).trans h6
  refine z_i64 (by omega) ?_
  refine set_mk tyI64 O5 (j := k) rfl (by omega) rfl fun w9 O5 g5 z9 => ?_
  rw [ints_set] at O5
  rw [bk5] at g5
  replace O3 : OwnI w9 w2.heap.size x3 ls := Own.putNew O3 g5 (fun j hj => by rw [bk3] at hj; cases hj; omega)
  replace X1 := X1.grown g5 (by intro e; injection e; omega)
  replace h := h.grownAt g5 (by omega)
  refine set_mk tyI64 O3 (j := k) rfl (by omega) rfl fun w11 O3 g3 z11 => ?_
  rw [ints_set] at O3
  rw [bk3] at g3
  replace O5 : OwnI w11 w4.heap.size x5 (hs.set k m) := Own.putNew O5 g3 (fun j hj => by rw [bk5] at hj; cases hj; omega)
  replace X1 := X1.grown g3 (by intro e; injection e; omega)
  replace h := h.grownAt g3 (by omega)
  clear g3 g5 h2 h4 h6
  have s11 := h.size
  have win1 : ∀ j, 0 ≤ ls.getD j 0 ∧ (hs.set k m).getD j 0 ≤ 1000000000 := fun j => by
    by_cases e : j = k
    · subst e; rw [List.getD_eq_getElem?_getD (l := hs.set j m), List.getElem?_set_self (by omega)]; exact ⟨(win j).1, by show m ≤ _; omega⟩
    · rw [Off.set k hs m j e]; exact win j
  have win2 : ∀ j, 0 ≤ (ls.set k (m + 1)).getD j 0 ∧ hs.getD j 0 ≤ 1000000000 := fun j => by
    by_cases e : j = k
    · subst e; rw [List.getD_eq_getElem?_getD (l := ls.set j (m + 1)), List.getElem?_set_self (by omega)]; exact ⟨by show 0 ≤ m + 1; omega, (win j).2⟩
    · rw [Off.set k ls (m + 1) j e]; exact win j
  refine call_mono (IH lo x5 ls (hs.set k m) w11 (H.up h) (XA.up h) (L.up h) O5.sl hl (by simp [hh]) ob1 win1 (by omega)) ?_
  rintro (x12 : HX) w13 ⟨R1, h13⟩
  have X1' : Box w13 x1 zpc := X1.up h13
  replace O3 : OwnI w13 w2.heap.size x3 (ls.set k (m + 1)) := Own.kept O3 h13
  replace h := h.trans h13
  have s13 := h13.size
  refine var_mk (z := .agg zpc.toArray) (by kernel_rfl) (by kernel_rfl) rfl rfl fun x14 w16 X14 h16 hx14 => ?_
  replace X14 : Box w16 x14 (prc x12.2.1) := X14
  replace X1' : Box w16 x1 zpc := X1'.up h16
  replace O3 : OwnI w16 w2.heap.size x3 (ls.set k (m + 1)) := Own.kept O3 h16
  replace R1 := R1.up h16
  replace h := h.trans h16
  have t16 := h16.size
  clear h13 h16 X1
  have b1 : x1.block < w11.heap.size := by omega
  -- what is handed back from a side
  have back : ∀ (x : HX) (w' : World), Box w' x1 zpc → bel w w' → HRes up T rt ls hs w11.heap.size (n + 1) (2 * ptsN ls hs up.length - 1).toNat x w' →
      wu Tryz.prog (Instr.storeAt 35 (.pointer (some x1)) (prv x.2.1)) w' fun w2 => rd Tryz.prog (loadVar 35 x1) (.agg [.int .i64, .slice, .int .i64, .int .i64, .slice]) w2 fun y =>
        ∃ v : HX, Value.tuple #[.slice x.1.1 x.1.2.1 x.1.2.2, prv y, .int .i64 x.2.2.1] = rHX.val v ∧ HRes up T rt ls hs w.heap.size (n + 1) (2 * ptsN ls hs up.length - 1).toNat v w2 ∧ bel w w2 := by
    intro x w' X hb hr
    refine wu_box X (by kernel_rfl) (Nat.le_refl 5) rfl fun w3 X hg _ => ?_
    refine rd_boxV (show Box w3 x1 (prc x.2.1) from X) (by kernel_rfl) rfl ⟨x, rfl, ?_, hb.grownAt hg hx1w⟩
    rcases hr with ⟨e1, xs, q1, q2, q3⟩ | ⟨e1, e2, p, q1, q2, q3⟩
    · exact .inl ⟨e1, xs, q1.grown hg fun ad ha _ e => by (have := q2 ad ha); injection e; omega, fun ad ha => by have := q2 ad ha; omega, q3⟩
    · exact .inr ⟨e1, e2, p, (q1.grown hg fun j hj => by injection hj; omega).mono (by omega), q2, q3⟩
  refine br_ne (fun e1 => ?_) (fun e1 => ?_)
  · refine drw_mk fun w17 h17 _ => ?_
    refine rd_boxN (X14.up h17) (by kernel_rfl) rfl ?_
    refine back x12 w17 (X1'.up h17) (h.trans h17) ?_
    rcases R1 with ⟨q0, xs, q1, q2, q3⟩ | ⟨q0, _⟩
    · exact .inl ⟨q0, xs, q1.up h17, q2, split_pt q3 fun y hy => by rw [← getD_at hy]; omega⟩
    · exact absurd q0 e1
  rcases R1 with ⟨q0, _⟩ | ⟨_, _, p, P1, P2, P3⟩
  · exact absurd (q0.symm.trans e1) (by decide)
  refine call_mono (IH x3 hi (ls.set k (m + 1)) hs w16 (H.up h) (XA.up h) O3.sl (U.up h) (by simp [hl]) hh ob2 win2 (by omega)) ?_
  rintro (x21 : HX) w22 ⟨R2, h22⟩
  replace X1' : Box w22 x1 zpc := X1'.up h22
  replace X14 : Box w22 x14 (prc x12.2.1) := X14.up h22
  replace P1 := P1.up h22
  replace h := h.trans h22
  have s22 := h22.size
  refine var_mk (z := .agg zpc.toArray) (by kernel_rfl) (by kernel_rfl) rfl rfl fun x23 w25 X23 h25 hx23 => ?_
  replace X23 : Box w25 x23 (prc x21.2.1) := X23
  replace X1' : Box w25 x1 zpc := X1'.up h25
  replace X14 : Box w25 x14 (prc x12.2.1) := X14.up h25
  replace P1 := P1.up h25
  replace R2 := R2.up h25
  replace h := h.trans h25
  have s25 := h25.size
  have t22 := s22
  clear h22 h25
  refine br_ne (fun e2 => ?_) (fun e2 => ?_)
  · refine drw_mk fun w26 h26 _ => ?_
    refine rd_boxN (X23.up h26) (by kernel_rfl) rfl ?_
    refine back x21 w26 (X1'.up h26) (h.trans h26) ?_
    rcases R2 with ⟨q0, xs, q1, q2, q3⟩ | ⟨q0, _⟩
    · exact .inl ⟨q0, xs, q1.up h26, fun ad ha => by have := q2 ad ha; omega, split_pt' q3 fun y hy => by rw [← getD_at hy]; omega⟩
    · exact absurd q0 e2
  rcases R2 with ⟨q0, _⟩ | ⟨_, _, q, Q1, Q2, Q3⟩
  · exact absurd (q0.symm.trans e2) (by decide)
  refine drw_mk fun w30 h30 _ => ?_
  replace X1' := X1'.up h30; replace X14 := X14.up h30; replace X23 := X23.up h30; replace P1 := P1.up h30; replace Q1 := Q1.up h30
  replace h := h.trans h30
  have s30 := h30.size
  refine flEx_mk (fun _ _ v w' => ∃ y : Hdr, v = hv y ∧ Sl w' y.1 y.2.1 y.2.2 5 (prc x12.2.1 ++ prc x21.2.1) ∧ Hi w30.heap.size y) (fun _ _ _ _ _ ⟨y, q1, q2, q3⟩ hb => ⟨y, q1, q2.up hb, q3⟩) ?_
  refine rd_boxN X14 (by kernel_rfl) rfl ?_
  refine rd_boxN X23 (by kernel_rfl) rfl ?_
  refine flc_mk (fun w34 hb _ => wr_lit tyPrs (prc x12.2.1 ++ prc x21.2.1).toArray (fill_pr2 _ _) (by omega) (by omega) rfl (by unfold maxLen; omega) fun ad w37 O hb2 hbk _ => ⟨hb2, (some ad, 2, 2), rfl, (O w34.heap.size (Nat.le_refl _)).sl, fun a ha => by cases ha; have := hb.size; omega⟩) (fun (x38 : Hdr) => ?_)
  refine flend_mk fun w39 hb hf => ?_
  obtain ⟨⟨y, ey, S, hS⟩, _⟩ := hf
  obtain rfl := sl_inj ey
  have s39 := hb.size
  replace X1' := X1'.up hb; replace P1 := P1.up hb; replace Q1 := Q1.up hb
  replace h := h.trans hb
  refine back ((none, 0, 0), (3, (none, 0, 0), k, m, x38, ()), 12, ()) w39 X1' h (.inr ⟨rfl, rfl, (⟨3, [], (k : Int), m, [p, q]⟩ : PN (PT n)), ?_, split_right hk (by omega) hl hh m1 m2 P2 Q2, ?_⟩)
  · refine ⟨⟨rfl, ⟨by show -9223372036854775808 ≤ (3 : Int); omega, by show (3 : Int) ≤ 9223372036854775807; omega⟩⟩, ⟨Sl.nil _ _, fun y hy => (by cases hy), fun ad ha => (by cases ha)⟩, ⟨rfl, ⟨by show _ ≤ (k : Int); omega, by show (k : Int) ≤ _; omega⟩⟩, ⟨rfl, ⟨by show _ ≤ m; omega, by show m ≤ _; omega⟩⟩, by show 2 ≤ 3; omega, fun ad ha => by have := hS ad ha; omega, [x12.2.1, x21.2.1], by simpa using S, rfl, fun i y kk hy hkk => ?_⟩
    match i, hy, hkk with
    | 0, hy, hkk =>
      have e1 : x12.2.1 = y := by simpa using hy
      have e2 : p = kk := by simpa using hkk
      rw [← e1, ← e2]; exact P1
    | 1, hy, hkk =>
      have e1 : x21.2.1 = y := by simpa using hy
      have e2 : q = kk := by simpa using hkk
      rw [← e1, ← e2]; exact Q1.mono (by omega)
    | i + 2, hy, _ => simp at hy
  · rw [split_size]; omega
end Go.Proofs.YtajpdnphamomjaaGreat

/- Halving a box until a row is contradicted: the walk of halve. -/

namespace Go.Proofs.YtajpdnphamomjaaGreat
open Go.RowKit Go.Q Go.Q.Num Go.V

theorem mul_bd {c a : Int} (hc : -1000000 ≤ c ∧ c ≤ 1000000) (ha : 0 ≤ a ∧ a ≤ 1000000000) : -1000000000000000 ≤ c * a ∧ c * a ≤ 1000000000000000 := by
  have h1 : c * a ≤ 1000000 * a := Int.mul_le_mul_of_nonneg_right hc.2 ha.1
  have h2 : -1000000 * a ≤ c * a := Int.mul_le_mul_of_nonneg_right hc.1 ha.1
  omega
theorem minI_bd {r ls hs : List Int} (hr : ∀ x ∈ r, -1000000 ≤ x ∧ x ≤ 1000000) (hw : ∀ k, 0 ≤ ls.getD k 0 ∧ hs.getD k 0 ≤ 1000000000) (hb : OkBox ls hs) : ∀ n : Nat, n ≤ r.length → (-(n : Int) * 1000000000000000 ≤ minI r ls hs n ∧ minI r ls hs n ≤ (n : Int) * 1000000000000000) ∧ (-(n : Int) * 1000000000000000 ≤ maxI r ls hs n ∧ maxI r ls hs n ≤ (n : Int) * 1000000000000000)
  | 0, _ => by simp [minI, maxI]
  | n + 1, h => by
    obtain ⟨⟨h1, h2⟩, h3, h4⟩ := minI_bd hr hw hb n (by omega)
    obtain ⟨c, hc⟩ : ∃ c, r[n]? = some c := ⟨_, List.getElem?_eq_getElem (by omega)⟩
    have hcb := hr c (mem_at hc)
    have hwn := hw n
    have hbn := hb n
    have b1 := mul_bd hcb (a := ls.getD n 0) (by omega)
    have b2 := mul_bd hcb (a := hs.getD n 0) (by omega)
    have e1 : minI r ls hs (n + 1) = minI r ls hs n + min (c * ls.getD n 0) (c * hs.getD n 0) := by show _ + _ = _; rw [getD_at hc]
    have e2 : maxI r ls hs (n + 1) = maxI r ls hs n + max (c * ls.getD n 0) (c * hs.getD n 0) := by show _ + _ = _; rw [getD_at hc]
    rw [e1, e2]
    refine ⟨⟨?_, ?_⟩, ⟨?_, ?_⟩⟩ <;> omega

set_option maxHeartbeats 3200000 in
theorem halveF (u r b : Hdr) (up : List Int) (T : List (List Int)) (rt : List Int) (hok : sysE up T rt = 0) (left : Int) (xa : Addr) : ∀ n, HalveC u r b up T rt left xa n
  | 0 => fun _ _ _ _ _ _ _ _ _ _ _ _ _ h => absurd h (Nat.not_lt_zero _)
  | n + 1 => by
    intro lo hi ls hs w H XA L U hl hh ob win hbit
    have IH := halveF u r b up T rt hok left xa n
    obtain ⟨hul, hTl, hR, hA⟩ := sysE_ok hok
    have pp := pts_pos ob up.length
    refine call_of (S21_calls (some xa) lo.1 lo.2.1 lo.2.2 hi.1 hi.2.1 hi.2.2 w _ ?_)
    unfold S21
    have hrl := H.r.len
    have hbl := H.b.int
    have hll := L.int
    have hhl := U.int
    have hAl := hA.1
    refine wr_alloc (z := .agg zpc.toArray) (by kernel_rfl) fun x1 w2 X1 h2 hx1 _ => ?_
    have hx1w : w.heap.size ≤ x1.block := by omega
    refine nn_mk rfl ?_
    replace XA := XA.up h2
    refine rd_box (by kernel_rfl) XA (i := 1) rfl rfl ?_
    -- what is kept
    let J : World → Prop := fun w' => Sys w' u r b up T rt ∧ Box w' xa (srcC u r b left) ∧ Sl w' lo.1 lo.2.1 lo.2.2 1 (ints .i64 ls) ∧ Sl w' hi.1 hi.2.1 hi.2.2 1 (ints .i64 hs) ∧ Box w' x1 zpc ∧ bel w w'
    have Jup : ∀ {a b : World}, J a → bel a b → J b := fun ⟨q1, q2, q3, q4, q5, q6⟩ hb => ⟨q1.up hb, q2.up hb, q3.up hb, q4.up hb, q5.up hb, q6.trans hb⟩
    have J0 : J w2 := ⟨H.up h2, XA, L.up h2, U.up h2, X1, h2⟩
    clear H XA L U X1 h2
    have wlo : ∀ x ∈ ls, Win x := fun x hx => by
      obtain ⟨j, hj⟩ := List.getElem?_of_mem hx
      have h1 := win j; have h2 := ob j; rw [getD_at hj] at h1 h2; exact ⟨by omega, by omega⟩
    have whi : ∀ x ∈ hs, Win x := fun x hx => by
      obtain ⟨j, hj⟩ := List.getElem?_of_mem hx
      have h1 := win j; have h2 := ob j; rw [getD_at hj] at h1 h2; exact ⟨by omega, by omega⟩
    have ole : ∀ (k : Nat) a b, ls[k]? = some a → hs[k]? = some b → a ≤ b := fun k a b ha hb => by have := ob k; rwa [getD_at ha, getD_at hb] at this
    -- what is handed back
    have back : ∀ (x : HX) (w' : World) (B : Nat), J w' → x1.block < B → w.heap.size ≤ B → HRes up T rt ls hs B (n + 1) (2 * ptsN ls hs up.length - 1).toNat x w' →
        wu Tryz.prog (Instr.storeAt 35 (.pointer (some x1)) (prv x.2.1)) w' fun w2 => rd Tryz.prog (loadVar 35 x1) (.agg [.int .i64, .slice, .int .i64, .int .i64, .slice]) w2 fun y =>
          ∃ v : HX, Value.tuple #[.slice x.1.1 x.1.2.1 x.1.2.2, prv y, .int .i64 x.2.2.1] = rHX.val v ∧ HRes up T rt ls hs w.heap.size (n + 1) (2 * ptsN ls hs up.length - 1).toNat v w2 ∧ bel w w2 := by
      intro x w' B ⟨_, _, _, _, X, hb⟩ hB hwB hr
      refine wu_box X (by kernel_rfl) (Nat.le_refl 5) rfl fun w3 X hg _ => ?_
      refine rd_boxV (show Box w3 x1 (prc x.2.1) from X) (by kernel_rfl) rfl ⟨x, rfl, ?_, hb.grownAt hg hx1w⟩
      rcases hr with ⟨e1, xs, q1, q2, q3⟩ | ⟨e1, e2, p, q1, q2, q3⟩
      · exact .inl ⟨e1, xs, q1.grown hg fun ad ha _ e => by (have := q2 ad ha); injection e; omega, fun ad ha => by have := q2 ad ha; omega, q3⟩
      · exact .inr ⟨e1, e2, p, (q1.grown hg fun j hj => by injection hj; omega).mono hwB, q2, q3⟩
    refine loop_up r.2.1 (fun i w' => J w' ∧ ∀ j, j < i → ∀ row y, T[j]? = some row → rt[j]? = some y → minI row ls hs up.length ≤ y ∧ y ≤ maxI row ls hs up.length) ⟨J0, fun j hj => absurd hj (Nat.not_lt_zero _)⟩ ?_
    clear J0
    rintro i w7 hile ⟨Jw, hrows⟩ again hag _
    refine br_dec (fun e => ?_) (fun e => ?_)
    · dsimp only at e
      have hi' : i < r.2.1 := by omega
      obtain ⟨H, XA, L, U, X1, h⟩ := Jw
      refine H.r.at tyTab (by kernel_rfl) (j := i) rfl (by omega) fun hr row hrow S => ?_
      have hrw := S.int
      have hrl2 := hA.2 row (mem_at hrow)
      have hcR := hR.2.2 row (mem_at hrow)
      refine loop_gh (G := Nat) (fun k s w' => s.1 = minI row ls hs k ∧ s.2.1 = maxI row ls hs k ∧ s.2.2.1 = (k : Int) ∧ k ≤ row.length ∧ J w' ∧ Sl w' hr.1 hr.2.1 hr.2.2 1 (ints .i64 row)) (fun k => row.length - k) 0 ⟨rfl, rfl, rfl, Nat.zero_le _, ⟨H, XA, L, U, X1, h⟩, S⟩ ?_
      clear H XA L U X1 h S
      rintro k ⟨s1, s2, s3, _⟩ w12 ⟨rfl, rfl, rfl, hk, Jw, S⟩ again2 hag2 _
      dsimp only at hk ⊢
      obtain ⟨⟨b1, b2⟩, b3, b4⟩ := minI_bd hcR win ob k hk
      refine br_dec (fun e2 => ?_) (fun e2 => ?_)
      · have hk' : k < row.length := by omega
        refine at_int tyI64 (by kernel_rfl) S (j := k) rfl (by omega) fun c hc => ?_
        have hcb := hcR c (mem_at hc)
        have hwk := win k
        have hbk := ob k
        refine drw_mk fun w15 hb _ => ?_
        have Jw15 := Jup Jw hb
        have S15 := S.up hb
        have L := Jw15.2.2.1
        have U := Jw15.2.2.2.1
        have m1 := mul_bd hcb (a := ls.getD k 0) (by omega)
        have m2 := mul_bd hcb (a := hs.getD k 0) (by omega)
        refine at_int tyI64 (by kernel_rfl) L (j := k) rfl (by omega) fun a ha => ?_
        have ga := getD_at ha
        refine z_i64 (by rw [← ga]; omega) ?_
        refine at_int tyI64 (by kernel_rfl) U (j := k) rfl (by omega) fun d hd => ?_
        have gd := getD_at hd
        refine z_i64 (by rw [← gd]; omega) ?_
        have emin : (if c * d < c * a then c * d else c * a) = min (row.getD k 0 * ls.getD k 0) (row.getD k 0 * hs.getD k 0) := by rw [getD_at hc, ga, gd]; split <;> omega
        have emax : (if c * d > c * a then c * d else c * a) = max (row.getD k 0 * ls.getD k 0) (row.getD k 0 * hs.getD k 0) := by rw [getD_at hc, ga, gd]; split <;> omega
        have gc := getD_at hc
        refine z_eq emin ?_
        refine z_i64 (by rw [gc]; omega) ?_
        refine at_int tyI64 (by kernel_rfl) L (j := k) rfl (by omega) fun a' ha' => ?_
        obtain rfl : a = a' := by rw [ha] at ha'; injection ha'
        refine z_i64 (by rw [← ga]; omega) ?_
        refine at_int tyI64 (by kernel_rfl) U (j := k) rfl (by omega) fun d' hd' => ?_
        obtain rfl : d = d' := by rw [hd] at hd'; injection hd'
        refine z_i64 (by rw [← gd]; omega) ?_
        refine z_eq emax ?_
        refine z_i64 (by rw [gc]; omega) ?_
        refine z_i64 (by omega) ?_
        exact hag2 (k + 1) _ _ ⟨rfl, rfl, rfl, hk', Jw15, S15⟩ (by omega)
      · have hk' : k = up.length := by omega
        subst hk'
        obtain ⟨H, XA, L, U, X1, h⟩ := Jw
        refine nn_mk rfl ?_
        refine rd_box (by kernel_rfl) XA (i := 2) rfl rfl ?_
        refine at_int tyI64 (by kernel_rfl) H.b (j := i) rfl (by omega) fun y hy => ?_
        have x1l := X1.lt
        have sz := h.size
        -- the proof at a contradicted row
        have bad : (y < minI row ls hs up.length ∨ maxI row ls hs up.length < y) → rd Tryz.prog (Instr.loadAt 29 (.pointer (some xa))) (.agg [.slice, .slice, .slice]) w12 fun x38 =>
            call Tryz.prog 38 [.agg #[.slice x38.1.1 x38.1.2.1 x38.1.2.2, .slice x38.2.1.1 x38.2.1.2.1 x38.2.1.2.2, .slice x38.2.2.1.1 x38.2.2.1.2.1 x38.2.2.1.2.2], .int .i64 (i : Int), .agg #[.int .i64 1, .int .i64 1]] (.one (.one .slice)) w12 fun x39 w40 =>
            wu Tryz.prog (Instr.storeAt 35 (.pointer (some x1)) (prv (lfv 1 x39))) w40 fun w2 => rd Tryz.prog (loadVar 35 x1) (.agg [.int .i64, .slice, .int .i64, .int .i64, .slice]) w2 fun y =>
            ∃ v : HX, Value.tuple #[.slice none 0 0, prv y, .int .i64 12] = rHX.val v ∧ HRes up T rt ls hs w.heap.size (n + 1) (2 * ptsN ls hs up.length - 1).toNat v w2 ∧ bel w w2 := by
          intro hout
          refine rd_cells (vs := sysc u r b) (by kernel_rfl) (fun j v hj => XA.cell ?_) rfl ?_
          · match j, hj with
            | 0, hj => exact hj
            | 1, hj => exact hj
            | 2, hj => exact hj
            | j + 3, hj => simp at hj
          refine call_mono (unitF u r b up T rt i 1 1 w12 H (by omega) (by omega)) ?_
          rintro x39 w40 ⟨S39, F39, hb⟩
          refine back ((none, 0, 0), lfv 1 x39, 12, ()) w40 w12.heap.size (Jup ⟨H, XA, L, U, X1, h⟩ hb) x1l sz (.inr ⟨rfl, rfl, (⟨1, unitM T.length i (1, 1), 0, 0, []⟩ : PN (PT n)), leafB n 1 i64_1 S39 (unit_i64 ⟨i64_1, i64_1⟩) F39, (right_1 (p := (⟨1, unitM T.length i (1, 1), 0, 0, []⟩ : PN (PT n))) rfl ⟨rfl, rfl, rfl⟩).2 (unit_bnd hok hrow hy hl hh ole wlo whi hout), ?_⟩)
          rw [leaf_size]; omega
        refine br_dec (fun e3 => ?_) (fun e3 => ?_)
        · refine nn_mk rfl ?_
          exact bad (.inl (by omega))
        refine nn_mk rfl ?_
        refine rd_box (by kernel_rfl) XA (i := 2) rfl rfl ?_
        refine at_int tyI64 (by kernel_rfl) H.b (j := i) rfl (by omega) fun y' hy' => ?_
        obtain rfl : y = y' := by rw [hy] at hy'; injection hy'
        refine br_dec (fun e4 => ?_) (fun e4 => ?_)
        · refine nn_mk rfl ?_
          exact bad (.inr (by omega))
        refine z_i64 (by omega) ?_
        refine hag _ hi' ⟨⟨H, XA, L, U, X1, h⟩, fun j hj row2 y2 hrow2 hy2 => ?_⟩
        rcases Nat.lt_or_ge j i with hji | hji
        · exact hrows j hji row2 y2 hrow2 hy2
        · have : j = i := by omega
          subst this
          rw [hrow] at hrow2; rw [hy] at hy2
          cases hrow2; cases hy2
          omega
    · dsimp only at e
      have hi' : i = r.2.1 := by omega
      replace hrows : ∀ (j : Nat) row y, T[j]? = some row → rt[j]? = some y → minI row ls hs up.length ≤ y ∧ y ≤ maxI row ls hs up.length := fun j row y h1 h2 => hrows j (by have := (List.getElem?_eq_some_iff.1 h1).1; omega) row y h1 h2
      refine loop_gh (G := Nat) (fun k s w' => s.2.1 = (k : Int) ∧ k ≤ up.length ∧ ((s.1 = -1 ∧ ∀ j, j < k → hs.getD j 0 ≤ ls.getD j 0) ∨ ∃ j : Nat, s.1 = (j : Int) ∧ j < up.length ∧ ls.getD j 0 < hs.getD j 0) ∧ J w') (fun k => up.length - k) 0 ⟨rfl, Nat.zero_le _, .inl ⟨rfl, fun j hj => absurd hj (Nat.not_lt_zero _)⟩, Jw⟩ ?_
      clear Jw
      rintro k ⟨s1, s2, _⟩ w56 ⟨rfl, hk, hs1, Jw⟩ again2 hag2 _
      dsimp only at hs1 ⊢
      refine br_dec (fun e2 => ?_) (fun e2 => ?_)
      · have hk' : k < up.length := by omega
        refine join_mk (fun s w' => ((s.1 = -1 ∧ ∀ j, j < k + 1 → hs.getD j 0 ≤ ls.getD j 0) ∨ ∃ j : Nat, s.1 = (j : Int) ∧ j < up.length ∧ ls.getD j 0 < hs.getD j 0) ∧ J w') (fun K hK => ?_) ?_
        · refine drw_mk fun w61 hb _ => ?_
          replace Jw := Jup Jw hb
          obtain ⟨H, XA, L, U, X1, h⟩ := Jw
          have rdU : ∀ {j : Nat} {K : Int → Prop}, j < up.length → K (hs.getD j 0) → rdp Tryz.prog (Instr.indexAt 26 (.slice hi.1 hi.2.1 hi.2.2) (.int .i64 (j : Int))) (.one .addr) fun ad => rd Tryz.prog (Instr.loadAt 2 (.pointer (some ad))) (.one (.int .i64)) w61 K := fun hj hK => at_int tyI64 (by kernel_rfl) U rfl (by omega) fun y hy => by rw [← getD_at hy]; exact hK
          have rdL : ∀ {j : Nat} {K : Int → Prop}, j < up.length → K (ls.getD j 0) → rdp Tryz.prog (Instr.indexAt 26 (.slice lo.1 lo.2.1 lo.2.2) (.int .i64 (j : Int))) (.one .addr) fun ad => rd Tryz.prog (Instr.loadAt 2 (.pointer (some ad))) (.one (.int .i64)) w61 K := fun hj hK => at_int tyI64 (by kernel_rfl) L rfl (by omega) fun y hy => by rw [← getD_at hy]; exact hK
          refine rdU hk' ?_
          refine rdL hk' ?_
          refine br_dec (fun e3 => ?_) (fun e3 => ?_)
          · refine br_dec (fun e4 => hK _ _ ⟨.inr ⟨k, rfl, hk', by omega⟩, H, XA, L, U, X1, h⟩) (fun e4 => ?_)
            rcases hs1 with ⟨q, _⟩ | ⟨j, rfl, hj, hjw⟩
            · omega
            refine rdU hk' ?_
            refine rdL hk' ?_
            have := win k; have := win j; have := ob k; have := ob j
            refine z_i64 (by omega) ?_
            refine rdU hj ?_
            refine rdL hj ?_
            refine z_i64 (by omega) ?_
            exact br_dec (fun e5 => hK _ _ ⟨.inr ⟨k, rfl, hk', by omega⟩, H, XA, L, U, X1, h⟩) (fun e5 => hK _ _ ⟨.inr ⟨j, rfl, hj, hjw⟩, H, XA, L, U, X1, h⟩)
          · refine hK _ _ ⟨?_, H, XA, L, U, X1, h⟩
            rcases hs1 with ⟨q, hq⟩ | hq
            · refine .inl ⟨q, fun j hj => ?_⟩
              rcases Nat.lt_or_ge j k with hjk | hjk
              · exact hq j hjk
              · have : j = k := by omega
                subst this; omega
            · exact .inr hq
        · rintro s w59 ⟨hs1, Jw⟩ _
          refine z_i64 (by omega) ?_
          exact hag2 (k + 1) _ _ ⟨rfl, hk', hs1, Jw⟩ (by omega)
      · have hk' : k = up.length := by omega
        subst hk'
        have x1l := Jw.2.2.2.2.1.lt
        have sz := Jw.2.2.2.2.2.size
        refine br_dec (fun e3 => ?_) (fun e3 => ?_)
        · rcases hs1 with ⟨_, hq⟩ | ⟨j, q, _⟩
          · refine call_mono (clone64 lo ls w56 Jw.2.2.1 (by omega)) ?_
            rintro (x76 : Hdr) w77 ⟨O, hb⟩
            refine back (x76, zprv, 0, ()) w77 w56.heap.size (Jup Jw hb) x1l sz (.inl ⟨rfl, ls, O.sl, fun ad ha => (O.lt ad.block (by rw [ha]; rfl)).1, point_pt hok hl hh (fun j => ?_) hrows⟩)
            have := ob j
            rcases Nat.lt_or_ge j up.length with hj | hj
            · have := hq j hj; omega
            · rw [List.getD_eq_getElem?_getD, List.getD_eq_getElem?_getD, List.getElem?_eq_none (by omega), List.getElem?_eq_none (by omega)]
          · omega
        · rcases hs1 with ⟨q, _⟩ | ⟨j, rfl, hj, hjw⟩
          · omega
          refine drw_mk fun w80 hb hsz => ?_
          replace Jw := Jup Jw hb
          obtain ⟨H, XA, L, U, X1, h⟩ := Jw
          have w1 := win j
          refine at_int tyI64 (by kernel_rfl) L (j := j) rfl (by omega) fun a ha => ?_
          refine at_int tyI64 (by kernel_rfl) U (j := j) rfl (by omega) fun d hd => ?_
          refine at_int tyI64 (by kernel_rfl) L (j := j) rfl (by omega) fun a' ha' => ?_
          obtain rfl : a = a' := by rw [ha] at ha'; injection ha'
          rw [getD_at ha, getD_at hd] at w1 hjw
          refine z_i64 (by omega) ?_
          refine rdp_quo (by decide) ?_
          have hq : (d - a).tdiv 2 = (d - a) / 2 := Int.tdiv_eq_ediv_of_nonneg (by omega)
          have hwq := IntWalk.i64_in ((d - a).tdiv 2) (by omega)
          rw [hwq]
          refine z_i64 (by omega) ?_
          refine call_mono (splitF u r b up T rt hok left xa n IH lo hi ls hs w80 H XA L U hl hh ob win hbit j (a + (d - a).tdiv 2) hj (by rw [getD_at ha, getD_at hd]; exact hjw) (by rw [getD_at ha, getD_at hd])) ?_
          rintro (x90 : HX) w91 ⟨R, hb2⟩
          exact back x90 w91 w80.heap.size (Jup ⟨H, XA, L, U, X1, h⟩ hb2) (by have := X1.lt; omega) (by have := h.size; omega) R
end Go.Proofs.YtajpdnphamomjaaGreat

/- The conditions of functions, printed by our tool; each is checked against the code by the kernel. -/



namespace Go.Proofs
open Go Go.V Go.RowKit
open Tryz (prog)
set_option maxRecDepth 100000
def S9 (s_0a : OA) (s_0n s_0c : Nat) (s_1a : OA) (s_1n s_1c : Nat) (s_2a : OA) (s_2n s_2c : Nat) (w0 : World) (R : KR) : Prop :=
 wr prog (Instr.box 29 (.agg #[.slice s_0a s_0n s_0c, .slice s_1a s_1n s_1c, .slice s_2a s_2n s_2c])) oA w0 fun (x1 : Addr) w2 =>
 wr prog (Instr.alloc 35 true (.tuple #[])) oA w2 fun (x3 : Addr) w4 =>
 rd prog (jL 29 x1) aS w4 fun (x5 : TS) =>
 call prog 18 [.agg #[jw x5.1, jw x5.2.1, jw x5.2.2.1]] (.one oI) w4 fun (x6 : Int) w7 =>
 br (x6 != 0) (wu prog (jS 35 x3 (.agg #[ji 0, .slice none 0 0, ji 0, ji 0, .slice none 0 0])) w7 fun w8 =>
 rd prog (loadVar 35 x3) aP w8 fun (x9 : TP) =>
 R (.tuple #[.slice none 0 0, .agg #[ji x9.1, jw x9.2.1, ji x9.2.2.1, ji x9.2.2.2.1, jw x9.2.2.2.2.1], ji x6]) w8)
 (rd prog (jL 29 x1) aS w7 fun (x10 : TS) =>
 call prog 19 [.agg #[jw x10.1, jw x10.2.1, jw x10.2.2.1]] (.many [aP, oB]) w7 fun (x11 : ((TP) × Bool × Unit)) w12 =>
 wr prog (Instr.alloc 35 true (.tuple #[])) oA w12 fun (x13 : Addr) w14 =>
 wu prog (jS 35 x13 (.agg #[ji x11.1.1, jw x11.1.2.1, ji x11.1.2.2.1, ji x11.1.2.2.2.1, jw x11.1.2.2.2.2.1])) w14 fun w15 =>
 br x11.2.1 (drw w15 fun w16 =>
 rd prog (jL 35 x13) aP w16 fun (x17 : TP) =>
 wu prog (jS 35 x3 (.agg #[ji x17.1, jw x17.2.1, ji x17.2.2.1, ji x17.2.2.2.1, jw x17.2.2.2.2.1])) w16 fun w18 =>
 rd prog (loadVar 35 x3) aP w18 fun (x19 : TP) =>
 R (.tuple #[.slice none 0 0, .agg #[ji x19.1, jw x19.2.1, ji x19.2.2.1, ji x19.2.2.2.1, jw x19.2.2.2.2.1], ji 12]) w18)
 (rd prog (jL 26 x1) oS w15 fun (x20 : Hd3) =>
 wr prog (Instr.makeSlice 26 (ji ((x20.2.1 : Nat) : Int)) (ji ((x20.2.1 : Nat) : Int))) oS w15 fun (x21 : Hd3) w22 =>
 rd prog (jL 29 x1) aS w22 fun (x23 : TS) =>
 call prog 20 [.agg #[jw x23.1, jw x23.2.1, jw x23.2.2.1]] (.many [oI, oB]) w22 fun (x24 : Int × Bool × Unit) w25 =>
 br x24.2.1 (rd prog (jL 29 x1) aS w25 fun (x26 : TS) =>
 wr prog (Instr.box 56 (.agg #[jw x26.1, jw x26.2.1, jw x26.2.2.1, ji 0])) oA w25 fun (x27 : Addr) w28 =>
 rd prog (jL 26 x1) oS w28 fun (x29 : Hd3) =>
 call prog 21 [jp x27, jw x21, jw x29] (.many [oS, aP, oI]) w28 fun (x30 : (Hd3 × (TP) × Int × Unit)) w31 =>
 wu prog (jS 35 x3 (.agg #[ji x30.2.1.1, jw x30.2.1.2.1, ji x30.2.1.2.2.1, ji x30.2.1.2.2.2.1, jw x30.2.1.2.2.2.2.1])) w31 fun w32 =>
 rd prog (loadVar 35 x3) aP w32 fun (x33 : TP) =>
 R (.tuple #[jw x30.1, .agg #[ji x33.1, jw x33.2.1, ji x33.2.2.1, ji x33.2.2.2.1, jw x33.2.2.2.2.1], ji x30.2.2.1]) w32)
 (rd prog (jL 29 x1) aS w25 fun (x34 : TS) =>
 wr prog (Instr.box 56 (.agg #[jw x34.1, jw x34.2.1, jw x34.2.2.1, ji 300])) oA w25 fun (x35 : Addr) w36 =>
 rd prog (jL 26 x1) oS w36 fun (x37 : Hd3) =>
 call prog 22 [jp x35, jw x21, jw x37, ji 1] (.many [oS, aP, oI]) w36 fun (x38 : (Hd3 × (TP) × Int × Unit)) w39 =>
 wu prog (jS 35 x3 (.agg #[ji x38.2.1.1, jw x38.2.1.2.1, ji x38.2.1.2.2.1, ji x38.2.1.2.2.2.1, jw x38.2.1.2.2.2.2.1])) w39 fun w40 =>
 rd prog (loadVar 35 x3) aP w40 fun (x41 : TP) =>
 R (.tuple #[jw x38.1, .agg #[ji x41.1, jw x41.2.1, ji x41.2.2.1, ji x41.2.2.2.1, jw x41.2.2.2.2.1], ji x38.2.2.1]) w40)))
def H9 : Hints := ⟨[], [(6, 2)], [], []⟩
theorem S9_calls (s_0a : OA) (s_0n s_0c : Nat) (s_1a : OA) (s_1n s_1c : Nat) (s_2a : OA) (s_2n s_2c : Nat) (w0 : World) (R : KR) (h : S9 s_0a s_0n s_0c s_1a s_1n s_1c s_2a s_2n s_2c w0 R) : Calls prog 9 #[.agg #[.slice s_0a s_0n s_0c, .slice s_1a s_1n s_1c, .slice s_2a s_2n s_2c]] w0 (ret R) :=
 vcFn_sound (H := H9) follows_ Tryz.func9 (Eq.mpr (by kernel_rfl) h)
def S12 (s_0a : OA) (s_0n s_0c : Nat) (s_1a : OA) (s_1n s_1c : Nat) (s_2a : OA) (s_2n s_2c : Nat) (w0 : World) (R : KR) : Prop :=
 wr prog (Instr.box 29 (.agg #[.slice s_0a s_0n s_0c, .slice s_1a s_1n s_1c, .slice s_2a s_2n s_2c])) oA w0 fun (x1 : Addr) w2 =>
 rd prog (jL 26 x1) oS w2 fun (x3 : Hd3) =>
 wr prog (Instr.makeSlice 26 (ji ((x3.2.1 : Nat) : Int)) (ji ((x3.2.1 : Nat) : Int))) oS w2 fun (x4 : Hd3) w5 =>
 loop (T := Unit) (()) w5 fun (g6 : Unit → World → Prop) (_s7 : Unit) w8 => ∀ _ : NV,
 loop (T := (Bool × Int × Unit)) (true, 0, ()) w8 fun (g9 : Bool × Int × Unit → World → Prop) (s10 : Bool × Int × Unit) w11 => ∀ _ : NV,
 rd prog (jL 27 (Addr.add x1 1)) oS w11 fun (x12 : Hd3) =>
 br (decide (s10.2.1 < ((x12.2.1 : Nat) : Int))) (loop (T := TF) (0, 0, ()) w11 fun (g13 : TF → World → Prop) (s14 : TF) w15 => ∀ _ : NV,
 br (decide (s14.2.1 < ((x4.2.1 : Nat) : Int))) (drw w15 fun w16 =>
 rd prog (jL 27 (Addr.add x1 1)) oS w16 fun (x17 : Hd3) =>
 rdp prog (jI 27 x17 s10.2.1) oA fun (x18 : Addr) =>
 rd prog (jL 26 x18) oS w16 fun (x19 : Hd3) =>
 rdp prog (jI 26 x19 s14.2.1) oA fun (x20 : Addr) =>
 rd prog (jL 2 x20) oI w16 fun (x21 : Int) =>
 rdp prog (jI 26 x4 s14.2.1) oA fun (x22 : Addr) =>
 rd prog (jL 2 x22) oI w16 fun (x23 : Int) =>
 z (IntKind.wrap .i64 (x21 * x23)) fun (z24 : Int) =>
 z (IntKind.wrap .i64 (s14.1 + z24)) fun (z25 : Int) =>
 z (IntKind.wrap .i64 (s14.2.1 + 1)) fun (z26 : Int) =>
 g13 (z25, z26, ()) w16)
 (br s10.1 (rd prog (jL 26 (Addr.add x1 2)) oS w15 fun (x27 : Hd3) =>
 rdp prog (jI 26 x27 s10.2.1) oA fun (x28 : Addr) =>
 rd prog (jL 2 x28) oI w15 fun (x29 : Int) =>
 z (IntKind.wrap .i64 (s10.2.1 + 1)) fun (z30 : Int) =>
 g9 ((s14.1 == x29), z30, ()) w15)
 (z (IntKind.wrap .i64 (s10.2.1 + 1)) fun (z31 : Int) =>
 g9 (false, z31, ()) w15)))
 (br s10.1 (R (.bool true) w11)
 (join (T := (Int × Unit)) (fun (s33 : Int × Unit) w34 => ∀ _ : NV,
 br (s33.1 == ((x4.2.1 : Nat) : Int)) (R (.bool false) w34)
 (rdp prog (jI 26 x4 s33.1) oA fun (x35 : Addr) =>
 rd prog (jL 2 x35) oI w34 fun (x36 : Int) =>
 z (IntKind.wrap .i64 (x36 + 1)) fun (z37 : Int) =>
 rdp prog (jI 26 x4 s33.1) oA fun (x38 : Addr) =>
 wu prog (jS 2 x38 (ji z37)) w34 fun w39 =>
 g6 (()) w39))
  fun (K32 : Int × Unit → World → Prop) =>
 loop (T := (Int × Unit)) (0, ()) w11 fun (g40 : Int × Unit → World → Prop) (s41 : Int × Unit) w42 => ∀ _ : NV,
 drw w42 fun w43 =>
 br (decide (s41.1 < ((x4.2.1 : Nat) : Int))) (rdp prog (jI 26 x4 s41.1) oA fun (x44 : Addr) =>
 rd prog (jL 2 x44) oI w43 fun (x45 : Int) =>
 rd prog (jL 26 x1) oS w43 fun (x46 : Hd3) =>
 rdp prog (jI 26 x46 s41.1) oA fun (x47 : Addr) =>
 rd prog (jL 2 x47) oI w43 fun (x48 : Int) =>
 br (x45 == x48) (rdp prog (jI 26 x4 s41.1) oA fun (x49 : Addr) =>
 wu prog (jS 2 x49 (ji 0)) w43 fun w50 =>
 z (IntKind.wrap .i64 (s41.1 + 1)) fun (z51 : Int) =>
 g40 (z51, ()) w50)
 (K32 (s41.1, ()) w43))
 (K32 (s41.1, ()) w43)))
def H12 : Hints := ⟨[(2, 0, []), (2, 2, [(4, (.one .bool)), (5, (.one (.int .i64)))]), (2, 4, [(6, (.one (.int .i64))), (7, (.one (.int .i64)))]), (2, 6, [(8, (.one (.int .i64)))]), (1, 6, [(8, (.one (.int .i64)))])], [(10, 13), (15, 14)], [], []⟩
theorem S12_calls (s_0a : OA) (s_0n s_0c : Nat) (s_1a : OA) (s_1n s_1c : Nat) (s_2a : OA) (s_2n s_2c : Nat) (w0 : World) (R : KR) (h : S12 s_0a s_0n s_0c s_1a s_1n s_1c s_2a s_2n s_2c w0 R) : Calls prog 12 #[.agg #[.slice s_0a s_0n s_0c, .slice s_1a s_1n s_1c, .slice s_2a s_2n s_2c]] w0 (ret R) :=
 vcFn_sound (H := H12) follows_ Tryz.func12 (Eq.mpr (by kernel_rfl) h)
end Go.Proofs

/- The walks of both 'right'. (Printed by mkLT.py.) -/

namespace Go.Proofs.YtajpdnphamomjaaGreat
open Go.RowKit Go.Q Go.Q.Num Go.V

set_option maxHeartbeats 3200000 in
theorem right12 (u r b : Hdr) (up : List Int) (T : List (List Int)) (rt : List Int) (hup : up.length ≤ 1000000) : ∀ (n : Nat) (p : PT n) (x : CPr) (lo hi : Hdr) (ls hs : List Int) (w : World), PrAt w n p x → Sys w u r b up T rt →
    Sl w lo.1 lo.2.1 lo.2.2 1 (ints .i64 ls) → Sl w hi.1 hi.2.1 hi.2.2 1 (ints .i64 hs) → ls.length = up.length → hs.length = up.length →
    call Tryz.prog 26 [sysv u r b, prv x, .slice lo.1 lo.2.1 lo.2.2, .slice hi.1 hi.2.1 hi.2.2] (.one (.one .bool)) w (fun y w' => (y = true ↔ rightP up T rt n p ls hs) ∧ bel w w') := by
  intro n
  induction n with
  | zero => intro p; exact p.elim
  | succ n ih =>
    intro (p : PN (PT n)) x lo hi ls hs w hP H HLo HHi hll hhl
    obtain ⟨⟨e1, b1⟩, ⟨S2, bM⟩, ⟨e3, b3⟩, ⟨e4, b4⟩, h6, xs, S5, hxl, hK⟩ := id hP
    obtain ⟨k0, m0, v0, b0, ks, _⟩ := x
    dsimp only at e1 e3 e4 S2 S5 hK
    subst e1 e3 e4
    have hxn : xs.length = ks.2.1 := by have := S5.len; rw [flat_len prc_len] at this; omega
    have hml := fr_len S2
    have hul := H.u.int
    have hlo := HLo.int
    have hhi := HHi.int
    refine call_of (S26_calls u.1 u.2.1 u.2.2 r.1 r.2.1 r.2.2 b.1 b.2.1 b.2.2 p.kind m0.1 m0.2.1 m0.2.2 p.var p.bound ks.1 ks.2.1 ks.2.2 lo.1 lo.2.1 lo.2.2 hi.1 hi.2.1 hi.2.2 w _ ?_)
    unfold S26
    refine wr_box fun y1 w2 X1 h2 _ _ => ?_
    refine wr_box fun y3 w4 X h4 _ _ => ?_
    replace X1 : Box w4 y1 (sysc u r b) := X1.up h4
    replace X : Box w4 y3 (prc (p.kind, m0, p.var, p.bound, ks, ())) := X
    have h := h2.trans h4
    replace S2 := S2.up h; replace S5 := S5.up h; replace H := H.up h; replace HLo := HLo.up h; replace HHi := HHi.up h
    have lX := X.lt
    have lX1 := X1.lt
    have no : ∀ {w' : World}, bel w w' → ¬ rightP up T rt (n + 1) p ls hs → ∃ v : Bool, Value.bool false = (RS.one (.one .bool)).val v ∧ (v = true ↔ rightP up T rt (n + 1) p ls hs) ∧ bel w w' := fun hb q => ⟨false, rfl, iff_no q, hb⟩
    refine rd_box0 (by kernel_rfl) X rfl rfl ?_
    refine br_eq (fun hk => ?_) (fun hk1 => br_eq (fun hk => ?_) (fun hk2 => br_eq (fun hk => ?_) (fun hk3 => no h (right_no hk3 fun q => (q.elim hk1 hk2).elim))))
    · refine rd_box (by kernel_rfl) X (i := 4) rfl rfl ?_
      refine br_eq (fun ek => ?_) (fun ek => no h (right_no (by dsimp only at hk; omega) fun _ z => ?_))
      · refine rd_box (by kernel_rfl) X (i := 2) rfl rfl ?_
        refine br_eq (fun ev => ?_) (fun ev => no h (right_no (by dsimp only at hk; omega) fun _ z => ev z.1))
        refine rd_box (by kernel_rfl) X (i := 3) rfl rfl ?_
        refine br_eq (fun eb => ?_) (fun eb => no h (right_no (by dsimp only at hk; omega) fun _ z => eb z.2.1))
        refine rd_boxN X1 (by kernel_rfl) rfl ?_
        refine rd_box (by kernel_rfl) X (i := 1) rfl rfl ?_
        dsimp only at ek ev eb
        refine call_mono (bnd11 u r b lo hi m0 up T rt ls hs p.mul w4 H S2 bM HLo HHi) ?_
        rintro x11 w12 ⟨hx, h12⟩
        exact ⟨x11, rfl, hx.trans (right_1 hk ⟨ev, eb, by omega⟩).symm, h.trans h12⟩
      · dsimp only at ek; omega
    · refine rd_box (by kernel_rfl) X (i := 4) rfl rfl ?_
      refine br_eq (fun ek => ?_) (fun ek => no h (right_no (by dsimp only at hk; omega) fun _ z => ?_))
      · refine rd_box (by kernel_rfl) X (i := 2) rfl rfl ?_
        refine br_eq (fun ev => ?_) (fun ev => no h (right_no (by dsimp only at hk; omega) fun _ z => ev z.1))
        refine rd_box (by kernel_rfl) X (i := 3) rfl rfl ?_
        refine br_eq (fun eb => ?_) (fun eb => no h (right_no (by dsimp only at hk; omega) fun _ z => eb z.2.1))
        refine rd_boxN X1 (by kernel_rfl) rfl ?_
        refine rd_box (by kernel_rfl) X (i := 1) rfl rfl ?_
        dsimp only at ek ev eb
        refine call_mono (lat11 u r b m0 up T rt p.mul w4 H S2 bM) ?_
        rintro x11 w12 ⟨hx, h12⟩
        exact ⟨x11, rfl, hx.trans (right_2 hk ⟨ev, eb, by omega⟩).symm, h.trans h12⟩
      · dsimp only at ek; omega
    · dsimp only at hk
      refine rd_box (by kernel_rfl) X (i := 4) rfl rfl ?_
      refine br_ne (fun e => no h fun q => ?_) (fun e2 => ?_)
      · have := ((right_3 hk).1 q).1; dsimp only at e; omega
      dsimp only at e2
      refine rd_box (by kernel_rfl) X (i := 1) rfl rfl ?_
      refine br_dec (fun e => no h fun q => ?_) (fun em => ?_)
      · have := ((right_3 hk).1 q).2.1; dsimp only at e; omega
      dsimp only at em
      refine rd_box (by kernel_rfl) X (i := 2) rfl rfl ?_
      refine br_dec (fun e => no h fun q => ?_) (fun ev0 => ?_)
      · have := ((right_3 hk).1 q).2.2.1; dsimp only at e; omega
      refine rd_box (by kernel_rfl) X (i := 2) rfl rfl ?_
      refine rd_box0 (by kernel_rfl) X1 rfl rfl ?_
      refine br_dec (fun e => no h fun q => ?_) (fun ev1 => ?_)
      · have := ((right_3 hk).1 q).2.2.1; dsimp only at e; omega
      refine rd_box (by kernel_rfl) X (i := 3) rfl rfl ?_
      refine br_dec (fun e => no h fun q => ?_) (fun eb0 => ?_)
      · have := ((right_3 hk).1 q).2.2.2.1; dsimp only at e; omega
      refine rd_box (by kernel_rfl) X (i := 3) rfl rfl ?_
      refine br_dec (fun e => no h fun q => ?_) (fun eb1 => ?_)
      · have := ((right_3 hk).1 q).2.2.2.1; dsimp only at e; omega
      dsimp only at ev0 ev1 eb0 eb1
      obtain ⟨v, hv⟩ : ∃ v : Nat, p.var = (v : Int) := ⟨p.var.toNat, by omega⟩
      have hvt : p.var.toNat = v := by omega
      have hvl : v < up.length := by omega
      obtain ⟨hx, hhx⟩ : ∃ y, hs[v]? = some y := ⟨_, List.getElem?_eq_getElem (by omega)⟩
      obtain ⟨lx, hlx⟩ : ∃ y, ls[v]? = some y := ⟨_, List.getElem?_eq_getElem (by omega)⟩
      have r3 := right_3 (up := up) (T := T) (rt := rt) (lo := ls) (hi := hs) hk
      have gh : hs.getD v 0 = hx := by rw [List.getD_eq_getElem?_getD, hhx]; rfl
      have gl : ls.getD v 0 = lx := by rw [List.getD_eq_getElem?_getD, hlx]; rfl
      rw [hvt, gh, gl] at r3
      obtain ⟨a0, ha0⟩ : ∃ y, p.kids[0]? = some y := ⟨_, List.getElem?_eq_getElem (by omega)⟩
      obtain ⟨a1, ha1⟩ : ∃ y, p.kids[1]? = some y := ⟨_, List.getElem?_eq_getElem (by omega)⟩
      obtain ⟨c0, hc0⟩ : ∃ y, xs[0]? = some y := ⟨_, List.getElem?_eq_getElem (by omega)⟩
      obtain ⟨c1, hc1⟩ : ∃ y, xs[1]? = some y := ⟨_, List.getElem?_eq_getElem (by omega)⟩
      refine call_mono (copiedF lo ls w4 HLo (by omega)) ?_
      rintro (x24 : Hdr) w25 ⟨O24, h25⟩
      refine call_mono (copiedF hi hs w25 (HHi.up h25) (by omega)) ?_
      rintro (x26 : Hdr) w27 ⟨O26, h27⟩
      have n24 := O24.len
      have n26 := O26.len
      obtain ⟨a26, ha26⟩ := own_some O26 (j := v) (by omega)
      obtain ⟨a24, ha24⟩ := own_some O24 (j := v) (by omega)
      have l24 := O24.lt a24.block (by rw [ha24]; rfl)
      have l26 := O26.lt a26.block (by rw [ha26]; rfl)
      replace O24 : OwnI w27 w4.heap.size x24 ls := Own.kept O24 h27
      have s25 := h25.size
      have s27 := h27.size
      have bk26 : blk x26.1 = some a26.block := by rw [ha26]; rfl
      have bk24 : blk x24.1 = some a24.block := by rw [ha24]; rfl
      have h7 := h25.trans h27
      replace X := X.up h7; replace X1 := X1.up h7
      refine drw_mk fun w28 h28 _ => ?_
      replace X := X.up h28; replace X1 := X1.up h28
      have h8 := h7.trans h28
      have s28 := h28.size
      replace O24 : OwnI w28 w4.heap.size x24 ls := Own.kept O24 h28
      replace O26 : OwnI w28 w25.heap.size x26 hs := Own.kept O26 h28
      refine rd_box (by kernel_rfl) X (i := 2) rfl rfl ?_
      refine rd_box (by kernel_rfl) X (i := 2) rfl rfl ?_
      refine at_int tyI64 (by kernel_rfl) O26.sl hv (by omega) fun y hy => ?_
      rw [hhx] at hy; cases hy
      refine rd_box (by kernel_rfl) X (i := 3) rfl rfl ?_
      refine z_eq (show (if p.bound < hx then p.bound else hx) = min hx p.bound by split <;> omega) ?_
      refine set_mk tyI64 O26 hv (show v < x26.2.1 by omega) rfl fun w52 O26 hE _ => ?_
      rw [ints_set] at O26
      rw [bk26] at hE
      replace O24 : OwnI w52 w4.heap.size x24 ls := Own.putNew O24 hE (fun k hk => by rw [bk24] at hk; cases hk; omega)
      have nX : y3.block ≠ a26.block := by omega
      replace X := X.xg hE nX
      replace X1 := X1.xg hE (by omega)
      refine drw_mk fun w53 h53 _ => ?_
      replace X := X.up h53; replace X1 := X1.up h53
      replace O24 : OwnI w53 w4.heap.size x24 ls := Own.kept O24 h53
      replace O26 : OwnI w53 w25.heap.size x26 (hs.set v (min hx p.bound)) := Own.kept O26 h53
      refine rd_box (by kernel_rfl) X (i := 2) rfl rfl ?_
      refine rd_box (by kernel_rfl) X (i := 2) rfl rfl ?_
      refine at_int tyI64 (by kernel_rfl) O24.sl hv (by omega) fun y hy => ?_
      rw [hlx] at hy; cases hy
      refine rd_box (by kernel_rfl) X (i := 3) rfl rfl ?_
      refine z_i64 (by dsimp only; omega) ?_
      refine z_eq (show (if p.bound + 1 > lx then p.bound + 1 else lx) = max lx (p.bound + 1) by split <;> omega) ?_
      refine set_mk tyI64 O24 hv (show v < x24.2.1 by omega) rfl fun w55 O24 hg55 _ => ?_
      rw [ints_set] at O24
      rw [bk24] at hg55
      replace O26 : OwnI w55 w25.heap.size x26 (hs.set v (min hx p.bound)) := Own.putNew O26 hg55 (fun k hk => by rw [bk26] at hk; cases hk; omega)
      replace X := X.xg hg55 (by omega)
      replace X1 := X1.xg hg55 (by omega)
      have b55 : bel w4 w55 := ((h8.grownAt hE (by omega)).trans h53).grownAt hg55 (by omega)
      refine drw_mk fun w56 h56 _ => ?_
      have b56 := b55.trans h56
      have hP0 := ((hK 0 c0 a0 hc0 ha0).up h).up b56
      have hP1 := ((hK 1 c1 a1 hc1 ha1).up h).up b56
      refine flEx_mk (fun i _ vv _ => i = 7 → ∃ c, vv = .bool c ∧ (c = true ↔ rightP up T rt n a0 ls (hs.set v (min hx p.bound)))) (fun _ _ _ _ _ h _ => h) ?_
      refine rd_boxN (X1.up h56) (by kernel_rfl) rfl ?_
      refine rd_box (by kernel_rfl) (X.up h56) (i := 4) rfl rfl ?_
      refine at_agg tyPrs agPr prc_len (by omega) (S5.up b56) rfl hc0 rfl ?_
      refine flc_mk (fun w59 hb _ => call_mono (ih a0 c0 lo x26 ls _ w59 (hP0.up hb) (H.up (b56.trans hb)) (HLo.up (b56.trans hb)) ((Own.sl O26).up (h56.trans hb)) hll (by simp [hhl])) fun y w' ⟨hy, hb'⟩ => ⟨hb', fun _ => ⟨y, rfl, hy⟩⟩) (fun x63 => ?_)
      refine br_mk (fun e5 => ?_) (fun e5 => ?_)
      · refine rd_boxN (X1.up h56) (by kernel_rfl) rfl ?_
        refine rd_box (by kernel_rfl) (X.up h56) (i := 4) rfl rfl ?_
        refine at_agg tyPrs agPr prc_len (by omega) (S5.up b56) rfl hc1 rfl ?_
        refine flend_mk fun w68 hb hf => ?_
        obtain ⟨y, hy, hy2⟩ := hf.1 rfl
        injection hy with hy
        subst hy
        refine call_mono (ih a1 c1 x24 hi _ hs w68 (hP1.up hb) (H.up (b56.trans hb)) ((Own.sl O24).up (h56.trans hb)) (HHi.up (b56.trans hb)) (by simp [hll]) hhl) ?_
        rintro x70 w71 ⟨hx70, h71⟩
        refine ⟨x70, rfl, hx70.trans ?_, (h.trans (b56.trans hb)).trans h71⟩
        rw [r3]
        refine ⟨fun q => ⟨by omega, by omega, ⟨by omega, by omega⟩, ⟨by omega, by omega⟩, fun a ha => ?_, fun a ha => ?_⟩, fun q => q.2.2.2.2.2 a1 ha1⟩
        · rw [ha0] at ha; cases ha; exact hy2.1 e5
        · rw [ha1] at ha; cases ha; exact q
      · refine flend_mk fun w72 hb hf => ?_
        obtain ⟨y, hy, hy2⟩ := hf.1 rfl
        injection hy with hy
        subst hy
        refine no (h.trans (b56.trans hb)) fun q => ?_
        have := hy2.2 ((r3.1 q).2.2.2.2.1 a0 ha0)
        rw [e5] at this; cases this
end Go.Proofs.YtajpdnphamomjaaGreat

/- The walk of IntegralProofs. -/

namespace Go.Proofs.YtajpdnphamomjaaGreat
open Go.RowKit Go.Q Go.Q.Num Go.V

def ProofOk (up : List Int) (T : List (List Int)) (rt : List Int) (n : Nat) (p : PT n) : Prop :=
  sysE up T rt = 0 ∧ (szP n p : Int) ≤ 2000 ∧ (depP n p : Int) ≤ 200 ∧ rightP up T rt n p (List.replicate up.length 0) up
theorem made_zero (n : Nat) : (madeCells (Value.int .i64 0).cells (n * 1)).toList = ints .i64 (List.replicate n 0) := by rw [Nat.mul_one]; exact made_int .i64 n
set_option maxHeartbeats 3200000 in
theorem chkP12 (u r b : Hdr) (up : List Int) (T : List (List Int)) (rt : List Int) (hup : up.length ≤ 1000000) (n : Nat) (hn : n ≤ 1000) (p : PT n) (hsz : szP n p ≤ 4 ^ 31) (x : CPr) (w : World) (hP : PrAt w n p x) (H : Sys w u r b up T rt) :
    call Tryz.prog 11 [sysv u r b, prv x] (.one (.one .bool)) w (fun y w' => (y = true ↔ ProofOk up T rt n p) ∧ bel w w') := by
  refine call_of (S11_calls u.1 u.2.1 u.2.2 r.1 r.2.1 r.2.2 b.1 b.2.1 b.2.2 x.1 x.2.1.1 x.2.1.2.1 x.2.1.2.2 x.2.2.1 x.2.2.2.1 x.2.2.2.2.1.1 x.2.2.2.2.1.2.1 x.2.2.2.2.1.2.2 w _ ?_)
  unfold S11
  have hul := H.u.int
  refine wr_box fun y1 w2 X1 h2 _ _ => ?_
  refine wr_box fun y3 w4 X h4 _ _ => ?_
  have h := h2.trans h4
  replace X1 : Box w4 y1 (sysc u r b) := X1.up h4
  replace X : Box w4 y3 (prc x) := X
  replace H := H.up h; replace hP := hP.up h
  have no : ∀ {w' : World}, bel w w' → ¬ ProofOk up T rt n p → ∃ v : Bool, Value.bool false = (RS.one (.one .bool)).val v ∧ (v = true ↔ ProofOk up T rt n p) ∧ bel w w' := fun hb q => ⟨false, rfl, iff_no q, hb⟩
  refine rd_boxN X1 (by kernel_rfl) rfl ?_
  refine call_mono (valid11 u r b up T rt w4 H) ?_
  rintro x6 w7 ⟨rfl, h'⟩
  replace h := h.trans h'; replace X := X.up h'; replace X1 := X1.up h'; replace H := H.up h'; replace hP := hP.up h'; clear h'
  refine br_ne (fun e => no h fun q => e q.1) (fun e1 => ?_)
  refine rd_boxN X (by kernel_rfl) rfl ?_
  refine call_mono (sz12 n p x w7 hsz hP) ?_
  rintro x9 w10 ⟨rfl, h'⟩
  replace h := h.trans h'; replace X := X.up h'; replace X1 := X1.up h'; replace H := H.up h'; replace hP := hP.up h'; clear h'
  refine br_dec (fun e => no h fun q => ?_) (fun e2 => ?_)
  · have := q.2.1; omega
  refine rd_boxN X (by kernel_rfl) rfl ?_
  refine call_mono (dep12 n p x w10 hn hP) ?_
  rintro x12 w13 ⟨rfl, h'⟩
  replace h := h.trans h'; replace X := X.up h'; replace X1 := X1.up h'; replace H := H.up h'; replace hP := hP.up h'; clear h'
  refine br_dec (fun e => no h fun q => ?_) (fun e3 => ?_)
  · have := q.2.2.1; omega
  refine drw_mk fun w14 h' _ => ?_
  replace h := h.trans h'; replace X := X.up h'; replace X1 := X1.up h'; replace H := H.up h'; replace hP := hP.up h'; clear h'
  refine flEx_mk (fun i _ vv w' => i = 5 → ∃ h : Hdr, vv = hv h ∧ Sl w' h.1 h.2.1 h.2.2 1 (ints .i64 (List.replicate up.length 0)))
    (fun _ _ _ _ _ h hb => fun e => by obtain ⟨t, q1, q2⟩ := h e; exact ⟨t, q1, q2.kept hb⟩) ?_
  refine rd_boxN X1 (by kernel_rfl) rfl ?_
  refine rd_boxN X (by kernel_rfl) rfl ?_
  refine rd_box0 (by kernel_rfl) X1 rfl rfl ?_
  refine flc_mk (fun w8 hb _ => wr_make tyI64 u.2.1 rfl rfl (by omega) (by unfold maxLen; omega) fun ad w' O hb' _ _ => ⟨hb', fun _ => ⟨(some ad, u.2.1, u.2.1), rfl, ?_⟩⟩) (fun (x32 : Hdr) => ?_)
  · have := (O w8.heap.size (Nat.le_refl _)).sl
    rw [made_zero, show u.2.1 = up.length from hul.symm] at this
    rw [show u.2.1 = up.length from hul.symm]
    exact this
  refine rd_box0 (by kernel_rfl) X1 rfl rfl ?_
  refine flend_mk fun w25 hb hf => ?_
  obtain ⟨z, ez, Sz⟩ := hf.1 rfl
  have := sl_inj ez
  subst this
  refine call_mono (right12 u r b up T rt hup n p x x32 u _ up w25 (hP.up hb) (H.up hb) Sz (H.up hb).u (by simp) rfl) ?_
  rintro x27 w28 ⟨hx, h28⟩
  refine ⟨x27, rfl, hx.trans ⟨fun q => ⟨by omega, by omega, by omega, q⟩, fun q => q.2.2.2⟩, (h.trans hb).trans h28⟩
end Go.Proofs.YtajpdnphamomjaaGreat

/- Solve where the points are few. -/



namespace Go.Proofs.YtajpdnphamomjaaGreat
open Go.RowKit Go.Q Go.Q.Num Go.V

section
variable {up : List Int} {T : List (List Int)} {rt lo hi xs : List Int}
theorem pt_sol (hok : sysE up T rt = 0) (h : Pt T rt (zs up.length) up xs) : SolP up T rt (one1s xs) ∧ xs.length = up.length ∧ ∀ n ∈ xs, I64 n := by
  obtain ⟨hul, hTl, hR, hA⟩ := sysE_ok hok
  have hl := h.lhi
  have each : ∀ (k : Nat) x u, xs[k]? = some x → up[k]? = some u → 0 ≤ x ∧ x ≤ u := fun k x u hx hu => by
    have hk : k < up.length := (List.getElem?_eq_some_iff.1 hu).1
    exact h.each k 0 u x (by rw [List.getElem?_replicate, if_pos hk]) hu hx
  refine ⟨⟨hok, by simp [hl], fun k p u hp hu => ?_, fun i row y hrow hy => ?_⟩, hl.symm, fun n hn => ?_⟩
  · rw [List.getElem?_map] at hp
    obtain ⟨x, hx, rfl⟩ := Option.map_eq_some_iff.1 hp
    exact (each_int (hR.1 u (mem_at hu)).2).2 (each k x u hx hu)
  · rw [dotN_int, hl, h.rows i row y hrow hy]
  · obtain ⟨k, hk⟩ := List.getElem?_of_mem hn
    have hkl : k < up.length := by have := (List.getElem?_eq_some_iff.1 hk).1; omega
    obtain ⟨u, hu⟩ : ∃ u, up[k]? = some u := ⟨_, List.getElem?_eq_getElem hkl⟩
    have h1 := each k n u hk hu
    have h2 := hR.1 u (mem_at hu)
    exact ⟨by omega, by omega⟩
end
def SRes (up : List Int) (T : List (List Int)) (rt : List Int) (n : Nat) (x : HX) (w' : World) : Prop :=
  (x.2.2.1 = 0 ∧ ∃ xs, Sl w' x.1.1 x.1.2.1 x.1.2.2 1 (ints .i64 xs) ∧ Pt T rt (zs up.length) up xs) ∨
  (x.2.2.1 = 12 ∧ x.1 = (none, 0, 0) ∧ ∃ p : PT n, PrAt w' n p x.2.1 ∧ ProofOk up T rt n p)
theorem SRes.up {up : List Int} {T : List (List Int)} {rt : List Int} {n : Nat} {x : HX} {w w' : World} (h : SRes up T rt n x w) (hb : bel w w') : SRes up T rt n x w' := by
  rcases h with ⟨h1, xs, h2, h3⟩ | ⟨h1, h2, p, h3, h4⟩
  · exact .inl ⟨h1, xs, h2.up hb, h3⟩
  · exact .inr ⟨h1, h2, p, h3.up hb, h4⟩

end Go.Proofs.YtajpdnphamomjaaGreat

/- The nodes of a search by relaxations: which number is not whole. -/



namespace Go.Proofs.YtajpdnphamomjaaGreat
open Go.RowKit Go.Q Go.Q.Num Go.V

theorem dec_Q : ∀ q : Rat, Lget [.int .i64, .int .i64] (encQ q) = some (qv q) := fun _ => rfl
theorem denF (q : Rat) (w : World) : call Tryz.prog 43 [.agg #[.int .i64 (qv q).1, .int .i64 (qv q).2.1]] (.one (.one .bool)) w (fun (x : Bool) w' => x = decide (q.den ≠ 1) ∧ bel w w') := by
  refine call_of (S43_calls (qv q).1 (qv q).2.1 w _ ?_)
  unfold S43
  refine wr_box fun x1 w2 X h' _ _ => ?_
  refine rd_box (i := 1) (by kernel_rfl) X rfl rfl ?_
  refine ⟨_, rfl, ?_, h'⟩
  show (((q.den : Nat) : Int) != 1) = decide (q.den ≠ 1)
  by_cases h : q.den = 1
  · rw [h]; rfl
  · rw [decide_eq_true h]
    simp only [bne_iff_ne, ne_eq]
    omega
theorem idxN (h : Hdr) (L : List Rat) (w : World) (H : Sl w h.1 h.2.1 h.2.2 2 (L.flatMap encQ)) :
    call Tryz.prog 42 [.slice h.1 h.2.1 h.2.2, .func (.func 43) #[] #[]] (.one (.one (.int .i64))) w (fun (x : Int) w' => x = idxI (fun q : Rat => decide (q.den ≠ 1)) L ∧ bel w w') := by
  refine call_of (S42g_calls h.1 h.2.1 h.2.2 w _ ?_)
  unfold S42g
  exact idx_aggs tyFracs agFrac encQ_len (by omega) (l := [.int .i64, .int .i64]) (dec := qv) dec_Q (fargs := fun (x5 : Int × Int × Unit) => [.agg #[.int .i64 x5.1, .int .i64 x5.2.1]]) H (fun q => decide (q.den ≠ 1)) (fun _ q _ w' _ => denF q w')
end Go.Proofs.YtajpdnphamomjaaGreat

/- A node of a search by relaxations, plain: whole numbers are a point; where a number is not whole the box splits. -/

namespace Go.Proofs.YtajpdnphamomjaaGreat
open Go.RowKit Go.Q Go.Q.Num Go.V

section
variable {up : List Int} {T : List (List Int)} {rt ls hs : List Int}
theorem whole_numW {q : Rat} (h : q.den = 1) : ((q.num : Int) : Rat) = q := by
  have h1 : (q.num : Rat) = mkRat q.num q.den := by rw [h]; exact (Rat.mkRat_one _).symm
  rw [h1, Rat.mkRat_self]
theorem whole_pt (hok : sysE up T rt = 0) (hll : ls.length = up.length) (hhl : hs.length = up.length) (hle : ∀ (k : Nat) a b, ls[k]? = some a → hs[k]? = some b → a ≤ b) {c : Nat} {B : Tb}
    (hR : Rch (up.length + T.length) T.length (tb0 up T rt ls hs T.length) c B) (ok : TbOk (up.length + T.length) T.length B) (hw : B.wr T.length = none) (hden : ∀ q ∈ B.val.take up.length, q.den = 1) : Pt T rt ls hs ((B.val.take up.length).map fun q => q.num) := by
  obtain ⟨hul, hTl, hRr, hA⟩ := sysE_ok hok
  obtain ⟨h1, h2⟩ := rlx_sol hA hll hhl hle hR hw
  have hL : ((B.val.take up.length).map fun q => q.num).length = up.length := by rw [List.length_map, List.length_take, ok.lv]; omega
  have hv : ∀ k, k < up.length → (((((B.val.take up.length).map fun q => q.num).getD k 0 : Int)) : Rat) = B.v k := fun k hk => by
    have e : (B.val.take up.length)[k]? = some (B.v k) := by rw [List.getElem?_take, if_pos hk, ok.val_get (by omega)]
    rw [List.getD_eq_getElem?_getD, List.getElem?_map, e]
    exact whole_numW (hden _ (List.mem_of_getElem? e))
  refine ⟨by omega, by omega, fun k a b x ha hb hx => ?_, fun i r b hr hb => ?_⟩
  · have hk : k < up.length := by have := (List.getElem?_eq_some_iff.1 hx).1; omega
    have hq := h1 k a b ha hb
    have e := hv k hk
    rw [List.getD_eq_getElem?_getD, hx] at e
    have e' : ((x : Int) : Rat) = B.v k := e
    rw [← e'] at hq
    exact ⟨Rat.intCast_le_intCast.1 hq.1, Rat.intCast_le_intCast.1 hq.2⟩
  · rw [hL]
    have := h2 i r b hr hb
    have e := dotI_sm r ((B.val.take up.length).map fun q => q.num) up.length
    have hrl : r.length = up.length := hA.2 r (mem_at hr)
    rw [sm_congr (g := fun j => B.v j * ((r.getD j 0 : Int) : Rat)) (fun k hk => ?_), this] at e
    · exact Rat.intCast_inj.1 e
    · have e1 : (B.val.take up.length)[k]? = some (B.v k) := by rw [List.getElem?_take, if_pos hk, ok.val_get (by omega)]
      have e2 : r[k]? = some (r.getD k 0) := by rw [List.getD_eq_getElem?_getD, List.getElem?_eq_getElem (by omega)]; rfl
      unfold dotJ
      rw [e2, List.getElem?_map, e1]
      show (((r.getD k 0 * (B.v k).num : Int)) : Rat) = _
      rw [Rat.intCast_mul, whole_numW (hden _ (List.mem_of_getElem? e1)), Rat.mul_comm]
end
end Go.Proofs.YtajpdnphamomjaaGreat
