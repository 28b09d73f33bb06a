import Derived.KernelRfl
import Derived.Test.YtcfghfmlfgaeaaaGreatDoorOpen
import Derived.Test.YtcfghfmlfgaeaaaGreatDoorPackTopPrivate5

/- Made schemas: Plain. -/

namespace Go.Proofs.YtcfghfmlfgaeaaaGreatDoor
open Go.RowKit Go.Q Go.V Go.Bag Go.Shelf

def PlI (w : World) (B : Nat) (tb : Addr) (l : Hdr) (L : List Int) (p : Nat) (x1 x3 : Addr) (i : Nat) (w' : World) : Prop :=
  w.grownBy w' (some tb.block) ∧ B ≤ w'.heap.size ∧ Box w' x1 [.slice none 0 0] ∧ ∃ (out : Hdr) (Ls : List TH) (D : List TPar) (q : Nat), Box w' x3 [.slice out.1 out.2.1 out.2.2] ∧ Own w' B 41 6 out.1 out.2.1 out.2.2 (Ls.flatMap tbc) ∧
    Ls.length = i ∧ D.length = i ∧ (∀ (k : Nat) x t, Ls[k]? = some x → D[k]? = some t → TbS w' B k x t) ∧ (∀ (k : Nat) t, D[k]? = some t → t.Ok k) ∧ Tape w' tb l L q ∧ q ≤ p + 1 + 20 * i
set_option maxHeartbeats 4000000 in
theorem plainMk {w : World} {tb : Addr} {l : Hdr} {L : List Int} {p : Nat} (Tp : Tape w tb l L p) (hp : p ≤ 900000) :
    call Tryz.prog 5 [.pointer (some tb)] (.one (.agg [.slice])) w (fun (x : Hdr × Unit) w' => ∃ D q, OkD D ∧ q ≤ p + 100 ∧ SchC tb.block w' x.1 D ∧ Tape w' tb l L q ∧ w.grownBy w' (some tb.block)) := by
  have htl := Tp.box.lt
  refine call_of (S5t_calls (some tb) w _ ?_)
  unfold S5t
  refine wr_alloc (z := .agg #[.slice none 0 0]) (by kernel_rfl) fun x1 w2 X1 h2 hx1 hs2 => ?_
  refine wr_alloc (z := .agg #[.slice none 0 0]) (by kernel_rfl) fun x3 w4 X3 h4 hx3 hs4 => ?_
  replace X1 : Box w4 x1 [.slice none 0 0] := Box.up (show Box w2 x1 [.slice none 0 0] from X1) h4
  replace X3 : Box w4 x3 [.slice none 0 0] := X3
  refine call_mono (nextF 3 ((Tp.up h2).up h4) (by omega) ⟨by omega, by omega⟩) ?_
  rintro (x5 : Int) w6 ⟨hx5, T6, g6⟩
  obtain ⟨m, rfl⟩ : ∃ m : Nat, x5 = (m : Int) := ⟨x5.toNat, by omega⟩
  refine z_i64 (by omega) ?_
  have hz6 := g6.size
  have G6 : w.grownBy w6 (some tb.block) := (grown_of_bel (h2.trans h4) _).trans g6
  replace X1 := X1.xg g6 (by omega)
  replace X3 := X3.xg g6 (by omega)
  have hB0 : tb.block < w4.heap.size := by omega
  refine loop_up (m + 1) (PlI w w4.heap.size tb l L p x1 x3) ⟨G6, by omega, X1, (none, 0, 0), [], [], p + 1, X3, Own.nil _ _ _ _, rfl, rfl, fun k x t e => by simp at e, fun k t e => by simp at e, T6, by omega⟩ fun i w10 hi ⟨G10, hz10, X1, out, Ls, D, q, X3, OO, hLs, hDl, hTs, hOk, T10, hq⟩ again hag _ => ?_
  have hol : out.2.1 = i := by have := OO.1; rw [flat_len tbc_len] at this; omega
  refine br_dec (fun e => ?_) (fun e => ?_)
  · dsimp only at e
    have hi' : i < m + 1 := by omega
    have hi3 : i < 3 := by omega
    have hB10 : tb.block < w10.heap.size := by omega
    refine join_mk (fun _ w' => PlI w w4.heap.size tb l L p x1 x3 (i + 1) w') (fun K hK => ?_) (fun _ w13 hJ _ => ?_)
    · refine call_mono (nameMk 116 i (by omega)) ?_
      rintro s w16 ⟨rfl, h16⟩
      refine wr_lit tyC (encC (idB, 1, false)).toArray (fill_one 3 (.agg (encC (idB, 1, false)).toArray) _ rfl (by simp)) (by omega) (by omega) rfl (by unfold maxLen; omega) fun ad17 w18 O17 h18 hb17 hs18 => ?_
      refine wr_lit tyI #[.int .i64 0] (fill_one 1 (.int .i64 0) _ rfl (by simp)) (by omega) (by omega) rfl (by unfold maxLen; omega) fun ad19 w20 O19 h20 hb19 hs20 => ?_
      refine wr_alloc (z := .agg zTb.toArray) (by kernel_rfl) fun x21 w22 X21 h22 hx21 hs22 => ?_
      replace X21 : Box w22 x21 zTb := X21
      have hz16 := h16.size
      refine wu_box X21 (v := tbv (nm 116 i, (some ad17, 1, 1), (some ad19, 1, 1), (none, 0, 0), (none, 0, 0), (none, 0, 0), ())) (by kernel_rfl) (Nat.le_refl 6) rfl fun w23 X23 g23 s23 => ?_
      have P23 : PT w23 w10.heap.size i x21 (some ad17, 1, 1) (some ad19, 1, 1) (none, 0, 0) (none, 0, 0) (colsOf [] []) 0 [] := by
        have hn17 : some ad17.block ≠ some x21.block := by intro q; injection q; omega
        have hn19 : ad19.block ≠ x21.block := by omega
        refine ⟨X23, by omega, ?_, fun k hk => by cases hk; show ad17.block ≠ x21.block; omega, ?_, fun ad ha => by cases ha; exact hn19, ⟨[], Own.nil _ _ _ _, rfl, fun k p j q1 _ => by simp at q1⟩⟩
        · exact Own.keptBy ((((ownLe (O17 w16.heap.size (Nat.le_refl _)) hz16).kept h20).kept h22)) g23 (.inr hn17)
        · exact (SB.of (h := (some ad19, 1, 1)) ((O19 w18.heap.size (Nat.le_refl _)).kept h22) (by omega)).off g23 (fun ad ha => by cases ha; exact hn19)
      have G23 : w10.grownBy w23 (some tb.block) := xg_put (grown_of_bel (((h16.trans h18).trans h20).trans h22) _) g23 fun k hk => by injection hk; exact .inl (by omega)
      have T23 : Tape w23 tb l L q := ((((T10.up h16).up h18).up h20).up h22).put g23 fun k hk => by injection hk; omega
      have hz23 := G23.size
      refine call_mono (nextF 2 T23 (by omega) ⟨by omega, by omega⟩) ?_
      rintro (x24 : Int) w25 ⟨hx24, T25, g25⟩
      obtain ⟨f, rfl⟩ : ∃ f : Nat, x24 = (f : Int) := ⟨x24.toNat, by omega⟩
      refine z_i64 (by omega) ?_
      have G25 := G23.trans g25
      have P25 := P23.xg g25 hB10
      clear P23 T23 T10 X23 X21 O17 O19
      refine loop_up (1 + f) (fun k w' => w10.grownBy w' (some tb.block) ∧ ∃ cols fs q', PT w' w10.heap.size i x21 cols (some ad19, 1, 1) (none, 0, 0) (none, 0, 0) (colsOf fs []) 0 [] ∧ fs.length = k ∧ (∀ p ∈ fs, 1 ≤ p.1 ∧ p.1 ≤ 3) ∧ Tape w' tb l L q' ∧ q' ≤ q + 1 + 2 * k) ⟨G25, _, [], q + 1, P25, rfl, fun p hp => by simp at hp, T25, by omega⟩ fun k w29 hk ⟨G29, cols, fs, q', P29, hfs, hty, T29, hq'⟩ again2 hag2 _ => ?_
      have hz29 := G29.size
      refine br_dec (fun e => ?_) (fun e => ?_)
      · dsimp only at e
        have hk' : k < 1 + f := by omega
        refine drw_mk fun w30 h30 _ => ?_
        have P30 := P29.up h30
        have T30 := T29.up h30
        have G30 := G29.trans (grown_of_bel h30 _)
        have hz30 := G30.size
        refine flExC_mk (Xg tb.block) (fun _ _ _ => True) (fun D w' => Tape w' tb l L (q' + (D 5).toNat + (D 8).toNat))
          (fun j ags v w' => (j = 3 → v = .string (nm 99 k)) ∧ (j = 5 ∨ j = 8 → ∃ x : Int, v = .int .i64 x ∧ 0 ≤ x ∧ x < 3) ∧ (j = 11 → ∃ ad cs, ags = [.agg cs.toArray] ∧ v = .slice (some ad) 1 1 ∧ Sl w' (some ad) 1 1 3 cs ∧ w30.heap.size ≤ ad.block))
          (fun _ => grown_refl _ _) (fun _ _ _ h h' => World.grownBy.trans h h') (fun j j' ags v w1 w2 _ h hE _ => ⟨h.1, h.2.1, fun e => ?_⟩) T30 ?_
        · obtain ⟨ad, c, q1, q2, q3, q4⟩ := h.2.2 e
          exact ⟨ad, c, q1, q2, q3.xg hE (fun ad' ha _ => by cases ha; omega), q4⟩
        refine rdE_box (by kernel_rfl) (fun w' hE => (P30.xg hE.1 hB10).box) (i := 1) rfl rfl ?_
        refine flcC_mk (fun Dd w36 hD hE hS _ => ?_) (fun x41 => ?_)
        · refine call_mono (nameMk 99 k (by omega)) ?_
          rintro s w40 ⟨rfl, h40⟩
          exact ⟨grown_of_bel h40 _, trivial, (hS.up h40).eq (by rw [setD_ne (show (5 : Nat) ≠ 3 by decide), setD_ne (show (8 : Nat) ≠ 3 by decide)]), fun _ => rfl, fun e => by omega, fun e => by omega⟩
        refine flcC_mk (fun Dd w42 hD hE hS _ => ?_) (fun x47 => ?_)
        · have b8 := Bool.toNat_le (Dd 8)
          rw [hD] at hS
          refine call_mono (nextF 3 hS (by simp only [Bool.toNat_false]; omega) ⟨by omega, by omega⟩) ?_
          rintro (x45 : Int) w46 ⟨hx, T46, g46⟩
          exact ⟨g46, trivial, T46.eq (by rw [setD_self, setD_ne (show (8 : Nat) ≠ 5 by decide)]; simp only [Bool.toNat_false, Bool.toNat_true]; omega), fun e => by omega, fun _ => ⟨_, rfl, hx⟩, fun e => by omega⟩
        refine z_eq rfl ?_
        refine flcC_mk (fun Dd w49 hD hE hS _ => ?_) (fun x54 => ?_)
        · have b5 := Bool.toNat_le (Dd 5)
          rw [hD] at hS
          refine call_mono (nextF 3 hS (by simp only [Bool.toNat_false]; omega) ⟨by omega, by omega⟩) ?_
          rintro (x52 : Int) w53 ⟨hx, T53, g53⟩
          exact ⟨g53, trivial, T53.eq (by rw [setD_self, setD_ne (show (5 : Nat) ≠ 8 by decide)]; simp only [Bool.toNat_false, Bool.toNat_true]), fun e => by omega, fun _ => ⟨_, rfl, hx⟩, fun e => by omega⟩
        refine flcC_mk (fun Dd w55 hD hE hS _ => ?_) (fun x60 => ?_)
        · refine wr_lit tyC (encC (x41, IntKind.wrap .i64 (1 + x47), x54 == 0)).toArray (fill_one 3 (.agg (encC (x41, IntKind.wrap .i64 (1 + x47), x54 == 0)).toArray) _ rfl (by simp)) (by omega) (by omega) rfl (by unfold maxLen; omega) fun ad w59 O59 h59 hb59 _ => ?_
          have hzE : w30.heap.size ≤ w55.heap.size := World.grownBy.size hE
          exact ⟨grown_of_bel h59 _, trivial, (hS.up h59).eq (by rw [setD_ne (show (5 : Nat) ≠ 11 by decide), setD_ne (show (8 : Nat) ≠ 11 by decide)]), fun e => by omega, fun e => by omega, fun _ => ⟨ad, encC (x41, IntKind.wrap .i64 (1 + x47), x54 == 0), rfl, rfl, (O59 w55.heap.size (Nat.le_refl _)).sl, by omega⟩⟩
        refine flendC_mk fun w61 hE hS ⟨f11, f8, f5, f3, _⟩ => ?_
        have e3 : x41 = nm 99 k := by have := f3.1 rfl; injection this
        obtain ⟨y5, a5, b5⟩ := f5.2.1 (.inl rfl)
        obtain rfl : x47 = y5 := by injection a5
        obtain ⟨ad, cs, q1, q2, q3, q4⟩ := f11.2.2 rfl
        have hcs : encC (x41, IntKind.wrap .i64 (1 + x47), x54 == 0) = cs := agg1 q1
        rw [← hcs, e3, IntWalk.i64_in _ ⟨by omega, by omega⟩] at q3
        obtain rfl : x60 = (some ad, 1, 1) := sl_eq q2
        have G61 : w10.grownBy w61 (some tb.block) := G30.trans hE
        have hz61 := G61.size
        refine (P30.xg hE hB10).col (by have := fcols_len fs 0; simp [colsOf, kcols, this]; omega) (c := (nm 99 k, 1 + x47, x54 == 0)) q3 hz61 fun cols' w65 P65 hX => ?_
        refine z_i64 (by omega) ?_
        have hS' : Tape w61 tb l L (q' + 2) := hS
        refine hag2 _ hk' ⟨xb_put G61 hX (Nat.le_refl _), cols', fs ++ [(1 + x47, x54 == 0)], q' + 2, ?_, by simp [hfs], fun p hp => ?_, hS'.xb hX (fun b hb => by show tb.block < b; omega), by omega⟩
        · have e1 : colsOf (fs ++ [(1 + x47, x54 == 0)]) [] = colsOf fs [] ++ [(nm 99 k, 1 + x47, x54 == 0)] := by
            unfold colsOf
            rw [fcols_app, hfs, Nat.zero_add]
            simp [kcols]
          rw [e1]; exact P65
        · rcases List.mem_append.1 hp with h | h
          · exact hty p h
          · simp at h; subst h; exact ⟨by dsimp only; omega, by dsimp only; omega⟩
      · dsimp only at e
        have hkf : k = 1 + f := by omega
        subst hkf
        have hf2 : f < 2 := by omega
        refine join_mk (fun _ w' => w10.grownBy w' (some tb.block) ∧ ∃ cols fors ts q2, PT w' w10.heap.size i x21 cols (some ad19, 1, 1) fors (none, 0, 0) (colsOf fs ts) fs.length ts ∧ ts.length ≤ 2 ∧ (∀ j ∈ ts, j < i) ∧ Tape w' tb l L q2 ∧ q2 ≤ q + 9) (fun K2 hK2 => ?_) (fun _ w69 hJ _ => ?_)
        · refine loop_up 2 (fun n w' => w10.grownBy w' (some tb.block) ∧ ∃ cols fors ts q2, PT w' w10.heap.size i x21 cols (some ad19, 1, 1) fors (none, 0, 0) (colsOf fs ts) fs.length ts ∧ ts.length = n ∧ (∀ j ∈ ts, j < i) ∧ Tape w' tb l L q2 ∧ q2 ≤ q + 5 + 2 * n) ⟨G29, cols, (none, 0, 0), [], q', P29.nf' _, rfl, fun j hj => by simp at hj, T29, by omega⟩ fun n w114 hn ⟨G114, cols, fors, ts, q2, P114, hts, hlt, T114, hq2⟩ again3 hag3 _ => ?_
          have hout : q2 ≤ q + 8 → K2 () w114 := fun h => hK2 () _ ⟨G114, cols, fors, ts, q2, P114, by omega, hlt, T114, by omega⟩
          refine br_dec (fun e => ?_) (fun e => hK2 () _ ⟨G114, cols, fors, ts, q2, P114, by omega, hlt, T114, by omega⟩)
          dsimp only at e
          have hn2 : n < 2 := by omega
          refine br_dec (fun e0 => ?_) (fun e0 => hout (by omega))
          dsimp only at e0
          have hi0 : 0 < i := by omega
          have hz114 := G114.size
          refine z_i64 (by dsimp only; omega) ?_
          refine call_mono (nextF (3 - (n : Int)) T114 (by omega) ⟨by omega, by omega⟩) ?_
          rintro (x116 : Int) w117 ⟨hx116, T117, g117⟩
          have P117 := P114.xg g117 hB10
          have G117 := G114.trans g117
          refine br_dec (fun ex => ?_) (fun ex => hK2 () _ ⟨G117, cols, fors, ts, q2 + 1, P117, by omega, hlt, T117, by omega⟩)
          refine drw_mk fun w118 h118 _ => ?_
          have P118 := P117.up h118
          have T118 := T117.up h118
          have G118 := G117.trans (grown_of_bel h118 _)
          refine flEx_mk (fun j ags v w' => (j = 3 → v = .string (nm 102 n)) ∧ (j = 5 → ∃ ad cs, ags = [.agg cs.toArray] ∧ v = .slice (some ad) 1 1 ∧ Sl w' (some ad) 1 1 3 cs)) (fun j ags v w1 w2 h hb => ⟨h.1, fun e => ?_⟩) ?_
          · obtain ⟨ad, c, q1, q2, q3⟩ := h.2 e
            exact ⟨ad, c, q1, q2, q3.up hb⟩
          refine rd_box (by kernel_rfl) P118.box (i := 1) rfl rfl ?_
          refine flc_mk (fun w121 _ _ => ?_) (fun x125 => ?_)
          · refine call_mono (nameMk 102 n (by omega)) ?_
            rintro s w124 ⟨rfl, h124⟩
            exact ⟨h124, fun _ => rfl, fun e => by omega⟩
          refine flc_mk (fun w126 _ _ => ?_) (fun x130 => ?_)
          · refine wr_lit tyC (encC (x125, 1, false)).toArray (fill_one 3 (.agg (encC (x125, 1, false)).toArray) _ rfl (by simp)) (by omega) (by omega) rfl (by unfold maxLen; omega) fun ad w129 O129 h129 _ _ => ?_
            exact ⟨h129, fun e => by omega, fun _ => ⟨ad, encC (x125, 1, false), rfl, rfl, (O129 w126.heap.size (Nat.le_refl _)).sl⟩⟩
          refine flend_mk fun w131 h131 ⟨f5, f3, _⟩ => ?_
          obtain rfl : x125 = nm 102 n := by have := f3.1 rfl; injection this
          obtain ⟨ad, cs, q1, q2', q3⟩ := f5.2 rfl
          have hcs : encC (nm 102 n, 1, false) = cs := agg1 q1
          rw [← hcs] at q3
          obtain rfl : x130 = (some ad, 1, 1) := sl_eq q2'
          have G131 : w10.grownBy w131 (some tb.block) := G118.trans (grown_of_bel h131 _)
          have T131 := T118.up h131
          have hcl : (colsOf fs ts).length = 1 + fs.length + ts.length := cols_len ⟨fs, ts⟩
          refine (P118.up h131).col (by omega) (c := (nm 102 n, 1, false)) q3 G131.size fun cols' w135 P135 hX => ?_
          have G135 := xb_put G131 hX (Nat.le_refl _)
          have T135 := T131.xb hX (fun b hb => by show tb.block < b; omega)
          refine drw_mk fun w136 h136 _ => ?_
          have P136 := P135.up h136
          have T136 := T135.up h136
          have G136 := G135.trans (grown_of_bel h136 _)
          have hz136 := G136.size
          have hx21l := P136.box.lt
          have hx21n := P136.new
          clear P135 P118 P117 P114 T135 T131 T118 T117 T114
          refine flExC_mk (Xg tb.block) (fun _ _ _ => True) (fun D w' => Tape w' tb l L (q2 + 1 + (D 9).toNat))
            (fun j ags v w' => (j = 6 → ∃ (ad : Addr) (c : Int), ags = [.int .i64 c] ∧ v = .slice (some ad) 1 1 ∧ SB w' (x21.block + 1) 3 (some ad, 1, 1) 1 (ints .i64 [c])) ∧ (j = 9 → ∃ x : Int, v = .int .i64 x ∧ 0 ≤ x ∧ x < (i : Int)) ∧ (j = 10 → ∃ (s : Value) (x : Int), ags = [s, .int .i64 x] ∧ v = .string (nm 116 x.toNat)) ∧ (j = 12 → ∃ ad cs, ags = [.agg cs.toArray] ∧ v = .slice (some ad) 1 1 ∧ Sl w' (some ad) 1 1 2 cs ∧ w136.heap.size ≤ ad.block))
            (fun _ => grown_refl _ _) (fun _ _ _ h h' => World.grownBy.trans h h') (fun j j' ags v w1 w2 _ h hE _ => ⟨fun e => ?_, h.2.1, h.2.2.1, fun e => ?_⟩) T136 ?_
          · obtain ⟨ad, c, q1, q2, q3⟩ := h.1 e
            exact ⟨ad, c, q1, q2, q3.xg hE (by omega)⟩
          · obtain ⟨ad, c, q1, q2, q3, q4⟩ := h.2.2.2 e
            exact ⟨ad, c, q1, q2, q3.xg hE (fun ad' ha _ => by cases ha; omega), q4⟩
          refine rdE_box (by kernel_rfl) (fun w' hE => (P136.xg hE.1 hB10).box) (i := 4) rfl rfl ?_
          refine rdE_box (by kernel_rfl) (fun w' hE => (P136.xg hE.1 hB10).box) (i := 1) rfl rfl ?_
          have hcl2 := P136.clen
          rw [List.length_append, hcl] at hcl2
          simp only [List.length_cons, List.length_nil, Nat.zero_add] at hcl2
          refine z_i64 (by dsimp only; omega) ?_
          refine flcC_mk (fun Dd w144 hD hE hS _ => ?_) (fun x149 => ?_)
          · refine wr_lit tyI #[.int .i64 ((cols'.2.1 : Int) - 1)] (fill_one 1 (.int .i64 ((cols'.2.1 : Int) - 1)) _ rfl (by simp)) (by omega) (by omega) rfl (by unfold maxLen; omega) fun ad w148 O148 h148 hb148 _ => ?_
            have hzE : w136.heap.size ≤ w144.heap.size := World.grownBy.size hE
            exact ⟨grown_of_bel h148 _, trivial, (hS.up h148).eq (by rw [setD_ne (show (9 : Nat) ≠ 6 by decide)]), fun _ => ⟨ad, _, rfl, rfl, SB.of (h := (some ad, 1, 1)) (O148 w144.heap.size (Nat.le_refl _)) (by omega)⟩, fun e => by omega, fun e => by omega, fun e => by omega⟩
          refine flcC_mk (fun Dd w150 hD hE hS _ => ?_) (fun x155 => ?_)
          · rw [hD] at hS
            refine call_mono (nextF (i : Int) hS (by simp only [Bool.toNat_false]; omega) ⟨by omega, by omega⟩) ?_
            rintro (x153 : Int) w154 ⟨hx, T154, g154⟩
            exact ⟨g154, trivial, T154.eq (by rw [setD_self]; simp only [Bool.toNat_false, Bool.toNat_true]), fun e => by omega, fun _ => ⟨_, rfl, hx⟩, fun e => by omega, fun e => by omega⟩
          refine flcC_mk (fun Dd w156 hD hE hS hpre => ?_) (fun x161 => ?_)
          · obtain ⟨y, a1, a2⟩ := hpre.1.2.1 rfl
            obtain rfl : x155 = y := by injection a1
            obtain ⟨to, rfl⟩ : ∃ to : Nat, x155 = (to : Int) := ⟨x155.toNat, by omega⟩
            refine call_mono (nameMk 116 to (by omega)) ?_
            rintro s w160 ⟨rfl, h160⟩
            exact ⟨grown_of_bel h160 _, trivial, (hS.up h160).eq (by rw [setD_ne (show (9 : Nat) ≠ 10 by decide)]), fun e => by omega, fun e => by omega, fun _ => ⟨_, _, rfl, by simp⟩, fun e => by omega⟩
          refine flcC_mk (fun Dd w162 hD hE hS _ => ?_) (fun x167 => ?_)
          · refine wr_lit tyFo (encFo (x149, x161)).toArray (fill_one 2 (.agg (encFo (x149, x161)).toArray) _ rfl (by simp)) (by omega) (by omega) rfl (by unfold maxLen; omega) fun ad w166 O166 h166 hb166 _ => ?_
            have hzE : w136.heap.size ≤ w162.heap.size := World.grownBy.size hE
            exact ⟨grown_of_bel h166 _, trivial, (hS.up h166).eq (by rw [setD_ne (show (9 : Nat) ≠ 12 by decide)]), fun e => by omega, fun e => by omega, fun e => by omega, fun _ => ⟨ad, encFo (x149, x161), rfl, rfl, (O166 w162.heap.size (Nat.le_refl _)).sl, by omega⟩⟩
          refine flendC_mk fun w168 hE hS ⟨f12, f10, f9, f6, _⟩ => ?_
          obtain ⟨y, a1, a2⟩ := f9.2.1 rfl
          obtain rfl : x155 = y := by injection a1
          obtain ⟨s10, y10, b1, b2⟩ := f10.2.2.1 rfl
          obtain rfl : x155 = y10 := by injection b1 with _ b1; injection b1 with b1 _; injection b1
          obtain ⟨to, rfl⟩ : ∃ to : Nat, x155 = (to : Int) := ⟨x155.toNat, by omega⟩
          obtain rfl : x161 = nm 116 to := by injection b2
          obtain ⟨ad6, c6, d1, d2, d3⟩ := f6.1 rfl
          obtain rfl : ((cols'.2.1 : Int) - 1) = c6 := by injection d1 with d1 _; injection d1
          obtain rfl : x149 = (some ad6, 1, 1) := sl_eq d2
          obtain ⟨ad, cs, q1, q2', q3, q4⟩ := f12.2.2.2 rfl
          have hcs : encFo ((some ad6, 1, 1), nm 116 to) = cs := agg1 q1
          rw [← hcs] at q3
          obtain rfl : x167 = (some ad, 1, 1) := sl_eq q2'
          have G168 : w10.grownBy w168 (some tb.block) := G136.trans hE
          have hS' : Tape w168 tb l L (q2 + 2) := hS
          have d3' : SB w168 (x21.block + 1) 3 (some ad6, 1, 1) 1 (ints .i64 [1 + (fs.length : Int) + (ts.length : Int)]) := by
            rw [show 1 + (fs.length : Int) + (ts.length : Int) = (cols'.2.1 : Int) - 1 by omega]; exact d3
          refine (P136.xg hE hB10).for' (by omega) (z := (some ad6, 1, 1)) (to := to) q3 d3' fun fors' w172 P172 hX => ?_
          refine z_i64 (by dsimp only; omega) ?_
          refine hag3 _ hn2 ⟨xb_put G168 hX (Nat.le_refl _), cols', fors', ts ++ [to], q2 + 2, ?_, by simp [hts], fun j hj => ?_, hS'.xb hX (fun b hb => by show tb.block < b; omega), by omega⟩
          · have e1 : colsOf fs (ts ++ [to]) = colsOf fs ts ++ [(nm 102 n, 1, false)] := by
              unfold colsOf
              rw [kcols_app, hts, Nat.zero_add]
              simp
            rw [e1]; exact P172
          · rcases List.mem_append.1 hj with h | h
            · exact hlt j h
            · simp at h; subst h; omega
        · obtain ⟨G69, cols, fors, ts, q2, P69, hts, hlt, T69, hq2⟩ := hJ
          have hcl : (colsOf fs ts).length = 1 + fs.length + ts.length := cols_len ⟨fs, ts⟩
          have okT : TPar.Ok i ⟨fs, ts⟩ := ⟨by dsimp only; omega, by dsimp only; omega, hty, hts, hlt⟩
          refine join_mk (fun _ w' => w10.grownBy w' (some tb.block) ∧ ∃ chk q3, PT w' w10.heap.size i x21 cols (some ad19, 1, 1) fors chk (colsOf fs ts) fs.length ts ∧ Tape w' tb l L q3 ∧ q3 ≤ q + 15) (fun K3 hK3 => ?_) (fun _ w72 hJ3 _ => ?_)
          · refine call_mono (nextF 4 T69 (by omega) ⟨by omega, by omega⟩) ?_
            rintro (x80 : Int) w81 ⟨_, T81, g81⟩
            have P81 := P69.xg g81 hB10
            have G81 := G69.trans g81
            refine br_eq (fun e8 => ?_) (fun e8 => hK3 () _ ⟨G81, (none, 0, 0), q2 + 1, P81, T81, by omega⟩)
            refine drw_mk fun w82 h82 _ => ?_
            have P82 := P81.up h82
            have T82 := T81.up h82
            have G82 := G81.trans (grown_of_bel h82 _)
            have hz82 := G82.size
            refine flExC_mk (Xg tb.block) (fun _ _ _ => True) (fun D w' => ∃ q3, q3 ≤ q2 + 1 + 5 * (D 4).toNat ∧ Tape w' tb l L q3)
              (fun j ags v w' => j = 6 → ∃ ad cs, v = .slice (some ad) 1 1 ∧ Sl w' (some ad) 1 1 6 cs ∧ plainV cs = true ∧ w82.heap.size ≤ ad.block)
              (fun _ => grown_refl _ _) (fun _ _ _ h h' => World.grownBy.trans h h') (fun j j' ags v w1 w2 _ h hE _ => fun e => ?_) ⟨q2 + 1, by omega, T82⟩ ?_
            · obtain ⟨ad, c, q1, q2, q3, q4⟩ := h e
              exact ⟨ad, c, q1, q2.xg hE (fun ad' ha _ => by cases ha; omega), q3, q4⟩
            refine rdE_box (by kernel_rfl) (fun w' hE => (P82.xg hE.1 hB10).box) (i := 5) rfl rfl ?_
            refine rdE_boxN (fun w' hE => (P82.xg hE.1 hB10).box) (by kernel_rfl) rfl ?_
            refine flcC_mk (fun Dd w89 hD hE hS _ => ?_) (fun x94 => ?_)
            · obtain ⟨q3, h3, T89⟩ := hS
              rw [hD] at h3
              simp only [Bool.toNat_false] at h3
              have P89 := P82.xg (hE : w82.grownBy w89 (some tb.block)) hB10
              refine call_mono (atomP (x := (nm 116 i, cols, (some ad19, 1, 1), (none, 0, 0), fors, (none, 0, 0), ())) (fun w' hg => (P89.done.ts hB10 rfl) w' hg) okT T89 (by omega)) ?_
              rintro x92 w93 ⟨q4, h4, T93, g93⟩
              exact ⟨g93, trivial, ⟨q4, by rw [setD_self]; simp only [Bool.toNat_true]; omega, T93⟩, fun e => by omega⟩
            refine flcC_mk (fun Dd w95 hD hE hS _ => ?_) (fun x100 => ?_)
            · obtain ⟨q3, h3, T95⟩ := hS
              refine call_mono (exprP _ _ _ _ _) ?_
              rintro x98 w99 h99
              exact ⟨grown_of_bel h99 _, trivial, ⟨q3, by rw [setD_ne (show (4 : Nat) ≠ 5 by decide)]; exact h3, T95.up h99⟩, fun e => by omega⟩
            refine flcC_mk (fun Dd w101 hD hE hS _ => ?_) (fun x106 => ?_)
            · obtain ⟨q3, h3, T101⟩ := hS
              refine wr_lit tyEx (encEX x100).toArray (fill_one 6 (.agg (encEX x100).toArray) _ rfl (by simp)) (by omega) (by omega) rfl (by unfold maxLen; omega) fun ad w105 O105 h105 hb105 _ => ?_
              have hzE : w82.heap.size ≤ w101.heap.size := World.grownBy.size hE
              exact ⟨grown_of_bel h105 _, trivial, ⟨q3, by rw [setD_ne (show (4 : Nat) ≠ 6 by decide)]; exact h3, T101.up h105⟩, fun _ => ⟨ad, encEX x100, rfl, (O105 w101.heap.size (Nat.le_refl _)).sl, rfl, by omega⟩⟩
            refine flendC_mk fun w107 hE hS ⟨f6, _⟩ => ?_
            obtain ⟨ad, cs, d1, d2, d3, d4⟩ := f6 rfl
            obtain rfl : x106 = (some ad, 1, 1) := sl_eq d1
            obtain ⟨q3, h3, T107⟩ := hS
            have h3' : q3 ≤ q2 + 6 := h3
            have P107 := P82.xg (hE : w82.grownBy w107 (some tb.block)) hB10
            have G107 : w10.grownBy w107 (some tb.block) := G82.trans hE
            refine wr_app tyEx (Own.nil w107 0 66 6) d2 (Nat.zero_le _) rfl (by omega) d3 (by omega) (by unfold maxLen; omega) fun a' c' w110 O110 g110 _ _ => ?_
            have h110 := bel_of_grown g110
            have P110 := P107.up h110
            refine wu_boxi P110.box (i := 5) (v := .slice a' (0 + 1) c') (by kernel_rfl) (by simp) rfl fun w111 X111 g111 s111 => ?_
            have hx := P110.new
            obtain ⟨Lf, f1, f2, f3⟩ := P110.fo
            refine hK3 () _ ⟨xg_put (G107.trans (grown_of_bel h110 _)) g111 fun k hk => by injection hk; exact .inl (by omega), (a', 0 + 1, c'), q3, ⟨X111, hx, P110.co.keptBy g111 (.inr fun q => P110.colsne _ q rfl), P110.colsne, P110.pr.off g111 P110.primne, P110.primne, ⟨Lf, Own.xg f1 g111 (Nat.lt_succ_self _), f2, fun k p j q1 q2 => ⟨(f3 k p j q1 q2).1, (f3 k p j q1 q2).2.xg g111 (Nat.lt_succ_self _)⟩⟩⟩, (T107.up h110).put g111 (fun k hk => by injection hk; omega), by omega⟩
          · obtain ⟨G72, chk, q3, P72, T72, hq3⟩ := hJ3
            have X372 := X3.xg G72 (by omega)
            have X172 := X1.xg G72 (by omega)
            have O72 := Own.xg OO G72 hB0
            have hz72 := G72.size
            have hx3l := X3.lt
            have hx1l := X1.lt
            refine rd_box0 (by kernel_rfl) X372 rfl rfl ?_
            refine rd_boxN P72.box (by kernel_rfl) rfl ?_
            refine wr_lit tyTb (tbc (nm 116 i, cols, (some ad19, 1, 1), (none, 0, 0), fors, chk, ())).toArray (fill_one 6 (tbv (nm 116 i, cols, (some ad19, 1, 1), (none, 0, 0), fors, chk, ())) _ rfl (by simp)) (by omega) (by omega) rfl (by unfold maxLen; omega) fun ad w76 O76 h76 _ _ => ?_
            have hz76 := h76.size
            have O76' := O72.kept h76
            refine wr_app tyTb O76' (O76 w72.heap.size (Nat.le_refl _)).sl (by omega) rfl (by omega) rfl (by omega) (by unfold maxLen; omega) fun a' c' w78 O78 g78 hn78 hz78 => ?_
            have hnb : ∀ {ad : Addr}, ad.block < w4.heap.size → some ad.block ≠ blk out.1 := fun hlt q => by have := (O76'.lt _ q.symm).1; omega
            refine wu_box ((X372.up h76).grown g78 (hnb (by omega))) (v := .slice a' (out.2.1 + 1) c') (by kernel_rfl) (Nat.le_refl 1) rfl fun w79 X79 g79 s79 => ?_
            replace X79 : Box w79 x3 [.slice a' (out.2.1 + 1) c'] := X79
            have hS : ∀ k, some k = blk out.1 → w4.heap.size ≤ k := fun k hk => (O76'.lt k hk.symm).1
            have G79 : w.grownBy w79 (some tb.block) := xg_put (xg_put ((G10.trans G72).trans (grown_of_bel h76 _)) g78 fun k hk => .inl (by have := hS k hk.symm; omega)) g79 fun k hk => by injection hk; exact .inl (by omega)
            have keepT : ∀ {k : Nat} {x : TH} {t : TPar}, TbS w76 w4.heap.size k x t → TbS w79 w4.heap.size k x t := fun H => (H.apart O76' (by decide) (by decide) (by decide) g78).xg g79 (by omega)
            refine hK () _ ⟨G79, by omega, ((X172.up h76).grown g78 (hnb (by omega))).grown g79 (by intro q; injection q; omega), (a', out.2.1 + 1, c'), Ls ++ [(nm 116 i, cols, (some ad19, 1, 1), (none, 0, 0), fors, chk, ())], D ++ [⟨fs, ts⟩], q3, X79, ?_, by simp [hLs], by simp [hDl], fun k x t h1 h2 => ?_, fun k t h2 => ?_, (((T72.up h76).put g78 fun k hk => by have := hS k hk.symm; omega).put g79 fun k hk => by injection hk; omega), by omega⟩
            · rw [List.flatMap_append]
              simp only [List.flatMap_cons, List.flatMap_nil, List.append_nil]
              exact Own.xg O78 g79 (by omega)
            · rcases Nat.lt_or_ge k i with qk | qk
              · rw [List.getElem?_append_left (by omega)] at h1 h2
                exact keepT (((hTs k x t h1 h2).xg G72 hB0).up h76)
              · have hk : k = i := by have := (List.getElem?_eq_some_iff.1 h1).1; simp at this; omega
                subst hk
                rw [List.getElem?_append_right (by omega), hLs] at h1
                rw [List.getElem?_append_right (by omega), hDl] at h2
                simp at h1 h2
                subst h1 h2
                exact keepT ((P72.done.le hz10).up h76)
            · rcases Nat.lt_or_ge k i with qk | qk
              · rw [List.getElem?_append_left (by omega)] at h2
                exact hOk k t h2
              · have hk : k = i := by have := (List.getElem?_eq_some_iff.1 h2).1; simp at this; omega
                subst hk
                rw [List.getElem?_append_right (by omega), hDl] at h2
                simp at h2
                subst h2
                exact okT
    · refine z_i64 (by dsimp only; omega) ?_
      exact hag _ hi' hJ
  · dsimp only at e
    have him : i = m + 1 := by omega
    refine rd_boxN X3 (by kernel_rfl) rfl ?_
    refine wu_box X1 (v := .agg #[.slice out.1 out.2.1 out.2.2]) (by kernel_rfl) (Nat.le_refl 1) rfl fun w175 X175 g175 _ => ?_
    replace X175 : Box w175 x1 [.slice out.1 out.2.1 out.2.2] := X175
    refine rd_boxV (l := [Sh.slice]) X175 (by kernel_rfl) (x := ((out : Hdr), ())) rfl ?_
    have G175 := xg_put G10 g175 fun k hk => by injection hk; exact .inl (by omega)
    have O175 := Own.xg OO g175 (by omega : x1.block < w4.heap.size)
    refine ⟨((out : Hdr), ()), rfl, D, q, ⟨by omega, by omega, hOk⟩, by omega, ⟨Ls, by omega, SB.of O175 (by omega), fun k x t h1 h2 => ?_⟩, T10.put g175 (fun k hk => by injection hk; omega), G175⟩
    exact ((hTs k x t h1 h2).xg g175 (by omega)).le (by omega)
end Go.Proofs.YtcfghfmlfgaeaaaGreatDoor

/- Made instances: frames, reads within regions. -/

namespace Go.Proofs.YtcfghfmlfgaeaaaGreatDoor
open Go.RowKit Go.Q Go.V Go.Bag Go.Shelf

theorem xb_put' {S : Nat → Prop} {w0 w w' : World} {t : Nat} (h : w0.grownBy w (some t)) (hX : Xb S w w') (hS : ∀ k, S k → k = t ∨ w0.heap.size ≤ k) : w0.grownBy w' (some t) :=
  ⟨hX.os.trans h.os, hX.tape.trans h.tape, hX.output.trans h.output, Nat.le_trans h.size hX.size, fun k hk hne => by
    rw [hX.block k (by have := h.size; omega) (fun q => by
      rcases hS k q with rfl | q
      · exact hne rfl
      · omega), h.block k hk hne]⟩
theorem ST.xb {S : Nat → Prop} {w w' : World} {e : TypeId} {a : Option Addr} {n c sz : Nat} {xs : List Value} (H : ST w e a n c sz xs) (hX : Xb S w w') (hne : ∀ ad, a = some ad → ad.block < w.heap.size → ¬ S ad.block) : ST w' e a n c sz xs := by
  have hlt : ∀ ad, a = some ad → ad.block < w.heap.size := fun ad ha => by
    obtain ⟨cur, fz, h⟩ := H.ty ad ha
    exact (Array.getElem?_eq_some_iff.1 h).1
  refine ⟨H.sl.xb hX fun ad ha _ => hne ad ha (hlt ad ha), fun ad ha => ?_⟩
  obtain ⟨cur, fz, h⟩ := H.ty ad ha
  exact ⟨cur, fz, (hX.block _ (hlt ad ha) (hne ad ha (hlt ad ha))).trans h⟩
theorem RowsST.xb {S : Nat → Prop} {w w' : World} {B : Nat} {h : Hdr} {R : Rows} (H : RowsST w B h R) (hX : Xb S w w') (hS : ∀ k, S k → k < B ∨ w.heap.size ≤ k) : RowsST w' B h R := by
  obtain ⟨hs, ⟨q1, q1'⟩, q2, q3⟩ := H
  refine ⟨hs, ⟨q1.xb hX fun ad ha hl q => ?_, q1'⟩, q2, fun i x r a b => ⟨(q3 i x r a b).1.xb hX fun ad ha hl q => ?_, (q3 i x r a b).2⟩⟩
  · have := q1' ad ha
    rcases hS _ q with z | z <;> omega
  · have := (q3 i x r a b).2 ad ha
    rcases hS _ q with z | z <;> omega
theorem SB.xb {S : Nat → Prop} {w w' : World} {B : Nat} {e : TypeId} {h : Hdr} {sz : Nat} {xs : List Value} (H : SB w B e h sz xs) (hX : Xb S w w') (hS : ∀ k, S k → k < B ∨ w.heap.size ≤ k) : SB w' B e h sz xs :=
  ⟨H.st.xb hX fun ad ha hl q => by have := H.new ad ha; rcases hS _ q with z | z <;> omega, H.new⟩
theorem RowsST.len {w : World} {B : Nat} {h : Hdr} {R : Rows} (H : RowsST w B h R) : R.length = h.2.1 := H.at'.len
theorem RowsST.xg {w w' : World} {B b : Nat} {h : Hdr} {R : Rows} (H : RowsST w B h R) (hg : w.grownBy w' (some b)) (hb : b < B) : RowsST w' B h R := H.keepB hb hg
theorem idxE {P : Program} {t e : TypeId} {z : Value} {sz bytes : Nat} (T : TyS P t e z sz bytes) {α : Type} {enc : α → List Value} (he : ∀ a, (enc a).length = sz) (h0 : 0 < sz) {w : World} {a : Option Addr} {n c j : Nat} {L : List α} (H : Sl w a n c sz (L.flatMap enc)) {k : IntKind} {i : Int} {p : α} {K : Addr → Prop}
    (hj : i = (j : Int)) (hp : L[j]? = some p) (hk : ∀ ad, (∀ w', Sl w' a n c sz (L.flatMap enc) → ∀ o v, (enc p)[o]? = some v → w'.cell? (ad.add o) = some v) → K ad) : rdp P (Instr.indexAt t (.slice a n c) (.int k i)) (.one .addr) K := by
  have hlen := H.len
  rw [flat_len he] at hlen
  have hL : L.length = n := Nat.eq_of_mul_eq_mul_right h0 hlen
  have hjl := (List.getElem?_eq_some_iff.1 hp).1
  obtain ⟨u, hu⟩ : ∃ u, (enc p)[0]? = some u := ⟨_, List.getElem?_eq_getElem (by rw [he]; exact h0)⟩
  have hu' := flat_get he hp h0
  rw [hu] at hu'
  obtain ⟨ad, h1, _, _⟩ := H.at' _ _ hu'
  refine idx_mk T hj (by omega) h1 (hk _ fun w' H' o v hv => ?_)
  have ho : o < sz := by have := (List.getElem?_eq_some_iff.1 hv).1; rw [he] at this; exact this
  have hg := flat_get he hp ho
  rw [hv] at hg
  obtain ⟨ad', h2, h3, _⟩ := H'.at' _ _ hg
  rw [h1] at h2; cases h2
  rw [add_add]; exact h3
theorem rdE_at {P : Program} {E : Rel} {t : TypeId} {s : Sh} {w : World} {ad : Addr} {v : Value} {x : s.T} {k : s.T → Prop} (ht : scal P t = true) (h : ∀ w', E w w' → w'.cell? ad = some v) (hx : s.get v = some x) (hk : k x) :
    rdE P E (Instr.loadAt t (.pointer (some ad))) (.one s) w k := ⟨x, fun w' hE => by rw [run_loadAt, run_loadVar1 ht (h w' hE), Sh.get_spec hx]; rfl, hk⟩
theorem atE_mk {P : Program} {E : Rel} {t e : TypeId} {z : Value} {bytes : Nat} (T : TyS P t e z 1 bytes) (he : scal P e = true) {w : World} {a : Option Addr} {n c j : Nat} {xs : List Value} {kk : IntKind} {i : Int} {s : Sh} {v : Value} {x : s.T} {K : s.T → Prop} (H0 : Sl w a n c 1 xs) (H : ∀ w', E w w' → Sl w' a n c 1 xs) (hj : i = (j : Int)) (hv : xs[j]? = some v) (hx : s.get v = some x) (hk : K x) :
    rdp P (Instr.indexAt t (.slice a n c) (.int kk i)) (.one .addr) fun ad => rdE P E (Instr.loadAt e (.pointer (some ad))) (.one s) w K := by
  have hl : xs.length = n := by have := H0.len; omega
  have hjl := (List.getElem?_eq_some_iff.1 hv).1
  obtain ⟨ad, rfl, _, _⟩ := H0.at' j _ hv
  refine idx_mk T hj (by omega) rfl ?_
  rw [Nat.mul_one]
  refine rdE_at he (fun w' hE => ?_) hx hk
  obtain ⟨ad', q1, q2, _⟩ := (H w' hE).at' j _ hv
  cases q1
  exact q2
structure GI (w : World) (B B0 : Nat) (x1 x3 x8 : Addr) (h : Hdr) (ad6 : Addr) (n : Nat) (hs : List Hdr) (I : List Rows) : Prop where
  X1 : Box w x1 [.slice h.1 h.2.1 h.2.2]
  X3 : Box w x3 [.slice none 0 0]
  X8 : Box w x8 [.slice (some ad6) n n]
  own : Own w B0 53 1 (some ad6) n n (hs.map hv)
  hlen : hs.length = n
  row : ∀ (k : Nat) x R, hs[k]? = some x → I[k]? = some R → RowsST w B x R
theorem GI.up {w w' : World} {B B0 : Nat} {x1 x3 x8 : Addr} {h : Hdr} {ad6 : Addr} {n : Nat} {hs : List Hdr} {I : List Rows} (H : GI w B B0 x1 x3 x8 h ad6 n hs I) (hb : bel w w') : GI w' B B0 x1 x3 x8 h ad6 n hs I :=
  ⟨H.X1.up hb, H.X3.up hb, H.X8.up hb, Own.kept H.own hb, H.hlen, fun k x R q1 q2 => (H.row k x R q1 q2).up hb⟩
theorem GI.xg {w w' : World} {B B0 b : Nat} {x1 x3 x8 : Addr} {h : Hdr} {ad6 : Addr} {n : Nat} {hs : List Hdr} {I : List Rows} (H : GI w B B0 x1 x3 x8 h ad6 n hs I) (hg : w.grownBy w' (some b)) (h1 : x1.block ≠ b) (h3 : x3.block ≠ b) (h8 : x8.block ≠ b) (hB : b < B0) (hB' : b < B) : GI w' B B0 x1 x3 x8 h ad6 n hs I :=
  ⟨H.X1.xg hg h1, H.X3.xg hg h3, H.X8.xg hg h8, Own.xg H.own hg hB, H.hlen, fun k x R q1 q2 => (H.row k x R q1 q2).xg hg hB'⟩
structure CurT (w : World) (B : Nat) (cur : Hdr) (LH : List Hdr) (R : Rows) : Prop where
  own : Own w B 56 1 cur.1 cur.2.1 cur.2.2 (LH.map hv)
  len : LH.length = R.length
  row : ∀ (j : Nat) y r, LH[j]? = some y → R[j]? = some r → ST w 55 y.1 y.2.1 y.2.2 3 (r.flatMap encV) ∧ ∀ ad, y.1 = some ad → B ≤ ad.block
theorem CurT.nil (w : World) (B : Nat) : CurT w B (none, 0, 0) [] [] := ⟨Own.nil _ _ _ _, rfl, fun j y r q _ => by simp at q⟩
theorem CurT.xg {w w' : World} {B b : Nat} {cur : Hdr} {LH : List Hdr} {R : Rows} (H : CurT w B cur LH R) (hg : w.grownBy w' (some b)) (hb : b < B) : CurT w' B cur LH R :=
  ⟨Own.xg H.own hg hb, H.len, fun j y r q1 q2 => ⟨(H.row j y r q1 q2).1.keep hg fun ad ha q => by have := (H.row j y r q1 q2).2 ad ha; injection q; omega, (H.row j y r q1 q2).2⟩⟩
theorem CurT.rows {w : World} {B : Nat} {cur : Hdr} {LH : List Hdr} {R : Rows} (H : CurT w B cur LH R) : RowsST w B cur R :=
  ⟨LH, ⟨Own.st H.own, fun ad ha => (H.own.lt ad.block (by rw [ha]; rfl)).1⟩, H.len, H.row⟩
theorem CurT.cl {w : World} {B : Nat} {cur : Hdr} {LH : List Hdr} {R : Rows} (H : CurT w B cur LH R) : cur.2.1 = R.length := by
  have h1 := H.own.1
  have h2 := H.len
  simp at h1; omega
theorem CurT.add {w w' : World} {B : Nat} {cur : Hdr} {LH : List Hdr} {R : Rows} (H : CurT w B cur LH R) {rh : Hdr} {r : Rw} (hr : ST w 55 rh.1 rh.2.1 rh.2.2 3 (r.flatMap encV)) (hB : ∀ ad, rh.1 = some ad → B ≤ ad.block) (hg : w.grownBy w' (blk cur.1)) {a' : Option Addr} {n' c' : Nat} (O : Own w' B 56 1 a' n' c' ((LH ++ [rh]).map hv)) : CurT w' B (a', n', c') (LH ++ [rh]) (R ++ [r]) := by
  have hl := H.len
  refine ⟨O, by simp [hl], fun j y r' q1 q2 => ?_⟩
  rcases Nat.lt_or_ge j LH.length with q | q
  · rw [List.getElem?_append_left q] at q1
    rw [List.getElem?_append_left (by omega)] at q2
    exact ⟨(H.row j y r' q1 q2).1.apart H.own (by decide) hg, (H.row j y r' q1 q2).2⟩
  · have hj : j = LH.length := by have := (List.getElem?_eq_some_iff.1 q1).1; simp at this; omega
    subst hj
    rw [List.getElem?_append_right (Nat.le_refl _)] at q1
    rw [List.getElem?_append_right (by omega), hl] at q2
    simp at q1 q2
    subst q1 q2
    exact ⟨hr.apart H.own (by decide) hg, hB⟩
end Go.Proofs.YtcfghfmlfgaeaaaGreatDoor

/- Made instances: Good. -/

namespace Go.Proofs.YtcfghfmlfgaeaaaGreatDoor
open Go.RowKit Go.Q Go.V Go.Bag Go.Shelf

theorem upI_at {m i : Nat} {y : Int} (h : (upI m)[i]? = some y) : y = (i : Int) ∧ i < m := by
  have hi : i < m := by have := (List.getElem?_eq_some_iff.1 h).1; simpa [upI] using this
  unfold upI at h
  rw [List.getElem?_map, List.getElem?_range hi] at h
  cases h
  exact ⟨rfl, hi⟩
theorem set_id {α : Type} {l : List α} {i : Nat} {x : α} (h : l[i]? = some x) : l.set i x = l := by
  refine List.ext_getElem? fun k => ?_
  by_cases e : i = k
  · subst e; rw [List.getElem?_set_self (List.getElem?_eq_some_iff.1 h).1, h]
  · rw [List.getElem?_set_ne e]
set_option maxHeartbeats 4000000 in
theorem goodMk {w : World} {tb : Addr} {l h : Hdr} {L : List Int} {D : List TPar} {p : Nat} (Tp : Tape w tb l L p) (hp : p ≤ 900000) (H : SchF tb.block w h D) (hD : OkD D) :
    call Tryz.prog 6 [.pointer (some tb), .agg #[.slice h.1 h.2.1 h.2.2], .int .i64 20] (.one (.agg [.slice])) w (fun (x : Hdr × Unit) w' => ∃ I, OkI D I ∧ InsAt w' x.1 I ∧ w.grownBy w' (some tb.block)) := by
  have htl := Tp.box.lt
  have hd2 := hD.d2
  have hlen := (H.sch (grown_refl _ _)).len
  have HS := fun (w2 : World) (hg : w.grownBy w2 (some tb.block)) => H.sch hg
  obtain ⟨TL, hTL, SL, hch, hTT⟩ := H
  refine call_of (S6t_calls (some tb) h.1 h.2.1 h.2.2 20 w _ ?_)
  unfold S6t
  refine wr_box fun x1 w2 X1 h2 hx1 hs2 => ?_
  refine wr_alloc (z := .agg #[.slice none 0 0]) (by kernel_rfl) fun x3 w4 X3 h4 hx3 hs4 => ?_
  replace X1 : Box w4 x1 [.slice h.1 h.2.1 h.2.2] := Box.up (show Box w2 x1 [.slice h.1 h.2.1 h.2.2] from X1) h4
  replace X3 : Box w4 x3 [.slice none 0 0] := X3
  refine rd_box0 (by kernel_rfl) X1 rfl rfl ?_
  refine wr_make tyTabs D.length (by dsimp only; omega) (by dsimp only; omega) (by omega) (by unfold maxLen; omega) fun ad6 w7 O7 h7 hb6 hs7 => ?_
  have O7' := O7 w4.heap.size (Nat.le_refl _)
  have hmk : (madeCells (Value.slice none 0 0).cells (D.length * 1)).toList = (List.replicate D.length ((none, 0, 0) : Hdr)).map hv := by
    have e := made_flat (sz := 1) (enc := fun _ : Unit => [Value.slice none 0 0]) (fun _ => rfl) (by omega) () (Value.slice none 0 0).cells rfl D.length
    rw [e, ← List.map_eq_flatMap, List.map_replicate, List.map_replicate]
    rfl
  rw [hmk] at O7'
  refine wr_alloc (z := .agg #[.slice none 0 0]) (by kernel_rfl) fun x8 w9 X8 h9 hx8 hs9 => ?_
  replace X8 : Box w9 x8 [.slice none 0 0] := X8
  refine wu_box X8 (v := .agg #[.slice (some ad6) D.length D.length]) (by kernel_rfl) (Nat.le_refl 1) rfl fun w10 X10 g10 hs10 => ?_
  replace X10 : Box w10 x8 [.slice (some ad6) D.length D.length] := X10
  have hb9 := ((h2.trans h4).trans h7).trans h9
  have hb10 : bel w w10 := hb9.grownAt g10 (by omega)
  have h410 : bel w4 w10 := (h7.trans h9).grownAt g10 (by omega)
  have X110 := X1.up h410
  have X310 := X3.up h410
  have O10 := Own.keptBy (O7'.kept h9) g10 (.inr (by intro q; have : ad6.block = x8.block := Option.some.inj q; omega))
  refine rd_boxN X110 (by kernel_rfl) rfl ?_
  refine call_mono (rorderP (HS _ (grown_of_bel hb10 _)) hD) ?_
  rintro ⟨x12, x12e, u⟩ w13 ⟨h13, _, Oo⟩
  dsimp only at Oo
  have hol : x12.2.1 = D.length := by have := Oo.1; simp [upI, ints] at this; omega
  have hz13 := h13.size
  have htB : tb.block < w10.heap.size := by omega
  refine loop_up D.length (fun i w' => w.grownBy w' (some tb.block) ∧ w10.heap.size ≤ w'.heap.size ∧ SB w' w10.heap.size 3 x12 1 (ints .i64 (upI D.length)) ∧ ∃ hs I q, GI w' w10.heap.size w4.heap.size x1 x3 x8 h ad6 D.length hs I ∧ OkI D I ∧ (∀ (k : Nat) R, i ≤ k → I[k]? = some R → R = []) ∧ (∀ (k : Nat) x, i ≤ k → hs[k]? = some x → x = ((none, 0, 0) : Hdr)) ∧ Tape w' tb l L q ∧ q ≤ p + 400 * i)
    ⟨(grown_of_bel hb10 _).trans (grown_of_bel h13 _), hz13, SB.of Oo (Nat.le_refl _), List.replicate D.length (none, 0, 0), List.replicate D.length [], p,
      ⟨X110.up h13, X310.up h13, X10.up h13, O10.kept h13, by simp, fun k x R q1 q2 => by
        obtain rfl := (List.mem_replicate.1 (List.mem_of_getElem? q1)).2
        obtain rfl := (List.mem_replicate.1 (List.mem_of_getElem? q2)).2
        exact (CurT.nil w13 w10.heap.size).rows⟩,
      OkI.none, fun k R _ q => (List.mem_replicate.1 (List.mem_of_getElem? q)).2, fun k x _ q => (List.mem_replicate.1 (List.mem_of_getElem? q)).2, (Tp.up hb10).up h13, by omega⟩
    fun i w16 hi ⟨G16, hz16, Oo, hs, I, q, gi, oI, hI0, hs0, T16, hq⟩ again hag _ => ?_
  refine br_dec (fun e => ?_) (fun e => ?_)
  · dsimp only at e
    have hi' : i < D.length := by omega
    refine at_int tyI (by kernel_rfl) Oo.st.sl rfl (by omega) fun y hy => ?_
    obtain ⟨rfl, _⟩ := upI_at hy
    refine rd_box0 (by kernel_rfl) gi.X1 rfl rfl ?_
    obtain ⟨x, hx⟩ : ∃ x, TL[i]? = some x := ⟨_, List.getElem?_eq_getElem (by omega)⟩
    obtain ⟨t, ht⟩ : ∃ t, D[i]? = some t := ⟨_, List.getElem?_eq_getElem hi'⟩
    have TS := hTT i x t hx ht
    have TW := TS.ts (Nat.lt_succ_self tb.block) (hch x (List.mem_of_getElem? hx))
    have ok := hD.each i t ht
    have hnc := (TW w (grown_refl _ _)).nc
    have hnt := (TW w (grown_refl _ _)).nt
    have hnp := (TW w (grown_refl _ _)).np
    have hk2 := ok.k2
    have hnf2 := ok.f2
    have hncle := nc_le ok
    have hncv : t.nc = 1 + t.free.length + t.tos.length := rfl
    refine at_agg tyTb agTb tbc_len (by omega) (SL.xg G16 (Nat.lt_succ_self _)).st.sl rfl hx rfl ?_
    refine var_mk (z := .agg zTb.toArray) (v := tbv x) (by kernel_rfl) (by kernel_rfl) rfl rfl fun x22 w24 X22 h24 hx22 => ?_
    replace X22 : Box w24 x22 (tbc x) := X22
    have hx22l := X22.lt
    have G24 := G16.trans (grown_of_bel h24 _)
    refine z_i64 (by omega) ?_
    refine call_mono (nextF (20 + 1) (T16.up h24) (by omega) ⟨by omega, by omega⟩) ?_
    rintro (x26 : Int) w27 ⟨hx26, T27, g27⟩
    have hz27 := g27.size
    have G27 := G24.trans g27
    have hx1b : x1.block < w4.heap.size := X1.lt
    have hx3b : x3.block < w4.heap.size := X3.lt
    have hgi27 := (gi.up h24).xg g27 (by omega) (by omega) (by omega) (by omega) htB
    have X27 := X22.xg g27 (by omega)
    have hhl := hgi27.hlen
    -- how many rows
    refine loop_upA t.tos.length (fun f (a : Int) w' => bel w27 w' ∧ (0 ≤ a ∧ a ≤ 20) ∧ (0 < a → ∀ (g : Nat) j, g < f → t.tos[g]? = some j → ∃ R, I[j]? = some R ∧ 1 ≤ R.length)) ⟨bel.refl _, ⟨hx26.1, by omega⟩, fun _ g j hg => by omega⟩ fun f a w30 hf ⟨hb30, ha, hpos⟩ again2 hag2 _ => ?_
    refine rd_box (by kernel_rfl) (X27.up hb30) (i := 4) rfl rfl ?_
    refine br_dec (fun e2 => ?_) (fun e2 => ?_)
    · dsimp only at e2
      have hf' : f < t.tos.length := by omega
      obtain ⟨to, hto⟩ : ∃ to, t.tos[f]? = some to := ⟨_, List.getElem?_eq_getElem hf'⟩
      have hto2 := ok.to to (List.mem_of_getElem? hto)
      refine join_mk (fun s w' => bel w27 w' ∧ (0 ≤ s.1 ∧ s.1 ≤ 20) ∧ (0 < s.1 → ∀ (g : Nat) j, g < f + 1 → t.tos[g]? = some j → ∃ R, I[j]? = some R ∧ 1 ≤ R.length)) (fun K hK => ?_) (fun s w34 hJ _ => ?_)
      · refine rd_boxN (hgi27.X1.up hb30) (by kernel_rfl) rfl ?_
        refine call_mono (rtargetP ((HS _ G27).up hb30) hD ht hto) ?_
        rintro (r : Int × Bool × Unit) w38 ⟨e1, _, h38⟩
        have hb38 := hb30.trans h38
        refine rd_box0 (by kernel_rfl) (hgi27.X8.up hb38) rfl rfl ?_
        refine at_hdr tyTabs (by kernel_rfl) (hgi27.own.sl.up hb38) (j := to) e1 (by omega) fun y hy => ?_
        obtain ⟨R0, hR0⟩ : ∃ R0, I[to]? = some R0 := ⟨_, List.getElem?_eq_getElem (by rw [oI.len]; omega)⟩
        have hyl := (hgi27.row to y R0 hy hR0).len
        refine br_eq (fun e3 => hK _ _ ⟨hb38, ⟨by dsimp only; omega, by dsimp only; omega⟩, fun h => by dsimp only at h; omega⟩) (fun e3 => hK _ _ ⟨hb38, ha, fun h g j hg hj => ?_⟩)
        rcases Nat.lt_or_ge g f with qg | qg
        · exact hpos h g j qg hj
        · have : g = f := by omega
          subst this
          rw [hto] at hj; cases hj
          exact ⟨R0, hR0, by omega⟩
      · refine z_i64 (by dsimp only; omega) ?_
        exact hag2 _ _ hf' hJ
    · dsimp only at e2
      have hfe : f = t.tos.length := by omega
      subst hfe
      obtain ⟨Nn, rfl⟩ : ∃ n : Nat, a = (n : Int) := ⟨a.toNat, by omega⟩
      have hz30 := hb30.size
      have gi30 := hgi27.up hb30
      have X2230 := X27.up hb30
      have G30 := G27.trans (grown_of_bel hb30 _)
      have T30 := T27.up hb30
      have G1630 : w16.grownBy w30 (some tb.block) := ((grown_of_bel h24 _).trans g27).trans (grown_of_bel hb30 _)
      have hIi : I[i]? = some [] := by
        obtain ⟨R, hR⟩ : ∃ R, I[i]? = some R := ⟨_, List.getElem?_eq_getElem (by rw [oI.len]; omega)⟩
        rw [hR, hI0 i R (Nat.le_refl _) hR]
      have hHi : hs[i]? = some ((none, 0, 0) : Hdr) := by
        obtain ⟨R, hR⟩ : ∃ R, hs[i]? = some R := ⟨_, List.getElem?_eq_getElem (by omega)⟩
        rw [hR, hs0 i R (Nat.le_refl _) hR]
      clear T27 T16 X27 X22 hgi27 g27 G27 G24
      -- the rows
      refine loop_up Nn (fun k w' => Xb (fun b => b = tb.block ∨ b = ad6.block ∨ x22.block < b) w30 w' ∧ ∃ cur LH R q', CurT w' (x22.block + 1) cur LH R ∧ R.length = k ∧ Own w' w4.heap.size 53 1 (some ad6) D.length D.length ((hs.set i cur).map hv) ∧ OkI D (I.set i R) ∧ Tape w' tb l L q' ∧ q' ≤ q + 1 + 7 * k)
        ⟨Xb.refl _ _, (none, 0, 0), [], [], q + 1, CurT.nil _ _, rfl, by rw [set_id hHi]; exact gi30.own, by rw [set_id hIi]; exact oI, T30, by omega⟩
        fun k w44 hk ⟨hX44, cur, LH, R, q', CT, hRl, Oi, oI', T44, hq'⟩ again3 hag3 _ => ?_
      have hz44 := hX44.size
      have G44 : w.grownBy w44 (some tb.block) := xb_put' G30 hX44 fun b hb => by
        rcases hb with rfl | rfl | hb
        · exact .inl rfl
        · exact .inr (by omega)
        · exact .inr (by omega)
      have hX16 := (Xb.of (S := fun b => b = tb.block ∨ b = ad6.block ∨ x22.block < b) G1630 (fun b hb => by cases hb; exact .inl rfl)).trans hX44
      have hS16 : ∀ b, (b = tb.block ∨ b = ad6.block ∨ x22.block < b) → b < w10.heap.size ∨ w16.heap.size ≤ b := fun b hb => by
        rcases hb with rfl | rfl | hb
        · exact .inl (by omega)
        · exact .inl (by omega)
        · exact .inr (by omega)
      have X2244 := X2230.xb hX44 (by rintro (q | q | q) <;> omega)
      have X144 := gi30.X1.xb hX44 (by rintro (q | q | q) <;> omega)
      have X344 := gi30.X3.xb hX44 (by rintro (q | q | q) <;> omega)
      have X844 := gi30.X8.xb hX44 (by rintro (q | q | q) <;> omega)
      have rows44 : ∀ (k : Nat) x R, hs[k]? = some x → I[k]? = some R → RowsST w44 w10.heap.size x R := fun k x R q1 q2 => (gi.row k x R q1 q2).xb hX16 hS16
      refine br_dec (fun e3 => ?_) (fun e3 => ?_)
      · dsimp only at e3
        have hk' : k < Nn := by omega
        refine rd_box (by kernel_rfl) X2244 (i := 1) rfl rfl ?_
        refine wr_make tyV t.nc (by dsimp only; omega) (by dsimp only; omega) (by omega) (by unfold maxLen; omega) fun ad46 w47 O47 h47 hb46 hs47 => ?_
        have O47' := O47 w44.heap.size (Nat.le_refl _)
        rw [made_flat encV_len (by omega) zV (Value.agg #[.int .i64 0, .int .i64 0, .string ByteArray.empty]).cells rfl] at O47'
        refine loop_up t.nc (fun c w' => w44.grownBy w' (some tb.block) ∧ ∃ r q2, Own w' w44.heap.size 55 3 (some ad46) t.nc t.nc (r.flatMap encV) ∧ RowA t c r ∧ Tape w' tb l L q2 ∧ q2 ≤ q' + c)
          ⟨grown_of_bel h47 _, _, q', O47', ⟨by simp, fun d y v hd => by omega⟩, T44.up h47, by omega⟩ fun c w50 hc ⟨G50, r, q2, Or, hr, T50, hq2⟩ again4 hag4 _ => ?_
        have X2250 := X2244.xg G50 (by omega)
        have GG50 := G44.trans G50
        refine br_dec (fun e4 => ?_) (fun e4 => ?_)
        · dsimp only at e4
          have hc' : c < t.nc := by omega
          obtain ⟨y, hy⟩ : ∃ y, t.cols[c]? = some y := ⟨_, List.getElem?_eq_getElem (by rw [cols_len]; exact hc')⟩
          have hty := col_type ok hy
          refine drw_mk fun w51 h51 _ => ?_
          have GG51 := GG50.trans (grown_of_bel h51 _)
          refine rd_box (by kernel_rfl) (X2250.up h51) (i := 1) rfl rfl ?_
          refine ColsAt.typ (TW _ GG51).cols rfl hy ?_
          refine rd_box (by kernel_rfl) (X2250.up h51) (i := 1) rfl rfl ?_
          refine ColsAt.nul (TW _ GG51).cols rfl hy ?_
          refine call_mono (smallP (T50.up h51) (by omega) _ hty y.2.2) ?_
          rintro _ w59 ⟨v, rfl, hv, T59, g59⟩
          have G59 : w44.grownBy w59 (some tb.block) := (G50.trans (grown_of_bel h51 _)).trans g59
          have Or59 := Own.xg (Or.kept h51) g59 (by omega)
          refine set_agg tyV encV_len Or59 rfl (j := c) (by rw [hr.len]; exact hc') (p := v) rfl (by omega) rfl fun w61 O61 g61 s61 => ?_
          refine z_i64 (by dsimp only; omega) ?_
          have hbk : ∀ b, blk (some ad46) = some b → b = ad46.block := fun b hb => by cases hb; rfl
          exact hag4 _ hc' ⟨xg_put G59 g61 fun b hb => .inl (by have := hbk b hb; omega), _, q2 + 1, O61, hr.next hy hv, T59.put g61 (fun b hb => by have := hbk b hb; omega), by omega⟩
        · dsimp only at e4
          have hcn : c = t.nc := by omega
          subst hcn
          refine rd_box (by kernel_rfl) X2250 (i := 2) rfl rfl ?_
          refine at_int tyI (by kernel_rfl) (TW _ GG50).prim (j := 0) rfl (by omega) fun y0 hy0 => ?_
          obtain rfl : 0 = y0 := by simpa using hy0
          refine z_i64 (by dsimp only; omega) ?_
          have hk1 : (k : Int) + 1 = ((k + 1 : Nat) : Int) := by omega
          have hbk : ∀ b, blk (some ad46) = some b → b = ad46.block := fun b hb => by cases hb; rfl
          rw [show (Value.agg #[.int .i64 1, .int .i64 ((k : Int) + 1), .string ByteArray.empty]) = .agg (encV (keyV (k + 1))).toArray by rw [hk1]]
          refine set_agg tyV encV_len Or rfl (j := 0) (by rw [hr.len]; omega) (p := keyV (k + 1)) rfl (by omega) rfl fun w68 O68 g68 s68 => ?_
          have G68 := xg_put G50 g68 fun b hb => .inl (by have := hbk b hb; omega)
          refine loop_up t.tos.length (fun f w' => w44.grownBy w' (some tb.block) ∧ ∃ r q2, Own w' w44.heap.size 55 3 (some ad46) t.nc t.nc (r.flatMap encV) ∧ RowB (I.set i R) t k f r ∧ Tape w' tb l L q2 ∧ q2 ≤ q' + 5 + f)
            ⟨G68, _, q2, O68, hr.id _ k, T50.put g68 (fun b hb => by have := hbk b hb; omega), by omega⟩ fun f w71 hf ⟨G71, r, q2, Or, hr, T71, hq2⟩ again5 hag5 _ => ?_
          have X2271 := X2244.xg G71 (by omega)
          have GG71 := G44.trans G71
          refine rd_box (by kernel_rfl) X2271 (i := 4) rfl rfl ?_
          refine br_dec (fun e5 => ?_) (fun e5 => ?_)
          · dsimp only at e5
            have hf' : f < t.tos.length := by omega
            obtain ⟨to, hto⟩ : ∃ to, t.tos[f]? = some to := ⟨_, List.getElem?_eq_getElem hf'⟩
            have hto2 := ok.to to (List.mem_of_getElem? hto)
            obtain ⟨R0, hR0, hR1⟩ := hpos (by omega) f to hf' hto
            obtain ⟨y, hy⟩ : ∃ y, hs[to]? = some y := ⟨_, List.getElem?_eq_getElem (by omega)⟩
            have hyl := (rows44 to y R0 hy hR0).len
            have hR20 := oI.few R0 (List.mem_of_getElem? hR0)
            refine rd_boxN (X144.xg G71 (by omega)) (by kernel_rfl) rfl ?_
            refine call_mono (rtargetP (HS _ GG71) hD ht hto) ?_
            rintro (rr : Int × Bool × Unit) w75 ⟨e1, _, h75⟩
            refine drw_mk fun w76 h76 _ => ?_
            have hb76 := h75.trans h76
            have G76 := G71.trans (grown_of_bel hb76 _)
            have GG76 := G44.trans G76
            have T76 := T71.up hb76
            have X2276 := X2271.up hb76
            have X876 := X844.xg G76 (by omega)
            have Oi76 := Own.xg Oi G76 (by omega)
            obtain ⟨Lf, f1, f2, f3⟩ := TS.fors
            obtain ⟨pf, hpf⟩ : ∃ pf, Lf[f]? = some pf := ⟨_, List.getElem?_eq_getElem (by omega)⟩
            have hf3 := (f3 f pf to hpf hto).2
            have slf : ∀ w2, w76.grownBy w2 (some tb.block) → Sl w2 x.2.2.2.2.1.1 x.2.2.2.2.1.2.1 x.2.2.2.2.1.2.2 2 (Lf.flatMap encFo) := fun w2 hg => (f1.xg (GG76.trans hg) (Nat.lt_succ_self _)).st.sl
            have slk : ∀ w2, w76.grownBy w2 (some tb.block) → Sl w2 pf.1.1 pf.1.2.1 pf.1.2.2 1 (ints .i64 [1 + (t.nf : Int) + (f : Int)]) := fun w2 hg => (hf3.xg (GG76.trans hg) (Nat.lt_succ_self _)).st.sl
            have sli : ∀ w2, w76.grownBy w2 (some tb.block) → Sl w2 (some ad6) D.length D.length 1 ((hs.set i cur).map hv) := fun w2 hg => (Own.xg Oi76 hg (by omega)).sl
            refine flExC_mk (Xg tb.block) (fun _ _ _ => True) (fun D w' => Tape w' tb l L (q2 + (D 16).toNat)) (fun j _ v _ => j = 16 → ∃ x : Int, v = .int .i64 x ∧ 0 ≤ x ∧ x < (R0.length : Int))
              (fun _ => grown_refl _ _) (fun _ _ _ h h' => World.grownBy.trans h h') (fun j j' ags v w1 w2 _ h _ _ => h) T76 ?_
            refine rdE_box (by kernel_rfl) (fun w' hE => X2276.xg hE.1 (by omega)) (i := 4) rfl rfl ?_
            refine idxE tyFo encFo_len (by omega) (slf _ (grown_refl _ _)) rfl hpf fun ad hc => ?_
            refine rdE_at (s := .slice) (by kernel_rfl) (fun w' hE => by have := hc w' (slf w' hE.1) 0 _ rfl; rwa [add_zero] at this) (x := pf.1) rfl ?_
            refine atE_int tyI (by kernel_rfl) (slk _ (grown_refl _ _)) (fun w' hE => slk w' hE.1) (j := 0) rfl rfl ?_
            refine rdE_box0 (by kernel_rfl) (fun w' hE => X876.xg hE.1 (by omega)) rfl rfl ?_
            refine atE_mk (s := .slice) tyTabs (by kernel_rfl) (sli _ (grown_refl _ _)) (fun w' hE => sli w' hE.1) (j := to) e1 (v := hv y) (x := y) (by rw [List.getElem?_map, List.getElem?_set_ne (by omega), hy]; rfl) rfl ?_
            refine flcC_mk (fun Dd w89 hDd hE hS _ => ?_) (fun x94 => ?_)
            · rw [hDd] at hS
              refine call_mono (nextF (y.2.1 : Int) hS (by simp only [Bool.toNat_false]; omega) ⟨by omega, by omega⟩) ?_
              rintro (x92 : Int) w93 ⟨hx, T93, g93⟩
              exact ⟨g93, trivial, T93.eq (by rw [setD_self]; simp only [Bool.toNat_false, Bool.toNat_true]), fun _ => ⟨_, rfl, hx.1, by omega⟩⟩
            refine z_eq rfl ?_
            refine flendC_mk fun w96 hE hS ⟨f16, _⟩ => ?_
            obtain ⟨xx, a1, a2, a3⟩ := f16 rfl
            obtain rfl : x94 = xx := by injection a1
            obtain ⟨m, rfl⟩ : ∃ m : Nat, x94 = (m : Int) := ⟨x94.toNat, by omega⟩
            rw [IntWalk.i64_in _ ⟨by omega, by omega⟩]
            have hm1 : 1 + (m : Int) = ((1 + m : Nat) : Int) := by omega
            rw [show (Value.agg #[.int .i64 1, .int .i64 (1 + (m : Int)), .string ByteArray.empty]) = .agg (encV (keyV (1 + m))).toArray by rw [hm1]]
            have hS' : Tape w96 tb l L (q2 + 1) := hS
            have G96 : w44.grownBy w96 (some tb.block) := G76.trans hE
            have Or96 := Own.xg (Or.kept hb76) (hE : w76.grownBy w96 (some tb.block)) (by omega)
            have hlt := rowlen_lt hf'
            refine set_agg tyV encV_len Or96 (j := 1 + t.nf + f) (by omega) (by rw [hr.len]; exact hlt) (p := keyV (1 + m)) rfl (by omega) rfl fun w99 O99 g99 s99 => ?_
            refine z_i64 (by dsimp only; omega) ?_
            exact hag5 _ hf' ⟨xg_put G96 g99 fun b hb => .inl (by have := hbk b hb; omega), _, q2 + 1, O99, hr.next hto (by omega) (R := R0) (by rw [List.getElem?_set_ne (by omega)]; exact hR0) (by omega), hS'.put g99 (fun b hb => by have := hbk b hb; omega), by omega⟩
          · dsimp only at e5
            have hfn : f = t.tos.length := by omega
            subst hfn
            refine drw_mk fun w101 h101 _ => ?_
            have G101 := G71.trans (grown_of_bel h101 _)
            have T101 := T71.up h101
            have hz101 := G101.size
            have X8101 := X844.xg G101 (by omega)
            have CT101 := CT.xg G101 (by omega)
            have Oi101 := Own.xg Oi G101 (by omega)
            have Or101 := Or.kept h101
            have hcl := CT101.cl
            have hclt := CT101.own.lt
            have hcb : ∀ b, blk cur.1 = some b → x22.block + 1 ≤ b := fun b hb => (hclt b hb).1
            have slc : ∀ w2, w101.grownBy w2 (blk cur.1) → Sl w2 (some ad6) D.length D.length 1 ((hs.set i cur).map hv) := fun w2 hg => (keptO Oi101 CT101.own (by decide) hg).sl
            have x8s : ∀ w2, w101.grownBy w2 (blk cur.1) → Box w2 x8 [.slice (some ad6) D.length D.length] := fun w2 hg => X8101.grown hg (fun q => by have := hcb _ q.symm; omega)
            refine flExC_mk (fun a b => a.grownBy b (blk cur.1)) (fun j a b => j ≠ 10 → bel a b) (fun D w' => D 10 = false → Own w' (x22.block + 1) 56 1 cur.1 cur.2.1 cur.2.2 (LH.map hv))
              (fun j _ v w' => (j = 9 → ∃ ad, v = .slice (some ad) 1 1 ∧ Sl w' (some ad) 1 1 1 [.slice (some ad46) t.nc t.nc] ∧ w101.heap.size ≤ ad.block) ∧ (j = 10 → ∃ a' c', v = .slice a' (cur.2.1 + 1) c' ∧ Own w' (x22.block + 1) 56 1 a' (cur.2.1 + 1) c' ((LH ++ [((some ad46, t.nc, t.nc) : Hdr)]).map hv)))
              (fun _ => grown_refl _ _) (fun _ _ _ h h' => World.grownBy.trans h h') (fun j j' ags v w1 w2 hne h hE hG => ⟨fun e => ?_, fun e => ?_⟩) (fun _ => CT101.own) ?_
            · obtain ⟨ad, d1, d2, d3⟩ := h.1 e
              exact ⟨ad, d1, d2.grown hE (fun ad' ha _ q => by cases ha; have := (hclt _ q.symm).2; omega), d3⟩
            · obtain ⟨a', c', d1, d2⟩ := h.2 e
              exact ⟨a', c', d1, d2.kept (hG (show j' ≠ 10 from fun q => hne (e.trans q.symm)))⟩
            refine rdE_box0 (by kernel_rfl) (fun w' hE => x8s w' hE.1) rfl rfl ?_
            refine rdE_box0 (by kernel_rfl) (fun w' hE => x8s w' hE.1) rfl rfl ?_
            refine atE_mk (s := .slice) tyTabs (by kernel_rfl) (slc _ (grown_refl _ _)) (fun w' hE => slc w' hE.1) (j := i) rfl (v := hv cur) (x := cur) (by rw [List.getElem?_map, List.getElem?_set_self (by omega)]; rfl) rfl ?_
            refine flcC_mk (fun Dd w110 hDd hE hS _ => ?_) (fun x115 => ?_)
            · refine wr_lit tyRows #[.slice (some ad46) t.nc t.nc] (fill_one 1 (.slice (some ad46) t.nc t.nc) _ rfl (by simp)) (by omega) (by omega) rfl (by unfold maxLen; omega) fun ad w114 O114 h114 hb114 _ => ?_
              have hzE : w101.heap.size ≤ w110.heap.size := World.grownBy.size hE
              exact ⟨grown_of_bel h114 _, fun _ => h114, fun hq => (hS (by rw [setD_ne (show (10 : Nat) ≠ 9 by decide)] at hq; exact hq)).kept h114, fun _ => ⟨ad, rfl, (O114 w110.heap.size (Nat.le_refl _)).sl, by omega⟩, fun e => by omega⟩
            refine flcC_mk (fun Dd w116 hDd hE hS hpre => ?_) (fun x121 => ?_)
            · obtain ⟨ad, d1, d2, d3⟩ := hpre.1.1 rfl
              obtain rfl : x115 = (some ad, 1, 1) := sl_eq d1
              have O116 := hS hDd
              have hzE : w101.heap.size ≤ w116.heap.size := World.grownBy.size hE
              refine wr_app tyRows O116 d2 (by omega) rfl (by omega) rfl (by omega) (by unfold maxLen; omega) fun a' c' w120 O120 g120 _ _ => ?_
              refine ⟨g120, (fun hq => absurd rfl hq), ?_, (fun e => by omega), fun _ => ⟨a', c', rfl, ?_⟩⟩
              · intro hq
                rw [setD_self] at hq; cases hq
              · rw [List.map_append]; exact O120
            refine flendC_mk fun w122 hE hS ⟨f10, _, _⟩ => ?_
            obtain ⟨a', c', d1, d2⟩ := f10.2 rfl
            obtain rfl : x121 = (a', cur.2.1 + 1, c') := sl_eq d1
            have hE' : w101.grownBy w122 (blk cur.1) := hE
            have Oi122 := keptO Oi101 CT101.own (by decide) hE'
            have CT122 : CurT w122 (x22.block + 1) (a', cur.2.1 + 1, c') (LH ++ [(some ad46, t.nc, t.nc)]) (R ++ [r]) := CT101.add (rh := (some ad46, t.nc, t.nc)) (Own.st Or101) (fun ad ha => by cases ha; omega) hE' d2
            refine set_mk tyTabs Oi122 (j := i) rfl hi' rfl fun w125 O125 g125 s125 => ?_
            have hbk6 : ∀ b, blk (some ad6) = some b → b = ad6.block := fun b hb => by cases hb; rfl
            refine z_i64 (by dsimp only; omega) ?_
            have hXa : Xb (fun b => b = tb.block ∨ b = ad6.block ∨ x22.block < b) w30 w101 := Xb.more hX44 (Xb.of G101 (fun b hb => hb)) (fun b hb => by cases hb; exact .inl (.inl rfl))
            have hXb : Xb (fun b => b = tb.block ∨ b = ad6.block ∨ x22.block < b) w30 w122 := Xb.more hXa (Xb.of hE' (fun b hb => hb)) (fun b hb => .inl (.inr (.inr (by have := hcb b hb; omega))))
            have hXc : Xb (fun b => b = tb.block ∨ b = ad6.block ∨ x22.block < b) w30 w125 := Xb.more hXb (Xb.of g125 (fun b hb => hb)) (fun b hb => .inl (.inr (.inl (hbk6 b hb))))
            have g125' : w122.grownBy w125 (some ad6.block) := g125
            refine hag3 _ hk' ⟨hXc, (a', cur.2.1 + 1, c'), LH ++ [(some ad46, t.nc, t.nc)], R ++ [r], q2, CT122.xg g125' (by omega), by simp [hRl], ?_, ?_, ((T101.put hE' fun b hb => by have := hcb b hb; omega).put g125 fun b hb => by have := hbk6 b hb; omega), by omega⟩
            · rw [List.map_set, List.set_set] at O125
              rw [List.map_set]; exact O125
            · have hgI : (I.set i R)[i]? = some R := List.getElem?_set_self (by rw [oI.len]; omega)
              have := oI'.add ht hgI (r := r) (by rw [hRl]; exact hr.done) (by omega)
              rwa [List.set_set] at this
      · dsimp only at e3
        have hkN : k = Nn := by omega
        refine z_i64 (by dsimp only; omega) ?_
        refine hag _ hi' ⟨G44, by omega, ?_, hs.set i cur, I.set i R, q', ⟨X144, X344, X844, Oi, by simpa using hhl, fun g y R1 q1 q2 => ?_⟩, oI', fun g R1 hg q1 => ?_, fun g y hg q1 => ?_, T44, by omega⟩
        · exact Oo.xb hX16 hS16
        · by_cases eg : i = g
          · subst eg
            rw [List.getElem?_set_self (by omega)] at q1
            rw [List.getElem?_set_self (by rw [oI.len]; omega)] at q2
            cases q1; cases q2
            exact CT.rows.le (by omega)
          · rw [List.getElem?_set_ne eg] at q1 q2
            exact rows44 g y R1 q1 q2
        · rw [List.getElem?_set_ne (by omega)] at q1
          exact hI0 g R1 (by omega) q1
        · rw [List.getElem?_set_ne (by omega)] at q1
          exact hs0 g y (by omega) q1
  · dsimp only at e
    refine rd_boxN gi.X8 (by kernel_rfl) rfl ?_
    refine wu_box gi.X3 (v := .agg #[.slice (some ad6) D.length D.length]) (by kernel_rfl) (Nat.le_refl 1) rfl fun w129 X129 g129 _ => ?_
    replace X129 : Box w129 x3 [.slice (some ad6) D.length D.length] := X129
    refine rd_boxV (l := [Sh.slice]) X129 (by kernel_rfl) (x := (((some ad6, D.length, D.length) : Hdr), ())) rfl ?_
    have hx3b : x3.block < w4.heap.size := X3.lt
    refine ⟨(((some ad6, D.length, D.length) : Hdr), ()), rfl, I, oI, ⟨hs, (Own.xg gi.own g129 hx3b).sl, by rw [gi.hlen, oI.len], fun k x R q1 q2 => ((gi.row k x R q1 q2).xg g129 (by omega)).at'⟩, xg_put G16 g129 fun b hb => by injection hb with hb; exact .inl (by omega)⟩
end Go.Proofs.YtcfghfmlfgaeaaaGreatDoor

/- The conditions of functions, printed by our tool; each is checked against the code by the kernel. -/



namespace Go.Proofs
open Go Go.V Go.RowKit
open Tryz (prog)
set_option maxRecDepth 100000
def S3t (l_a : OA) (l_n l_c : Nat) (seed_ threshold_ : Int) (w0 : World) (R : KR) : Prop :=
 wr prog (Instr.box 26 (.agg #[.slice l_a l_n l_c, ji 0])) oA w0 fun (x1 : Addr) w2 =>
 call prog 5 [jp x1] (.one (.agg [.slice])) w2 fun (x3 : Hd3 × Unit) w4 =>
 call prog 4 [.agg #[jw x3.1]] (.one (.agg [.slice])) w4 fun (x5 : Hd3 × Unit) w6 =>
 wr prog (Instr.alloc 29 true (.tuple #[])) oA w6 fun (x7 : Addr) w8 =>
 wu prog (jS 29 x7 (.agg #[jw x5.1])) w8 fun w9 =>
 rd prog (jL 29 x7) (.agg [.slice]) w9 fun (x10 : Hd3 × Unit) =>
 call prog 6 [jp x1, .agg #[jw x10.1], ji 20] (.one (.agg [.slice])) w9 fun (x11 : Hd3 × Unit) w12 =>
 wr prog (Instr.alloc 34 true (.tuple #[])) oA w12 fun (x13 : Addr) w14 =>
 wu prog (jS 34 x13 (.agg #[jw x11.1])) w14 fun w15 =>
 z (IntKind.wrap .i64 threshold_) fun (z16 : Int) =>
 rdp prog (cmpS .rem 3 (.tmp 34) (.const (ji 6)) (ji z16) (ji 6)) oI fun (x17 : Int) =>
 z (IntKind.wrap .i64 (1 + x17)) fun (z18 : Int) =>
 rd prog (jL 27 x7) oS w15 fun (x19 : Hd3) =>
 wr prog (Instr.makeSlice 36 (ji ((x19.2.1 : Nat) : Int)) (ji ((x19.2.1 : Nat) : Int))) oS w15 fun (x20 : Hd3) w21 =>
 loop (T := (Int × Unit)) (0, ()) w21 fun (g22 : Int × Unit → World → Prop) (s23 : Int × Unit) w24 => ∀ _ : NV,
 rd prog (jL 27 x7) oS w24 fun (x25 : Hd3) =>
 br (decide (s23.1 < ((x25.2.1 : Nat) : Int))) (loop (T := (Int × Unit)) (0, ()) w24 fun (g26 : Int × Unit → World → Prop) (s27 : Int × Unit) w28 => ∀ _ : NV,
 rd prog (jL 27 x7) oS w28 fun (x29 : Hd3) =>
 rdp prog (jI 27 x29 s23.1) oA fun (x30 : Addr) =>
 rd prog (jL 37 (Addr.add x30 1)) oS w28 fun (x31 : Hd3) =>
 br (decide (s27.1 < ((x31.2.1 : Nat) : Int))) (join (T := Unit) (fun (_s33 : Unit) w34 => ∀ _ : NV,
 z (IntKind.wrap .i64 (s27.1 + 1)) fun (z35 : Int) =>
 g26 (z35, ()) w34)
  fun (K32 : Unit → World → Prop) =>
 rd prog (jL 27 x7) oS w28 fun (x36 : Hd3) =>
 rdp prog (jI 27 x36 s23.1) oA fun (x37 : Addr) =>
 rd prog (jL 41 x37) (.agg [.str, .slice, .slice, .slice, .slice, .slice]) w28 fun (x38 : ByteArray × Hd3 × Hd3 × TS) =>
 call prog 7 [.agg #[.string x38.1, jw x38.2.1, jw x38.2.2.1, jw x38.2.2.2.1, jw x38.2.2.2.2.1, jw x38.2.2.2.2.2.1], ji s27.1] (.one oB) w28 fun (x39 : Bool) w40 =>
 br (!x39) (rdp prog (jI 36 x20 s23.1) oA fun (x41 : Addr) =>
 rd prog (jL 22 x41) oS w40 fun (x42 : Hd3) =>
 wr prog (Instr.buildSlice 22 1 #[(0, (ji s27.1))]) oS w40 fun (x43 : Hd3) w44 =>
 wr prog (Builtin.append_ #[22, 22] 22 #[.slice x42.1 x42.2.1 x42.2.2, .slice x43.1 x43.2.1 x43.2.2]) oS w44 fun (x45 : Hd3) w46 =>
 rdp prog (jI 36 x20 s23.1) oA fun (x47 : Addr) =>
 wu prog (jS 22 x47 (jw x45)) w46 fun w48 =>
 K32 (()) w48)
 (K32 (()) w40))
 (z (IntKind.wrap .i64 (s23.1 + 1)) fun (z49 : Int) =>
 g22 (z49, ()) w28))
 (rd prog (jL 29 x7) (.agg [.slice]) w24 fun (x50 : Hd3 × Unit) =>
 rd prog (jL 34 x13) (.agg [.slice]) w24 fun (x51 : Hd3 × Unit) =>
 call prog 8 [.agg #[jw x50.1], .agg #[jw x51.1], jw x20, ji z18] (.many [oS, oI]) w24 fun (x52 : Hd3 × Int × Unit) w53 =>
 rd prog (jL 29 x7) (.agg [.slice]) w53 fun (x54 : Hd3 × Unit) =>
 call prog 9 [.agg #[jw x54.1], jw x52.1, .int .u64 seed_] (.many [.agg [.slice], oI]) w53 fun (x55 : ((Hd3 × Unit) × Int × Unit)) w56 =>
 wr prog (Instr.alloc 34 true (.tuple #[])) oA w56 fun (x57 : Addr) w58 =>
 wu prog (jS 34 x57 (.agg #[jw x55.1.1])) w58 fun w59 =>
 br (x52.2.1 != 0) (br (x52.2.1 == 0) (R (.bool (x55.2.1 == 12)) w59)
 (R (.bool false) w59))
 (br (x55.2.1 != 0) (br (x52.2.1 == 0) (R (.bool (x55.2.1 == 12)) w59)
 (R (.bool false) w59))
 (drw w59 fun w60 => flExC w60 fun E63 G62 Y61 F64 =>
 rdE prog (ER Y61 [2, 7, 14, 17, 18] E63) (jL 29 x7) (.agg [.slice]) w60 fun (x65 : Hd3 × Unit) =>
 rdE prog (ER Y61 [2, 7, 14, 17, 18] E63) (jL 34 x57) (.agg [.slice]) w60 fun (x66 : Hd3 × Unit) =>
 flcC Y61 2 E63 w60 (fun (_D70 : Nat → Bool) _w68 => True) (fun (D69 : Nat → Bool) w67 =>
   call prog 10 [.agg #[jw x65.1], .agg #[jw x66.1]] (.one oB) w67 fun (x71 : Bool) w72 =>
 (E63 w67 w72 ∧ G62 2 w67 w72 ∧ Y61 (setD D69 2) w72 ∧ F64 (setD D69 2) 2 [.agg #[jw x65.1], .agg #[jw x66.1]] (.bool x71) w72))
  fun (x73 : Bool) =>
 br (!x73) (flendC Y61 [2] E63 w60 (fun D0 w75 => F64 D0 2 [.agg #[jw x65.1], .agg #[jw x66.1]] (.bool x73) w75 ∧ True) fun w74 =>
 R (.bool false) w74)
 (rdE prog (ER Y61 [7, 14, 17, 18] E63) (jL 29 x7) (.agg [.slice]) w60 fun (x76 : Hd3 × Unit) =>
 rdE prog (ER Y61 [7, 14, 17, 18] E63) (jL 34 x57) (.agg [.slice]) w60 fun (x77 : Hd3 × Unit) =>
 flcC Y61 7 E63 w60 (fun (D81 : Nat → Bool) w79 => F64 D81 2 [.agg #[jw x65.1], .agg #[jw x66.1]] (.bool x73) w79 ∧ True) (fun (D80 : Nat → Bool) w78 =>
   call prog 11 [.agg #[jw x76.1], .agg #[jw x77.1]] (.one oB) w78 fun (x82 : Bool) w83 =>
 (E63 w78 w83 ∧ G62 7 w78 w83 ∧ Y61 (setD D80 7) w83 ∧ F64 (setD D80 7) 7 [.agg #[jw x76.1], .agg #[jw x77.1]] (.bool x82) w83))
  fun (x84 : Bool) =>
 br (!x84) (flendC Y61 [7, 2] E63 w60 (fun D0 w86 => F64 D0 7 [.agg #[jw x76.1], .agg #[jw x77.1]] (.bool x84) w86 ∧ F64 D0 2 [.agg #[jw x65.1], .agg #[jw x66.1]] (.bool x73) w86 ∧ True) fun w85 =>
 R (.bool false) w85)
 (rdE prog (ER Y61 [18] E63) (jL 29 x7) (.agg [.slice]) w60 fun (x87 : Hd3 × Unit) =>
 rdE prog (ER Y61 [18] E63) (jL 34 x57) (.agg [.slice]) w60 fun (x88 : Hd3 × Unit) =>
 flcC Y61 14 E63 w60 (fun (D92 : Nat → Bool) w90 => F64 D92 7 [.agg #[jw x76.1], .agg #[jw x77.1]] (.bool x84) w90 ∧ F64 D92 2 [.agg #[jw x65.1], .agg #[jw x66.1]] (.bool x73) w90 ∧ True) (fun (D91 : Nat → Bool) w89 =>
   wr prog (Instr.box 26 (.agg #[.slice none 0 0, ji 0])) oA w89 fun (x93 : Addr) w94 =>
 (E63 w89 w94 ∧ G62 14 w89 w94 ∧ Y61 (setD D91 14) w94 ∧ F64 (setD D91 14) 14 [.agg #[.slice none 0 0, ji 0]] (jp x93) w94))
  fun (x95 : Addr) =>
 rdE prog (ER Y61 [17, 18] E63) (jL 29 x7) (.agg [.slice]) w60 fun (x96 : Hd3 × Unit) =>
 rdE prog (ER Y61 [17, 18] E63) (jL 34 x13) (.agg [.slice]) w60 fun (x97 : Hd3 × Unit) =>
 flcC Y61 17 E63 w60 (fun (D101 : Nat → Bool) w99 => F64 D101 14 [.agg #[.slice none 0 0, ji 0]] (jp x95) w99 ∧ F64 D101 7 [.agg #[jw x76.1], .agg #[jw x77.1]] (.bool x84) w99 ∧ F64 D101 2 [.agg #[jw x65.1], .agg #[jw x66.1]] (.bool x73) w99 ∧ True) (fun (D100 : Nat → Bool) w98 =>
   call prog 13 [jp x95, .agg #[jw x96.1], .agg #[jw x97.1], ji 0] (.one oS) w98 fun (x102 : Hd3) w103 =>
 (E63 w98 w103 ∧ G62 17 w98 w103 ∧ Y61 (setD D100 17) w103 ∧ F64 (setD D100 17) 17 [jp x95, .agg #[jw x96.1], .agg #[jw x97.1], ji 0] (jw x102) w103))
  fun (x104 : Hd3) =>
 flendC Y61 [17, 14, 7, 2] E63 w60 (fun D0 w106 => F64 D0 17 [jp x95, .agg #[jw x96.1], .agg #[jw x97.1], ji 0] (jw x104) w106 ∧ F64 D0 14 [.agg #[.slice none 0 0, ji 0]] (jp x95) w106 ∧ F64 D0 7 [.agg #[jw x76.1], .agg #[jw x77.1]] (.bool x84) w106 ∧ F64 D0 2 [.agg #[jw x65.1], .agg #[jw x66.1]] (.bool x73) w106 ∧ True) fun w105 =>
 call prog 12 [.agg #[jw x87.1], .agg #[jw x88.1], jw x104] (.one oB) w105 fun (x107 : Bool) w108 =>
 br (!x107) (R (.bool false) w108)
 (loop (T := (Int × Unit)) (0, ()) w108 fun (g109 : Int × Unit → World → Prop) (s110 : Int × Unit) w111 => ∀ _ : NV,
 br (decide (s110.1 < ((x20.2.1 : Nat) : Int))) (loop (T := (Int × Unit)) (0, ()) w111 fun (g112 : Int × Unit → World → Prop) (s113 : Int × Unit) w114 => ∀ _ : NV,
 rd prog (jL 32 x57) oS w114 fun (x115 : Hd3) =>
 rdp prog (jI 32 x115 s110.1) oA fun (x116 : Addr) =>
 rd prog (jL 53 x116) oS w114 fun (x117 : Hd3) =>
 br (decide (s113.1 < ((x117.2.1 : Nat) : Int))) (loop (T := (Int × Unit)) (0, ()) w114 fun (g118 : Int × Unit → World → Prop) (s119 : Int × Unit) w120 => ∀ _ : NV,
 rdp prog (jI 36 x20 s110.1) oA fun (x121 : Addr) =>
 rd prog (jL 22 x121) oS w120 fun (x122 : Hd3) =>
 br (decide (s119.1 < ((x122.2.1 : Nat) : Int))) (join (T := Unit) (fun (_s124 : Unit) w125 => ∀ _ : NV,
 z (IntKind.wrap .i64 (s119.1 + 1)) fun (z126 : Int) =>
 g118 (z126, ()) w125)
  fun (K123 : Unit → World → Prop) =>
 drw w120 fun w127 => flEx fun F128 =>
 rd prog (jL 32 x57) oS w127 fun (x129 : Hd3) =>
 rdp prog (jI 32 x129 s110.1) oA fun (x130 : Addr) =>
 rd prog (jL 53 x130) oS w127 fun (x131 : Hd3) =>
 rdp prog (jI 53 x131 s113.1) oA fun (x132 : Addr) =>
 rd prog (jL 56 x132) oS w127 fun (x133 : Hd3) =>
 rdp prog (jI 36 x20 s110.1) oA fun (x134 : Addr) =>
 rd prog (jL 22 x134) oS w127 fun (x135 : Hd3) =>
 rdp prog (jI 22 x135 s119.1) oA fun (x136 : Addr) =>
 rd prog (jL 3 x136) oI w127 fun (x137 : Int) =>
 rdp prog (jI 56 x133 x137) oA fun (x138 : Addr) =>
 rd prog (jL 55 x138) (.agg [.int .i64, .int .i64, .str]) w127 fun (x139 : Int × Int × ByteArray × Unit) =>
 flc bel w127 (fun _w141 => True) (fun w140 =>
   wr prog (Instr.alloc 55 true (.tuple #[])) oA w140 fun (x142 : Addr) w143 =>
 (bel w140 w143 ∧ F128 17 [] (jp x142) w143))
  fun (x144 : Addr) =>
 flend bel w127 (fun w146 => F128 17 [] (jp x144) w146 ∧ True) fun w145 =>
 wu prog (jS 55 x144 (.agg #[ji x139.1, ji x139.2.1, .string x139.2.2.1])) w145 fun w147 =>
 loop (T := TF) (0, 0, ()) w147 fun (g148 : TF → World → Prop) (s149 : TF) w150 => ∀ _ : NV,
 rd prog (jL 32 x13) oS w150 fun (x151 : Hd3) =>
 rdp prog (jI 32 x151 s110.1) oA fun (x152 : Addr) =>
 rd prog (jL 53 x152) oS w150 fun (x153 : Hd3) =>
 br (decide (s149.2.1 < ((x153.2.1 : Nat) : Int))) (join (T := (Int × Unit)) (fun (s155 : Int × Unit) w156 => ∀ _ : NV,
 z (IntKind.wrap .i64 (s149.2.1 + 1)) fun (z157 : Int) =>
 g148 (s155.1, z157, ()) w156)
  fun (K154 : Int × Unit → World → Prop) =>
 drw w150 fun w158 =>
 rd prog (jL 32 x13) oS w158 fun (x159 : Hd3) =>
 rdp prog (jI 32 x159 s110.1) oA fun (x160 : Addr) =>
 rd prog (jL 53 x160) oS w158 fun (x161 : Hd3) =>
 rdp prog (jI 53 x161 s149.2.1) oA fun (x162 : Addr) =>
 rd prog (jL 56 x162) oS w158 fun (x163 : Hd3) =>
 rdp prog (jI 36 x20 s110.1) oA fun (x164 : Addr) =>
 rd prog (jL 22 x164) oS w158 fun (x165 : Hd3) =>
 rdp prog (jI 22 x165 s119.1) oA fun (x166 : Addr) =>
 rd prog (jL 3 x166) oI w158 fun (x167 : Int) =>
 rdp prog (jI 56 x163 x167) oA fun (x168 : Addr) =>
 rd prog (jL 55 x168) (.agg [.int .i64, .int .i64, .str]) w158 fun (x169 : Int × Int × ByteArray × Unit) =>
 rd prog (jL 55 x144) (.agg [.int .i64, .int .i64, .str]) w158 fun (x170 : Int × Int × ByteArray × Unit) =>
 call prog 14 [.agg #[ji x169.1, ji x169.2.1, .string x169.2.2.1], .agg #[ji x170.1, ji x170.2.1, .string x170.2.2.1]] (.one oB) w158 fun (x171 : Bool) w172 =>
 br x171 (z (IntKind.wrap .i64 (s149.1 + 1)) fun (z173 : Int) =>
 K154 (z173, ()) w172)
 (K154 (s149.1, ()) w172))
 (rd prog (jL 3 x144) oI w150 fun (x174 : Int) =>
 br (x174 != 0) (br (decide (s149.1 < z18)) (R (.bool false) w150)
 (K123 (()) w150))
 (K123 (()) w150)))
 (z (IntKind.wrap .i64 (s113.1 + 1)) fun (z175 : Int) =>
 g112 (z175, ()) w120))
 (z (IntKind.wrap .i64 (s110.1 + 1)) fun (z176 : Int) =>
 g109 (z176, ()) w114))
 (R (.bool true) w111)))))))
def H3t : Hints := ⟨[(2, 0, [(12, (.one (.int .i64)))]), (2, 2, [(13, (.one (.int .i64)))]), (1, 3, []), (2, 4, [(18, (.one (.int .i64)))]), (2, 6, [(19, (.one (.int .i64)))]), (2, 8, [(20, (.one (.int .i64)))]), (2, 10, [(22, (.one (.int .i64))), (23, (.one (.int .i64)))]), (1, 11, [(22, (.one (.int .i64)))]), (1, 9, [])], [(18, 18), (29, 18), (34, 18)], [], [1000018]⟩
theorem S3t_calls (l_a : OA) (l_n l_c : Nat) (seed_ threshold_ : Int) (w0 : World) (R : KR) (h : S3t l_a l_n l_c seed_ threshold_ w0 R) : Calls prog 3 #[.slice l_a l_n l_c, .int .u64 seed_, .int .u8 threshold_] w0 (ret R) :=
 vcFn_sound (H := H3t) follows_ Tryz.func3 (Eq.mpr (by kernel_rfl) h)
end Go.Proofs

/- TopPrivate walked: it returns true. -/


namespace Go.Proofs.YtcfghfmlfgaeaaaGreatDoor
open Go.RowKit Go.Q Go.V Go.Bag Go.Shelf

theorem SchF.up {b : Nat} {w w2 : World} {h : Hdr} {D : List TPar} (H : SchF b w h D) (hb : bel w w2) : SchF b w2 h D := by
  obtain ⟨L, h1, h2, h3, h4⟩ := H
  exact ⟨L, h1, h2.up hb, h3, fun i x t q1 q2 => (h4 i x t q1 q2).up hb⟩
theorem frees_dec : ∀ nf, nf < 3 → ∀ m, m < 3 → ((List.range (1 + nf + m)).filter fun c => decide (1 ≤ c ∧ c ≤ nf)).map (fun n : Nat => (n : Int)) = frees nf := by decide
theorem frees_eq {i : Nat} {t : TPar} (ok : t.Ok i) : nints ((List.range t.nc).filter (isFree t)) = ints .i64 (frees t.nf) := by
  have h1 := ok.f2
  have h2 := ok.k2
  unfold nints
  rw [← frees_dec t.nf (Nat.lt_succ_of_le h1) t.tos.length (Nat.lt_succ_of_le h2)]
  rfl
def cntC (c : Nat) (v : V3) (Rs : Rows) : Nat := Rs.countP fun r => decide (r[c]? = some v)
theorem cntC_fcol {c : Nat} {v : V3} (hv : v.1 ≠ 0) : ∀ Rs : Rows, cntV v (fcol c Rs) = cntC c v Rs
  | [] => rfl
  | r :: Rs => by
    have ih := cntC_fcol (c := c) hv Rs
    unfold cntV fcol cntC at ih ⊢
    rw [List.countP_cons, List.filterMap_cons]
    cases hr : r[c]? with
    | none => simp only [reduceCtorEq, decide_false]; rw [ih]; simp
    | some u =>
      dsimp only
      rw [List.filter_cons]
      by_cases hu : u.1 ≠ 0
      · rw [if_pos (by simpa using hu), List.countP_cons, ih]
        by_cases e : u = v
        · subst e; simp
        · simp [e]
      · rw [if_neg (by simpa using hu), ih]
        have e : u ≠ v := fun e => hu (e ▸ hv)
        simp [e]
theorem cntC_take {c : Nat} {v : V3} {Rs : Rows} {o : Nat} {r : Rw} {p : V3} (h : Rs[o]? = some r) (hp : r[c]? = some p) : cntC c v (Rs.take (o + 1)) = cntC c v (Rs.take o) + if p = v then 1 else 0 := by
  unfold cntC
  rw [List.take_add_one, h, List.countP_append]
  simp [List.countP_cons, hp]
set_option maxHeartbeats 4000000 in
theorem topF {w : World} {l : Hdr} {L : List Int} (S : Sl w l.1 l.2.1 l.2.2 1 (ints .i64 L)) (hL : ∀ x ∈ L, I64 x) (seed th : Int) (hth : 0 ≤ th ∧ th ≤ 255) (hm : ML w) :
    call Tryz.prog 3 [.slice l.1 l.2.1 l.2.2, .int .u64 seed, .int .u8 th] (.one (.one .bool)) w (fun (b : Bool) w' => b = true ∧ bel w w') := by
  refine call_of (S3t_calls l.1 l.2.1 l.2.2 seed th w _ ?_)
  unfold S3t
  refine wr_box fun x1 w2 X1 h2 hx1 hs2 => ?_
  replace X1 : Box w2 x1 [.slice l.1 l.2.1 l.2.2, .int .i64 0] := X1
  have T2 : Tape w2 x1 l L 0 := tape_new S hL X1 h2 hx1
  refine call_mono (plainMk T2 (by omega)) ?_
  rintro ⟨x3, u3⟩ w4 ⟨D, q, hD, hq, SC, T4, g4⟩
  replace SC : SchC x1.block w4 x3 D := SC
  have hd2 := hD.d2
  have hx1l : x1.block < w4.heap.size := T4.box.lt
  refine call_mono (freeMk SC hD hx1l) ?_
  rintro ⟨x5, u5⟩ w6 ⟨SF, h6⟩
  replace SF : SchF x1.block w6 x5 D := SF
  have hz6 := h6.size
  refine var_mk (z := .agg #[.slice none 0 0]) (v := .agg #[.slice x5.1 x5.2.1 x5.2.2]) (by kernel_rfl) (by kernel_rfl) rfl rfl fun x7 w9 X7 h9 hx7 => ?_
  replace X7 : Box w9 x7 [.slice x5.1 x5.2.1 x5.2.2] := X7
  refine rd_boxN X7 (by kernel_rfl) rfl ?_
  refine call_mono (goodMk ((T4.up h6).up h9) (by omega) (SF.up h9) hD) ?_
  rintro ⟨x11, u11⟩ w12 ⟨I, oI, G12, g12⟩
  replace G12 : InsAt w12 x11 I := G12
  have SS12 := (SF.up h9).sch g12
  have X712 := X7.xg g12 (by omega)
  have hb12 := (((h2.grownAt g4 (by omega)).trans h6).trans h9).grownAt g12 (by omega)
  have hil := oI.len
  refine var_mk (z := .agg #[.slice none 0 0]) (v := .agg #[.slice x11.1 x11.2.1 x11.2.2]) (by kernel_rfl) (by kernel_rfl) rfl rfl fun x13 w15 X13 h15 hx13 => ?_
  replace X13 : Box w15 x13 [.slice x11.1 x11.2.1 x11.2.2] := X13
  have hb15 := hb12.trans h15
  replace X7 := X712.up h15
  have SS := SS12.up h15
  have GG := G12.up h15
  have hm15 := hm.up hb15
  have hsl := SS.len
  clear SS12 G12 X712 T2 T4 SC SF X1
  refine z_i64 (by omega) ?_
  refine rdp_rem (by omega) ?_
  have b1 : 0 ≤ th.tmod 6 := Int.tmod_nonneg 6 hth.1
  have b2 : th.tmod 6 < 6 := Int.tmod_lt_of_pos th (by omega)
  generalize th.tmod 6 = th6 at b1 b2 ⊢
  refine z_i64 (by omega) ?_
  refine rd_box0 (by kernel_rfl) X7 rfl rfl ?_
  refine wr_make tyLI D.length (by dsimp only; omega) (by dsimp only; omega) (by omega) (by unfold maxLen; omega) fun ad20 w21 O21 h21 hb20 hs21 => ?_
  have O21' := O21 w15.heap.size (Nat.le_refl _)
  have hmk : (madeCells (Value.slice none 0 0).cells (D.length * 1)).toList = (List.replicate D.length ((none, 0, 0) : Hdr)).map hv := by
    have e := made_flat (sz := 1) (enc := fun _ : Unit => [Value.slice none 0 0]) (fun _ => rfl) (by omega) () (Value.slice none 0 0).cells rfl D.length
    rw [e, ← List.map_eq_flatMap, List.map_replicate, List.map_replicate]
    rfl
  rw [hmk] at O21'
  -- the protected columns
  refine loop_up D.length (fun n w' => bel w15 w' ∧ w21.heap.size ≤ w'.heap.size ∧ ∃ hs, Own w' w15.heap.size 22 1 (some ad20) D.length D.length (hs.map hv) ∧ hs.length = D.length ∧ (∀ (k : Nat) y, n ≤ k → hs[k]? = some y → y = ((none, 0, 0) : Hdr)) ∧ ∀ (k : Nat) y t, k < n → hs[k]? = some y → D[k]? = some t → SB w' w21.heap.size 3 y 1 (ints .i64 (frees t.nf)))
    ⟨h21, Nat.le_refl _, List.replicate D.length (none, 0, 0), O21', by simp, fun k y _ q => (List.mem_replicate.1 (List.mem_of_getElem? q)).2, fun k y t hk => by omega⟩ fun n w24 hn ⟨hb24, hz24, hs, Op, hhl, h0, hP⟩ again hag _ => ?_
  refine rd_box0 (by kernel_rfl) (X7.up hb24) rfl rfl ?_
  refine br_dec (fun e => ?_) (fun e => ?_)
  · dsimp only at e
    have hn' : n < D.length := by omega
    obtain ⟨t, ht⟩ : ∃ t, D[n]? = some t := ⟨_, List.getElem?_eq_getElem hn'⟩
    have ok := hD.each n t ht
    have hncle := nc_le ok
    have hHn : hs[n]? = some ((none, 0, 0) : Hdr) := by
      obtain ⟨y, hy⟩ : ∃ y, hs[n]? = some y := ⟨_, List.getElem?_eq_getElem (by omega)⟩
      rw [hy, h0 n y (Nat.le_refl _) hy]
    refine loop_up t.nc (fun c w' => Xb (fun b => b = ad20.block ∨ w24.heap.size ≤ b) w24 w' ∧ ∃ cur : Hdr, Own w' w15.heap.size 22 1 (some ad20) D.length D.length ((hs.set n cur).map hv) ∧ Own w' w24.heap.size 3 1 cur.1 cur.2.1 cur.2.2 (nints ((List.range c).filter (isFree t))))
      ⟨Xb.refl _ _, (none, 0, 0), by rw [set_id hHn]; exact Op, Own.nil _ _ _ _⟩ fun c w28 hc ⟨hX, cur, Oi, Oc⟩ again2 hag2 _ => ?_
    have hz28 := hX.size
    have hb28 : bel w15 w28 := Xb.bel hb24 hX fun b hb => by rcases hb with rfl | hb <;> omega
    refine rd_box0 (by kernel_rfl) (X7.up hb28) rfl rfl ?_
    refine (SS.up hb28).fld (o := 1) rfl hn' (by kernel_rfl) fun x t' ht' T => ⟨x.2.1, rfl, ?_⟩
    obtain rfl : t = t' := by rw [ht] at ht'; cases ht'; rfl
    have hnc := T.nc
    refine br_dec (fun e2 => ?_) (fun e2 => ?_)
    · dsimp only at e2
      have hc' : c < t.nc := by omega
      refine join_mk (fun _ w' => Xb (fun b => b = ad20.block ∨ w24.heap.size ≤ b) w24 w' ∧ ∃ cur : Hdr, Own w' w15.heap.size 22 1 (some ad20) D.length D.length ((hs.set n cur).map hv) ∧ Own w' w24.heap.size 3 1 cur.1 cur.2.1 cur.2.2 (nints ((List.range (c + 1)).filter (isFree t)))) (fun K hK => ?_) (fun _ w34 hJ _ => ?_)
      · refine rd_box0 (by kernel_rfl) (X7.up hb28) rfl rfl ?_
        refine (SS.up hb28).at rfl hn' fun x t' ht' T => ?_
        obtain rfl : t = t' := by rw [ht] at ht'; cases ht'; rfl
        refine call_mono (rkeyP T ok hc') ?_
        rintro b w40 ⟨rfl, h40⟩
        have hX40 := Xb.more hX (Xb.of (S := fun _ => False) (grown_of_bel h40 none) (fun k hk => by cases hk)) (fun k hk => hk.elim)
        have Oi40 := Own.kept Oi h40
        have Oc40 := Own.kept Oc h40
        have hz40 := h40.size
        refine br_mk (fun e3 => ?_) (fun e3 => ?_)
        · have hfr : isFree t c = true := by simpa using e3
          refine at_hdr tyLI (by kernel_rfl) Oi40.sl rfl hn' fun y hy => ?_
          rw [List.getElem?_set_self (by omega)] at hy
          obtain rfl : cur = y := by cases hy; rfl
          refine wr_lit tyI #[.int .i64 (c : Int)] (fill_one 1 (.int .i64 (c : Int)) _ rfl (by simp)) (by omega) (by omega) rfl (by unfold maxLen; omega) fun ad w44 O44 h44 _ _ => ?_
          have hz44 := h44.size
          have Oc44 := Own.kept Oc40 h44
          have Oi44 := Own.kept Oi40 h44
          have hls : cur.2.1 = ((List.range c).filter (isFree t)).length := by have := Oc44.1; simp [nints, ints] at this; omega
          have hle : ((List.range c).filter (isFree t)).length ≤ c := by simpa using List.length_filter_le (isFree t) (List.range c)
          refine wr_app tyI Oc44 (O44 w40.heap.size (Nat.le_refl _)).sl (by omega) rfl (by omega) rfl (by omega) (by unfold maxLen; omega) fun a' c' w46 O46 g46 _ hz46 => ?_
          have Oi46 := keptO Oi44 Oc44 (by decide) g46
          refine set_mk tyLI Oi46 (j := n) rfl hn' rfl fun w48 O48 g48 s48 => ?_
          have O46' := keptO O46 Oi46 (by decide) g48
          have hX44 := Xb.more hX40 (Xb.of (S := fun _ => False) (grown_of_bel h44 none) (fun k hk => by cases hk)) (fun k hk => hk.elim)
          have hX46 := Xb.more hX44 (Xb.of g46 (fun k hk => hk)) (fun k hk => .inl (.inr (Oc44.lt k hk).1))
          have hX48 := Xb.more hX46 (Xb.of g48 (fun k hk => hk)) (fun k hk => .inl (.inl (by cases hk; rfl)))
          refine hK () _ ⟨hX48, (a', cur.2.1 + 1, c'), ?_, ?_⟩
          · rw [List.map_set, List.set_set] at O48
            rw [List.map_set]; exact O48
          · rw [List.range_succ, List.filter_append]
            simp only [List.filter_cons, hfr, if_true, List.filter_nil]
            rw [nints, List.map_append, ints, List.map_append]
            exact O46'
        · have hfr : isFree t c = false := by simpa using e3
          refine hK () _ ⟨hX40, cur, Oi40, ?_⟩
          rw [List.range_succ, List.filter_append]
          simp only [List.filter_cons, hfr, List.filter_nil, List.append_nil, Bool.false_eq_true, if_false]
          exact Oc40
      · refine z_i64 (by dsimp only; omega) ?_
        exact hag2 _ hc' hJ
    · dsimp only at e2
      have hcn : c = t.nc := by omega
      subst hcn
      refine z_i64 (by dsimp only; omega) ?_
      refine hag _ hn' ⟨hb28, by omega, hs.set n cur, Oi, by simpa using hhl, fun k y hk hy => ?_, fun k y t' hk hy ht' => ?_⟩
      · rw [List.getElem?_set_ne (by omega)] at hy
        exact h0 k y (by omega) hy
      · by_cases ek : n = k
        · subst ek
          rw [List.getElem?_set_self (by omega)] at hy
          rw [ht] at ht'
          cases hy; cases ht'
          rw [frees_eq ok] at Oc
          exact SB.of Oc hz24
        · rw [List.getElem?_set_ne ek] at hy
          exact (hP k y t' (by omega) hy ht').xb hX fun b hb => by
            rcases hb with rfl | hb
            · exact .inl (by omega)
            · exact .inr hb
  · dsimp only at e
    have hnD : n = D.length := by omega
    subst hnD
    have PA : ProtAt w24 (some ad20, D.length, D.length) D := ⟨hs, Op.sl, hhl, fun k y t hy ht => (hP k y t (by have := (List.getElem?_eq_some_iff.1 ht).1; omega) hy ht).st.sl⟩
    have hbw24 := hb15.trans hb24
    refine rd_boxN (X7.up hb24) (by kernel_rfl) rfl ?_
    refine rd_boxN (X13.up hb24) (by kernel_rfl) rfl ?_
    refine call_mono (statisticsP (SS.up hb24) hD (hm15.up hb24) (GG.up hb24) oI PA (th := 1 + th6) (by omega)) ?_
    rintro ⟨x52, e52, u52⟩ w53 ⟨h53, he52, Q, SA, QO⟩
    dsimp only at he52 SA
    subst he52
    have hb53 := hb24.trans h53
    refine rd_boxN (X7.up hb53) (by kernel_rfl) rfl ?_
    refine call_mono (synthesiseP (SS.up hb53) hD (hm15.up hb53) oI SA QO seed) ?_
    rintro ⟨⟨x55, u55⟩, e55, u55'⟩ w56 ⟨h56, hS⟩
    dsimp only at hS
    have hb56 := hb53.trans h56
    refine var_mk (z := .agg #[.slice none 0 0]) (v := .agg #[.slice x55.1 x55.2.1 x55.2.2]) (by kernel_rfl) (by kernel_rfl) rfl rfl fun x57 w59 X57 h59 hx57 => ?_
    replace X57 : Box w59 x57 [.slice x55.1 x55.2.1 x55.2.2] := X57
    have hb59 := hb56.trans h59
    refine br_f rfl ?_
    rcases hS with rfl | ⟨rfl, I', GI', MO⟩
    · refine br_t rfl (br_t rfl ?_)
      exact ⟨_, rfl, rfl, hb15.trans hb59⟩
    refine br_f rfl ?_
    refine drw_mk fun w60 h60 hs60 => ?_
    have hb60 := hb59.trans h60
    have X760 := X7.up hb60
    have X1360 := X13.up hb60
    have X5760 := X57.up h60
    have SS60 := SS.up hb60
    have GG60 := GG.up hb60
    have GI60 := (GI'.up h59).up h60
    have hm60 := hm15.up hb60
    have PA60 := PA.up (((h53.trans h56).trans h59).trans h60)
    have oI' := made_ok hD oI QO MO
    refine flExC_mkD (fun w1 w2 => Below w60.heap.size w1 w2) (fun j a b => j ≠ 17 → bel a b) (fun _ _ => True)
      (fun Dn j _ v w' => (j = 2 → v = .bool true) ∧ (j = 7 → v = .bool true) ∧ (j = 14 → Dn 17 = false → ∃ ad : Addr, v = .pointer (some ad) ∧ w60.heap.size ≤ ad.block ∧ Box w' ad [.slice none 0 0, .int .i64 0]) ∧ (j = 17 → ∀ x : Hdr, v = .slice x.1 x.2.1 x.2.2 → DmAt w' x I))
      (fun w1 => Below.refl _ w1) (fun _ _ _ a b => a.trans b) (fun j j' Dn ags v w1 w2 hne _ _ hΦ hE hG => ⟨hΦ.1, hΦ.2.1, fun e hD' => ?_, fun e x hx => ?_⟩) trivial ?_
    · by_cases e17 : j' = 17
      · subst e17
        rw [setD_self] at hD'; cases hD'
      · rw [setD_ne (fun q => e17 q.symm)] at hD'
        obtain ⟨ad, a1, a2, a3⟩ := hΦ.2.2.1 e hD'
        exact ⟨ad, a1, a2, a3.up (hG e17)⟩
    · exact (hΦ.2.2.2 e x hx).up (hG fun q => hne (e.trans q.symm))
    have gBel : ∀ {a b : World}, bel a b → w60.heap.size ≤ a.heap.size → Below w60.heap.size a b := fun h hz => ⟨h.os, h.tape, h.output, h.size, fun k hk => h.block k (by omega)⟩
    refine rdE_boxN (fun w' hE => X760.up hE.1) (by kernel_rfl) rfl ?_
    refine rdE_boxN (fun w' hE => X5760.up hE.1) (by kernel_rfl) rfl ?_
    refine flcC_mk (fun Dd w67 hDd hE hSt _ => ?_) (fun x72 => ?_)
    · refine call_mono (ivalidP (SS60.up hE) hD (hm60.up hE) (GI60.up hE) oI') ?_
      rintro b w71 ⟨rfl, h71⟩
      exact ⟨gBel h71 hE.size, fun _ => h71, trivial, fun _ => rfl, (fun e => by omega), (fun e => by omega), fun e => by omega⟩
    refine br_mk (fun ex => flendC_mk fun w73 hE hSt ⟨f2, _⟩ => ?_) (fun ex => ?_)
    · have := f2.1 rfl
      injection this with this
      subst this
      cases ex
    refine rdE_boxN (fun w' hE => X760.up hE.1) (by kernel_rfl) rfl ?_
    refine rdE_boxN (fun w' hE => X5760.up hE.1) (by kernel_rfl) rfl ?_
    refine flcC_mk (fun Dd w77 hDd hE hSt _ => ?_) (fun x82 => ?_)
    · refine call_mono (rvalP (SS60.up hE) hD (GI60.up hE) oI') ?_
      rintro b w81 ⟨rfl, h81⟩
      exact ⟨gBel h81 hE.size, fun _ => h81, trivial, (fun e => by omega), fun _ => rfl, (fun e => by omega), fun e => by omega⟩
    refine br_mk (fun ex2 => flendC_mk fun w83 hE hSt ⟨f7, _⟩ => ?_) (fun ex2 => ?_)
    · have := f7.2.1 rfl
      injection this with this
      subst this
      cases ex2
    refine rdE_boxN (fun w' hE => X760.up hE.1) (by kernel_rfl) rfl ?_
    refine rdE_boxN (fun w' hE => X5760.up hE.1) (by kernel_rfl) rfl ?_
    refine flcC_mk (fun Dd w87 hDd hE hSt _ => ?_) (fun x92 => ?_)
    · refine wr_box fun x90 w91 X90 h91 hx90 _ => ?_
      replace X90 : Box w91 x90 [.slice none 0 0, .int .i64 0] := X90
      have hzE := hE.size
      exact ⟨gBel h91 hE.size, fun _ => h91, trivial, (fun e => by omega), (fun e => by omega), (fun _ _ => ⟨x90, rfl, by omega, X90⟩), fun e => by omega⟩
    refine rdE_boxN (fun w' hE => X760.up hE.1) (by kernel_rfl) rfl ?_
    refine rdE_boxN (fun w' hE => X1360.up hE.1) (by kernel_rfl) rfl ?_
    refine flcC_mk (fun Dd w95 hDd hE hSt hpre => ?_) (fun x100 => ?_)
    · obtain ⟨ad, a1, a2, a3⟩ := hpre.1.2.2.1 rfl hDd
      obtain rfl : x92 = ad := by injection a1 with a1; injection a1
      have Tp : Tape w95 x92 (none, 0, 0) [] 0 := ⟨a3, (Own.nil w95 0 3 1).sl, fun ad ha hx => absurd rfl hx, fun x hx => by simp at hx⟩
      refine call_mono (countedP Tp (by omega) (SS60.up hE) hD (GG60.up hE) hil) ?_
      rintro x98 w99 ⟨DM, _, g99⟩
      have hzE := hE.size
      refine ⟨⟨g99.os, g99.tape, g99.output, g99.size, fun k hk => g99.block k (by omega) (by intro q; injection q; omega)⟩, (fun h => absurd rfl h), trivial, (fun e => by omega), (fun e => by omega), (fun e => by omega), fun _ x hx => ?_⟩
      obtain rfl : x98 = x := sl_eq hx
      exact DM
    refine flendC_mk fun w101 hE hSt ⟨f17, _⟩ => ?_
    have DM := f17.2.2.2 rfl x100 rfl
    have hE101 : bel w60 w101 := hE
    have hlen2 : ∀ (k : Nat) R R0, I'[k]? = some R → I[k]? = some R0 → R.length = R0.length := fun k R R0 h1 h2 => by
      obtain ⟨t, ht⟩ : ∃ t, D[k]? = some t := ⟨_, List.getElem?_eq_getElem (by have := (List.getElem?_eq_some_iff.1 h2).1; omega)⟩
      obtain ⟨q, hq⟩ : ∃ q, Q[k]? = some q := ⟨_, List.getElem?_eq_getElem (by have := (List.getElem?_eq_some_iff.1 h2).1; have := QO.len; omega)⟩
      rw [(MO.row k t q R ht hq h1).1, (QO.at_ k t R0 q ht h2 hq).1]
    refine call_mono (holdsP (SS60.up hE101) hD (hm60.up hE101) (GI60.up hE101) oI' DM hlen2 hil) ?_
    rintro b w104 ⟨rfl, h104⟩
    refine br_f rfl ?_
    have hb104 := hE101.trans h104
    have X57' := X5760.up hb104
    have X13' := X1360.up hb104
    have GG' := GG60.up hb104
    have GI'' := GI60.up hb104
    have PA' := PA60.up hb104
    have hbw := (hb15.trans hb60).trans hb104
    have hi'l := oI'.len
    refine loop_up D.length (fun _ w' => bel w104 w') (bel.refl _) fun i w107 hi hb107 again hag _ => ?_
    refine br_dec (fun e => ?_) (fun e => ⟨_, rfl, rfl, hbw.trans hb107⟩)
    dsimp only at e
    have hi' : i < D.length := by omega
    obtain ⟨t, ht⟩ : ∃ t, D[i]? = some t := ⟨_, List.getElem?_eq_getElem hi'⟩
    obtain ⟨Rs, hRs⟩ : ∃ t, I[i]? = some t := ⟨_, List.getElem?_eq_getElem (by omega)⟩
    obtain ⟨R, hR⟩ : ∃ t, I'[i]? = some t := ⟨_, List.getElem?_eq_getElem (by omega)⟩
    have ok := hD.each i t ht
    have hncle := nc_le ok
    have hnf2 := ok.f2
    have hR20 := oI'.few R (List.mem_of_getElem? hR)
    have hRs20 := oI.few Rs (List.mem_of_getElem? hRs)
    refine loop_up R.length (fun _ w' => bel w104 w') hb107 fun n w110 hn hb110 again2 hag2 _ => ?_
    refine rd_box0 (by kernel_rfl) (X57'.up hb110) rfl rfl ?_
    refine GI''.atB hb110 rfl (by omega) fun y1 R1 hR1 Y1 => ?_
    obtain rfl : R = R1 := by rw [hR] at hR1; cases hR1; rfl
    have hy1 := Y1.len
    refine br_dec (fun e2 => ?_) (fun e2 => ?_)
    · dsimp only at e2
      have hn' : n < R.length := by omega
      obtain ⟨r, hr⟩ : ∃ r, R[n]? = some r := ⟨_, List.getElem?_eq_getElem hn'⟩
      have rok := oI'.row i t R n r ht hR hr
      have hrl := rok.len
      refine loop_up t.nf (fun _ w' => bel w104 w') hb110 fun c w116 hc hb116 again3 hag3 _ => ?_
      refine PA'.atB hb116 rfl ht fun y2 Y2 => ?_
      have hy2 : y2.2.1 = t.nf := by have := Y2.int; simp [frees] at this; omega
      refine br_dec (fun e3 => ?_) (fun e3 => ?_)
      · dsimp only at e3
        have hc' : c < t.nf := by omega
        have hcn : 1 + c < t.nc := by show 1 + c < 1 + t.free.length + t.tos.length; have : t.nf = t.free.length := rfl; omega
        obtain ⟨pc, hpc⟩ : ∃ p, t.free[c]? = some p := ⟨_, List.getElem?_eq_getElem hc'⟩
        obtain ⟨v, hv⟩ : ∃ v, r[1 + c]? = some v := ⟨_, List.getElem?_eq_getElem (by omega)⟩
        refine join_mk (fun _ w' => bel w104 w') (fun K hK => ?_) (fun _ w121 hJ _ => ?_)
        · refine drw_mk fun w123 h123 _ => ?_
          have hb123 := hb116.trans h123
          refine flEx_mk (fun j _ u w' => j = 17 → ∃ ad, u = .pointer (some ad) ∧ Box w' ad (encV zV) ∧ w123.heap.size ≤ ad.block) (fun j ags u w1 w2 hΦ hb e => ?_) ?_
          · obtain ⟨ad, a1, a2, a3⟩ := hΦ e
            exact ⟨ad, a1, a2.up hb, a3⟩
          refine rd_box0 (by kernel_rfl) (X57'.up hb123) rfl rfl ?_
          refine GI''.atB hb123 rfl (by omega) fun y3 R3 hR3 Y3 => ?_
          obtain rfl : R = R3 := by rw [hR] at hR3; cases hR3; rfl
          refine Y3.atB hb123 rfl hn' fun y4 r4 hr4 Y4 => ?_
          obtain rfl : r = r4 := by rw [hr] at hr4; cases hr4; rfl
          refine PA'.atB hb123 rfl ht fun y5 Y5 => ?_
          refine at_int tyI (by kernel_rfl) (Y5.up hb123) rfl (by have := Y5.int; simp [frees] at this; omega) fun z hz => ?_
          rw [frees_get hc'] at hz
          obtain rfl : 1 + (c : Int) = z := by cases hz; rfl
          refine row_at (Y4.up hb123) (j := 1 + c) (by omega) (by omega) fun p hp => ?_
          obtain rfl : v = p := by rw [hv] at hp; cases hp; rfl
          refine flc_mk (fun w136 hb136 _ => ?_) (fun x140 => ?_)
          · refine wr_alloc (z := .agg (encV zV).toArray) (by kernel_rfl) fun x138 w139 X138 h139 hx138 _ => ?_
            have := hb136.size
            exact ⟨h139, fun _ => ⟨x138, rfl, X138, by omega⟩⟩
          refine flend_mk fun w141 h141 ⟨f17, _⟩ => ?_
          obtain ⟨ad, a1, a2, a3⟩ := f17 rfl
          obtain rfl : x140 = ad := by injection a1 with a1; injection a1
          refine wu_box a2 (v := .agg (encV v).toArray) (by kernel_rfl) (Nat.le_refl 3) rfl fun w143 X143 g143 s143 => ?_
          replace X143 : Box w143 x140 (encV v) := X143
          have hz123 := hb123.size
          have hb143 : bel w104 w143 := (hb123.trans h141).grownAt g143 (by omega)
          refine loop_upA Rs.length (fun o (m : Int) w' => bel w143 w' ∧ m = (cntC (1 + c) v (Rs.take o) : Int)) ⟨bel.refl _, rfl⟩ fun o m w146 ho ⟨hb146, hmm⟩ again4 hag4 _ => ?_
          have hbb := hb143.trans hb146
          refine rd_box0 (by kernel_rfl) (X13'.up hbb) rfl rfl ?_
          refine GG'.atB hbb rfl (by omega) fun y6 R6 hR6 Y6 => ?_
          obtain rfl : Rs = R6 := by rw [hRs] at hR6; cases hR6; rfl
          have hy6 := Y6.len
          have hcl : cntC (1 + c) v (Rs.take o) ≤ Rs.length := Nat.le_trans (List.countP_le_length) (by rw [List.length_take]; omega)
          refine br_dec (fun e4 => ?_) (fun e4 => ?_)
          · dsimp only at e4
            have ho' : o < Rs.length := by omega
            obtain ⟨r2, hr2⟩ : ∃ r, Rs[o]? = some r := ⟨_, List.getElem?_eq_getElem ho'⟩
            have hr2l := (oI.row i t Rs o r2 ht hRs hr2).len
            obtain ⟨p2, hp2⟩ : ∃ p, r2[1 + c]? = some p := ⟨_, List.getElem?_eq_getElem (by omega)⟩
            have hct := cntC_take (v := v) hr2 hp2
            refine join_mk (fun s w' => bel w143 w' ∧ s.1 = (cntC (1 + c) v (Rs.take (o + 1)) : Int)) (fun K4 hK4 => ?_) (fun s w152 hJ _ => ?_)
            · refine drw_mk fun w154 h154 _ => ?_
              have hb154 := hb146.trans h154
              have hbb154 := hb143.trans hb154
              refine rd_box0 (by kernel_rfl) (X13'.up hbb154) rfl rfl ?_
              refine GG'.atB hbb154 rfl (by omega) fun y7 R7 hR7 Y7 => ?_
              obtain rfl : Rs = R7 := by rw [hRs] at hR7; cases hR7; rfl
              refine Y7.atB hbb154 rfl ho' fun y8 r8 hr8 Y8 => ?_
              obtain rfl : r2 = r8 := by rw [hr2] at hr8; cases hr8; rfl
              refine PA'.atB hbb154 rfl ht fun y9 Y9 => ?_
              refine at_int tyI (by kernel_rfl) (Y9.up hbb154) rfl (by have := Y9.int; simp [frees] at this; omega) fun z hz => ?_
              rw [frees_get hc'] at hz
              obtain rfl : 1 + (c : Int) = z := by cases hz; rfl
              refine row_at (Y8.up hbb154) (j := 1 + c) (by omega) (by omega) fun p hp => ?_
              obtain rfl : p2 = p := by rw [hp2] at hp; cases hp; rfl
              refine rd_boxN (X143.up hb154) (by kernel_rfl) rfl ?_
              refine call_mono (sameP p2 v w154) ?_
              rintro b w168 ⟨rfl, h168⟩
              refine br_dec (fun e5 => ?_) (fun e5 => ?_)
              · refine z_i64 (by omega) ?_
                refine hK4 _ _ ⟨hb154.trans h168, ?_⟩
                dsimp only
                rw [hct, if_pos e5, hmm]; omega
              · refine hK4 _ _ ⟨hb154.trans h168, ?_⟩
                dsimp only
                rw [hct, if_neg e5, hmm]; omega
            · refine z_i64 (by dsimp only; omega) ?_
              exact hag4 _ _ ho' hJ
          · dsimp only at e4
            have hoe : o = Rs.length := by omega
            refine rd_box0 (by kernel_rfl) (X143.up hb146) rfl rfl ?_
            refine br_ne (fun e5 => ?_) (fun _ => hK () _ hbb)
            refine br_dec (fun e6 => ?_) (fun _ => hK () _ hbb)
            have := made_tells QO MO ht hRs hR hr hpc hv e5
            rw [cntC_fcol e5] at this
            rw [hmm, hoe, List.take_length] at e6
            omega
        · refine z_i64 (by dsimp only; omega) ?_
          exact hag3 _ hc' hJ
      · refine z_i64 (by dsimp only; omega) ?_
        exact hag2 _ hn' hb116
    · refine z_i64 (by dsimp only; omega) ?_
      exact hag _ hi' hb110
end Go.Proofs.YtcfghfmlfgaeaaaGreatDoor

/- TopPrivate: its arguments opened; the walk in the kit's words. -/


namespace Go.Proofs.YtcfghfmlfgaeaaaGreatDoor
open Go.RowKit Go.Q Go.V Go.Bag Go.Shelf

theorem bounds_i64 {n : Int} (h : (Lit.int .i64 n).wf = true) : I64 n := by
  simp only [Lit.wf, Bool.and_eq_true, decide_eq_true_eq] at h
  exact ⟨h.1, h.2⟩
set_option maxRecDepth 100000 in
theorem argTape {w : World} {v : Value} (h : Go.Q.Arg Tryz.prog w 22 v) : ∃ (x : Hdr) (xs : List Int), v = hv x ∧ Sl w x.1 x.2.1 x.2.2 1 (ints .i64 xs) ∧ ∀ n ∈ xs, I64 n := by
  obtain ⟨a, n, c, rfl, h⟩ := Go.V.Arg.slice Tryz.underlying22 h
  obtain ⟨a1, n1, c1, xs, q1, _, s1, b1⟩ := Go.V.Read.ints Tryz.underlying22 Tryz.underlying3 (by kernel_rfl) h
  cases q1
  exact ⟨(a, n, c), xs, rfl, s1, fun x hx => bounds_i64 (b1 x hx)⟩
theorem topAll (l : Hdr) (L : List Int) (sd th : Int) (w : World) (HL : Sl w l.1 l.2.1 l.2.2 1 (ints .i64 L)) (hL : ∀ x ∈ L, I64 x) (hth : 0 ≤ th ∧ th ≤ 255) (hm : ML w) :
    Calls Tryz.prog 3 #[hv l, .int .u64 sd, .int .u8 th] w fun e w' => e = .returned (.bool true) ∧ bel w w' :=
  Calls.mono (topF HL hL sd th hth hm) fun _ _ ⟨_, he, hx, hb⟩ => ⟨by rw [he, hx]; rfl, hb⟩
end Go.Proofs.YtcfghfmlfgaeaaaGreatDoor
