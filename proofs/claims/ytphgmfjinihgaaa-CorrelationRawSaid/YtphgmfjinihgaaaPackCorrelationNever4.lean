import Derived.Test.YtphgmfjinihgaaaPackCorrelationNever3

/- The walk of CorrelationNever. -/

namespace Go.Proofs.Ytphgmfjinihgaaa
open Go.RowKit Go.Q Go.V

theorem g2_set {B : List (List Int)} {i k : Nat} {r : List Int} {v : Int} (hr : B[i]? = some r) (hk : k < r.length) (i' k' : Nat) : g2 (B.set i (r.set k v)) i' k' = if i' = i ∧ k' = k then v else g2 B i' k' := by
  have hi : i < B.length := (List.getElem?_eq_some_iff.1 hr).1
  by_cases e : i' = i
  · subst e
    rw [g2_row (r := r.set k v) (by rw [List.getElem?_set, if_pos rfl, if_pos hi]), g1_set hk]
    by_cases e2 : k' = k
    · rw [if_pos e2, if_pos ⟨rfl, e2⟩]
    · rw [if_neg e2, if_neg (fun q => e2 q.2), g2_row hr]
  · rw [if_neg (fun q => e q.1)]
    unfold g2
    rw [List.getD_eq_getElem?_getD, List.getD_eq_getElem?_getD, List.getElem?_set, if_neg (fun q => e q.symm)]
theorem OT.set {w w' : World} {b0 : Nat} {h : Hdr} {hs : List Hdr} {B : List (List Int)} {i k : Nat} {x : Hdr} {r : List Int} {v : Int} (H : OT w b0 h hs B) {hsT : List Hdr} (A : AP hsT hs) (hx : hs[i]? = some x) (_hr : B[i]? = some r) (O : OwnI w' b0 x (r.set k v)) {c : Nat} (hc : blk x.1 = some c) (hg : w.grownBy w' (some c)) : OT w' b0 h hs (B.set i (r.set k v)) := by
  refine ⟨own_keep H.th hg (fun j hj e => ?_), by simp [H.len], fun i' y q hy hq => ?_⟩
  · cases e
    exact H.apart H.th hx hc hj
  · rw [List.getElem?_set] at hq
    by_cases e : i = i'
    · subst e
      rw [hx] at hy
      rw [if_pos rfl, if_pos (List.getElem?_eq_some_iff.1 _hr).1] at hq
      cases hy; cases hq; exact O
    · rw [if_neg e] at hq
      exact own_keep (H.rows i' y q hy hq) hg (fun j hj e2 => by cases e2; exact A.bb i i' x y c e hx hy hc hj)
theorem OT.hdr {w : World} {b0 : Nat} {h : Hdr} {hs : List Hdr} {T : List (List Int)} (H : OT w b0 h hs T) {i : Nat} {ii : Int} (hi : ii = (i : Int)) (hn : i < T.length) {K : Hdr → Prop} (hK : ∀ x r, hs[i]? = some x → T[i]? = some r → OwnI w b0 x r → K x) :
    rdp Try.prog (Instr.indexAt 23 (.slice h.1 h.2.1 h.2.2) (.int .i64 ii)) (.one .addr) fun a => rd Try.prog (Instr.loadAt 22 (.pointer (some a))) (.one .slice) w K := by
  have hl := H.hl
  refine at_hdr tyT (by kernel_rfl) H.th.sl hi (by omega) fun x hx => ?_
  obtain ⟨r, hr, O⟩ := H.row hx
  exact hK x r hx hr O
theorem rdE_cell {P : Program} {E : Rel} {t : TypeId} {w : World} {a : Addr} {q : Hdr} {k : Hdr → Prop} (ht : scal P t = true) (h : ∀ w', E w w' → w'.cell? a = some (slv q)) (hk : k q) : rdE P E (Instr.loadAt t (.pointer (some a))) (.one .slice) w k :=
  ⟨q, fun w' hw => by rw [run_loadAt, run_loadVar1 ht (h w' hw)]; rfl, hk⟩
theorem fl_next {w : World} {tb : Addr} {l : Hdr} {L : List Int} {p : Nat} (ht : Tape w tb l L p) (hp : p ≤ 1000) {a16 : Addr} {q : Hdr} (hq : ∀ w', Xg tb.block w w' → w'.cell? a16 = some (slv q)) {L1 : List Nat} {K : Hdr → Hdr → World → Prop}
    (hK : ∀ ad w' b, Tape w' tb l L (p + 1) → Xg tb.block w w' → Sl w' (some ad) 1 1 1 [.bool b] → K q (some ad, 1, 1) w') :
    flExC w fun E G Y F => rdE Try.prog (ER Y L1 E) (Instr.loadAt 26 (.pointer (some a16))) (.one .slice) w fun (x49 : Hdr) =>
      flcC Y 3 E w (fun _ => True) (fun D w50 => call Try.prog 21 [.pointer (some tb), .int .i64 2] (.one (.one (.int .i64))) w50 fun (x53 : Int) w54 => (E w50 w54 ∧ G 3 w50 w54 ∧ Y (setD D 3) w54 ∧ F 3 [.pointer (some tb), .int .i64 2] (.int .i64 x53) w54)) fun (x55 : Int) =>
      flcC Y 5 E w (fun w57 => F 3 [.pointer (some tb), .int .i64 2] (.int .i64 x55) w57 ∧ True) (fun D w56 => wr Try.prog (Instr.buildSlice 26 1 #[(0, .bool (x55 == 0))]) (.one .slice) w56 fun (x59 : Hdr) w60 => (E w56 w60 ∧ G 5 w56 w60 ∧ Y (setD D 5) w60 ∧ F 5 [] (.slice x59.1 x59.2.1 x59.2.2) w60)) fun (x61 : Hdr) =>
      flendC Y [5, 3] E w (fun w63 => F 5 [] (.slice x61.1 x61.2.1 x61.2.2) w63 ∧ F 3 [.pointer (some tb), .int .i64 2] (.int .i64 x55) w63 ∧ True) fun w62 => K x49 x61 w62 := by
  have lt := ht.box.lt
  refine flExC_mk (Xg tb.block) (fun _ _ _ => True) (fun D w' => (D 3 = false → Tape w' tb l L p) ∧ (D 3 = true → Tape w' tb l L (p + 1)))
    (fun i _ v w' => i = 5 → ∃ ad b, v = .slice (some ad) 1 1 ∧ Sl w' (some ad) 1 1 1 [.bool b] ∧ w.heap.size ≤ ad.block)
    (fun w => grown_refl w _) (fun _ _ _ a b => grown_trans a b) (fun _ _ _ _ _ _ _ hΦ hE _ e => by
      obtain ⟨ad, b, q1, q2, q3⟩ := hΦ e
      exact ⟨ad, b, q1, q2.xg hE (fun ad' ha _ => by cases ha; omega), q3⟩) ⟨fun _ => ht, fun q => by cases q⟩ ?_
  refine rdE_cell (by kernel_rfl) (fun w' hE => hq w' hE.1) ?_
  refine flcC_mk (fun D w' hD hE hS _ => ?_) (fun (x55 : Int) => ?_)
  · refine call_mono (nextF 2 (hS.1 hD) (by omega) (by omega)) ?_
    rintro (x : Int) w'' ⟨_, t, g⟩
    exact ⟨g, trivial, ⟨(fun q => by rw [setD_self] at q; cases q), fun _ => t⟩, fun e => by omega⟩
  refine flcC_mk (fun D w' hD hE hS _ => ?_) (fun (x61 : Hdr) => ?_)
  · refine wr_lit tyB #[.bool (x55 == 0)] (fill_one 1 (.bool (x55 == 0)) _ rfl (by simp)) (by omega) (by omega) rfl (by unfold maxLen; omega) fun ad w'' O' hb hbl _ => ?_
    exact ⟨grown_of_bel hb _, trivial, ⟨fun q => (hS.1 (by rw [setD_ne (by decide)] at q; exact q)).up hb, fun q => (hS.2 (by rw [setD_ne (by decide)] at q; exact q)).up hb⟩, fun _ => ⟨ad, _, rfl, (O' w'.heap.size (Nat.le_refl _)).sl, by have := hE.size; omega⟩⟩
  refine flendC_mk fun w62 hE hS hf => ?_
  obtain ⟨ad, b, q1, q2, _⟩ := hf.1 rfl
  have q1 : x61 = (some ad, 1, 1) := sl_inj q1
  subst q1
  exact hK ad w62 b (hS.2 (by simp)) hE q2
/-- memory of the statement -/
structure NM (w w' : World) (bM bN bQ : Nat) (x1 x9 x16 tb : Addr) (l : Hdr) (L : List Int) (kr kc gr gc gb hT : Hdr) (hsT hsB : List Hdr) (R C : List Int) (B T : List (List Int)) (p : Nat) (qr qc : Hdr) (cr cc : List Bool) : Prop where
  up : bel w w'
  X1 : Box w' x1 (cutc kr kc)
  X9 : Box w' x9 (grc gr gc gb)
  X16 : Box w' x16 (cutc qr qc)
  R : OwnI w' bN gr R
  C : OwnI w' bN gc C
  B : OT w' bM gb hsB B
  T : OT w' bM hT hsT T
  t : Tape w' tb l L p
  oqr : Own w' bQ 4 1 qr.1 qr.2.1 qr.2.2 (Go.Q.bools cr)
  oqc : Own w' bQ 4 1 qc.1 qc.2.1 qc.2.2 (Go.Q.bools cc)
  ap : ∀ k, blk qr.1 = some k → blk qc.1 ≠ some k
  sz : bQ ≤ w'.heap.size
structure NS (w : World) (bM bN bQ : Nat) (x1 x9 x16 tb : Addr) (gr gc gb hT : Hdr) (hsT hsB : List Hdr) : Prop where
  w : w.heap.size ≤ tb.block
  m : x1.block < bM ∧ tb.block < bM ∧ x1.block ≠ tb.block
  n9 : x9.block < bN ∧ bM ≤ x9.block
  n16 : bN ≤ x16.block ∧ x16.block < bQ
  b : ∀ (j : Nat) (y : Hdr) (k : Nat), hsB[j]? = some y → blk y.1 = some k → k < x9.block
  ap : AP hsT hsB
  o : ∀ k, (blk gr.1 = some k ∨ blk gc.1 = some k ∨ blk gb.1 = some k ∨ blk hT.1 = some k) → k < x16.block
  r : ∀ (j : Nat) (y : Hdr) (k : Nat), hsT[j]? = some y → blk y.1 = some k → k < x16.block
section
variable {w w1 w2 : World} {bM bN bQ : Nat} {x1 x9 x16 tb : Addr} {l : Hdr} {L : List Int} {kr kc gr gc gb hT : Hdr} {hsT hsB : List Hdr} {R C : List Int} {B T : List (List Int)} {p : Nat} {qr qc : Hdr} {cr cc : List Bool}
theorem NM.upw (H : NM w w1 bM bN bQ x1 x9 x16 tb l L kr kc gr gc gb hT hsT hsB R C B T p qr qc cr cc) (h : bel w1 w2) : NM w w2 bM bN bQ x1 x9 x16 tb l L kr kc gr gc gb hT hsT hsB R C B T p qr qc cr cc :=
  ⟨H.up.trans h, H.X1.up h, H.X9.up h, H.X16.up h, Own.kept H.R h, Own.kept H.C h, H.B.up h, H.T.up h, H.t.up h, Own.kept H.oqr h, Own.kept H.oqc h, H.ap, Nat.le_trans H.sz h.size⟩
theorem NM.next {p' : Nat} (H : NM w w1 bM bN bQ x1 x9 x16 tb l L kr kc gr gc gb hT hsT hsB R C B T p qr qc cr cc) (N : NS w bM bN bQ x1 x9 x16 tb gr gc gb hT hsT hsB) (t : Tape w2 tb l L p') (h : Xg tb.block w1 w2) : NM w w2 bM bN bQ x1 x9 x16 tb l L kr kc gr gc gb hT hsT hsB R C B T p' qr qc cr cc := by
  have n1 := N.w
  obtain ⟨n2, n3, n4⟩ := N.m
  obtain ⟨n5, n6⟩ := N.n9
  obtain ⟨n7, n8⟩ := N.n16
  exact ⟨H.up.grownAt h n1, H.X1.xg h n4, H.X9.xg h (by omega), H.X16.xg h (by omega), Own.xg H.R h (by omega), Own.xg H.C h (by omega), H.B.xg h n3, H.T.xg h n3, t, Own.xg H.oqr h (by omega), Own.xg H.oqc h (by omega), H.ap, Nat.le_trans H.sz h.size⟩
theorem NM.setB (H : NM w w1 bM bN bQ x1 x9 x16 tb l L kr kc gr gc gb hT hsT hsB R C B T p qr qc cr cc) (N : NS w bM bN bQ x1 x9 x16 tb gr gc gb hT hsT hsB) {i k : Nat} {x : Hdr} {r : List Int} {kk v : Int} (hx : hsB[i]? = some x) (hr : B[i]? = some r) (hkk : kk = (k : Int)) (hk : k < r.length) {K : World → Prop}
    (hK : ∀ w2, NM w w2 bM bN bQ x1 x9 x16 tb l L kr kc gr gc gb hT hsT hsB R C (B.set i (r.set k v)) T p qr qc cr cc → K w2) :
    rdp Try.prog (Instr.indexAt 22 (.slice x.1 x.2.1 x.2.2) (.int .i64 kk)) (.one .addr) fun ad => wu Try.prog (Instr.storeAt 3 (.pointer (some ad)) (.int .i64 v)) w1 K := by
  have O := H.B.rows i x r hx hr
  have lO := O.len
  refine set_mk tyI O hkk (show k < x.2.1 by omega) rfl fun w2 O2 hg _ => ?_
  rw [ints_set] at O2
  have n1 := N.w
  obtain ⟨n2, n3, n4⟩ := N.m
  obtain ⟨n5, n6⟩ := N.n9
  obtain ⟨n7, n8⟩ := N.n16
  obtain ⟨ad, had, _⟩ := O.sl.at' k (.int .i64 r[k]) (by simp [ints, hk])
  have hb : blk x.1 = some ad.block := by rw [had]; rfl
  have lb := O.lt ad.block hb
  have nb := N.b i x ad.block hx hb
  rw [hb] at hg
  refine hK w2 ⟨H.up.grownAt hg (by omega), H.X1.xg hg (by omega), H.X9.xg hg (by omega), H.X16.xg hg (by omega), Own.xg H.R hg (by omega), Own.xg H.C hg (by omega), H.B.set N.ap hx hr O2 hb hg, H.T.keptBy hg (fun j hj e => ?_) (fun j y c hy hc e => ?_), H.t.grown hg (by omega), Own.xg H.oqr hg (by omega), Own.xg H.oqc hg (by omega), H.ap, Nat.le_trans H.sz hg.size⟩
  · cases e
    exact H.B.apart H.T.th hx hb hj
  · cases e
    exact N.ap.tb j i y x ad.block hy hx hc hb
/-- a row of the cut is laid behind -/
theorem NM.pushR (H : NM w w1 bM bN bQ x1 x9 x16 tb l L kr kc gr gc gb hT hsT hsB R C B T p qr qc cr cc) (N : NS w bM bN bQ x1 x9 x16 tb gr gc gb hT hsT hsB) {ad : Addr} {b : Bool} (S5 : Sl w1 (some ad) 1 1 1 [.bool b]) (hl : cr.length ≤ 1000) {K : World → Prop}
    (hK : ∀ w2 q', NM w w2 bM bN bQ x1 x9 x16 tb l L kr kc gr gc gb hT hsT hsB R C B T p q' qc (cr ++ [b]) cc → K w2) :
    wr Try.prog (Builtin.append_ #[26, 26] 26 #[.slice qr.1 qr.2.1 qr.2.2, .slice (some ad) 1 1]) (.one .slice) w1 fun (x : Hdr) w2 => wu Try.prog (Instr.storeAt 26 (.pointer (some x16)) (.slice x.1 x.2.1 x.2.2)) w2 K := by
  have lq := H.oqr.sl.bool
  have sz := H.sz
  refine wr_app tyB H.oqr S5 sz rfl (by omega) rfl (by omega) (by unfold maxLen; omega) fun a' c' w2 O2 g2' hnew s2 => ?_
  have n1 := N.w
  obtain ⟨n2, n3, n4⟩ := N.m
  obtain ⟨n5, n6⟩ := N.n9
  obtain ⟨n7, n8⟩ := N.n16
  have ge : ∀ k, blk qr.1 = some k → bQ ≤ k := fun k hk => (H.oqr.lt k hk).1
  have old : ∀ {a : Addr} {cs : List Value}, a.block < bQ → Box w1 a cs → Box w2 a cs := fun h X => X.grown g2' (fun e => by have := ge _ e.symm; omega)
  have rl := H.R.lt
  have sB : ∀ {b0 : Nat} {h : Hdr} {hs : List Hdr} {X : List (List Int)}, OT w1 b0 h hs X → OT w2 b0 h hs X := fun {b0 h hs X} Y => Y.keptBy g2' (fun k hk e => Own.apart Y.th H.oqr (by decide) k hk e) (fun i x k hx hk e => by
    obtain ⟨r, _, q⟩ := Y.row hx
    exact Own.apart q H.oqr (by decide) k hk e)
  have sI : ∀ {b0 : Nat} {h : Hdr} {X : List Int}, OwnI w1 b0 h X → OwnI w2 b0 h X := fun {b0 h X} Y => own_keep Y g2' (fun k hk e => Own.apart Y H.oqr (by decide) k hk e)
  refine wu_box (old n8 H.X16) (by kernel_rfl) (show 1 ≤ 2 by omega) rfl fun w3 X3 g3 _ => ?_
  have b2 : bel w w2 := H.up.grown g2' fun k hk => by have := ge k hk; omega
  have O2' : Own w2 bQ 4 1 a' (qr.2.1 + 1) c' (Go.Q.bools (cr ++ [b])) := by
    have : Go.Q.bools (cr ++ [b]) = Go.Q.bools cr ++ [.bool b] := by simp [Go.Q.bools]
    rw [this]; exact O2
  have qc2 := own_keep H.oqc g2' (fun k hk e => H.ap k e hk)
  refine hK w3 (a', qr.2.1 + 1, c') ⟨b2.grownAt g3 (by omega), (old (by omega) H.X1).xg g3 (by omega), (old (by omega) H.X9).xg g3 (by omega), X3, own_keep (sI H.R) g3 (fun k hk e => ?_), own_keep (sI H.C) g3 (fun k hk e => ?_), ?_, ?_, (H.t.put g2' (fun k hk => by have := ge k hk; omega)).put g3 (fun k hk => by cases hk; omega), Own.xg O2' g3 n8, Own.xg qc2 g3 n8, fun k hk e => ?_, by have := g3.size; omega⟩
  · cases e; have := N.o _ (.inl hk); omega
  · cases e; have := N.o _ (.inr (.inl hk)); omega
  · exact (sB H.B).keptBy g3 (fun k hk e => by cases e; have := N.o _ (.inr (.inr (.inl hk))); omega) (fun i x k hx hk e => by cases e; have := N.b i x _ hx hk; omega)
  · exact (sB H.T).keptBy g3 (fun k hk e => by cases e; have := N.o _ (.inr (.inr (.inr hk))); omega) (fun i x k hx hk e => by cases e; have := N.r i x _ hx hk; omega)
  · rcases hnew with q | q
    · exact H.ap k (by rw [← q]; exact hk) e
    · have := q k hk; have := (H.oqc.lt k e).2; omega
/-- a column of the cut is laid behind -/
theorem NM.pushC (H : NM w w1 bM bN bQ x1 x9 x16 tb l L kr kc gr gc gb hT hsT hsB R C B T p qr qc cr cc) (N : NS w bM bN bQ x1 x9 x16 tb gr gc gb hT hsT hsB) {ad : Addr} {b : Bool} (S5 : Sl w1 (some ad) 1 1 1 [.bool b]) (hl : cc.length ≤ 1000) {K : World → Prop}
    (hK : ∀ w2 q', NM w w2 bM bN bQ x1 x9 x16 tb l L kr kc gr gc gb hT hsT hsB R C B T p qr q' cr (cc ++ [b]) → K w2) :
    wr Try.prog (Builtin.append_ #[26, 26] 26 #[.slice qc.1 qc.2.1 qc.2.2, .slice (some ad) 1 1]) (.one .slice) w1 fun (x : Hdr) w2 => wu Try.prog (Instr.storeAt 26 (.pointer (some (x16.add 1))) (.slice x.1 x.2.1 x.2.2)) w2 K := by
  have lq := H.oqc.sl.bool
  have sz := H.sz
  refine wr_app tyB H.oqc S5 sz rfl (by omega) rfl (by omega) (by unfold maxLen; omega) fun a' c' w2 O2 g2' hnew s2 => ?_
  have n1 := N.w
  obtain ⟨n2, n3, n4⟩ := N.m
  obtain ⟨n5, n6⟩ := N.n9
  obtain ⟨n7, n8⟩ := N.n16
  have ge : ∀ k, blk qc.1 = some k → bQ ≤ k := fun k hk => (H.oqc.lt k hk).1
  have old : ∀ {a : Addr} {cs : List Value}, a.block < bQ → Box w1 a cs → Box w2 a cs := fun h X => X.grown g2' (fun e => by have := ge _ e.symm; omega)
  have rl := H.R.lt
  have sB : ∀ {b0 : Nat} {h : Hdr} {hs : List Hdr} {X : List (List Int)}, OT w1 b0 h hs X → OT w2 b0 h hs X := fun {b0 h hs X} Y => Y.keptBy g2' (fun k hk e => Own.apart Y.th H.oqc (by decide) k hk e) (fun i x k hx hk e => by
    obtain ⟨r, _, q⟩ := Y.row hx
    exact Own.apart q H.oqc (by decide) k hk e)
  have sI : ∀ {b0 : Nat} {h : Hdr} {X : List Int}, OwnI w1 b0 h X → OwnI w2 b0 h X := fun {b0 h X} Y => own_keep Y g2' (fun k hk e => Own.apart Y H.oqc (by decide) k hk e)
  refine wu_boxi (i := 1) (old n8 H.X16) (by kernel_rfl) (show 1 < 2 by omega) rfl fun w3 X3 g3 _ => ?_
  have b2 : bel w w2 := H.up.grown g2' fun k hk => by have := ge k hk; omega
  have O2' : Own w2 bQ 4 1 a' (qc.2.1 + 1) c' (Go.Q.bools (cc ++ [b])) := by
    have : Go.Q.bools (cc ++ [b]) = Go.Q.bools cc ++ [.bool b] := by simp [Go.Q.bools]
    rw [this]; exact O2
  have qc2 := own_keep H.oqr g2' (fun k hk e => H.ap k hk e)
  refine hK w3 (a', qc.2.1 + 1, c') ⟨b2.grownAt g3 (by omega), (old (by omega) H.X1).xg g3 (by omega), (old (by omega) H.X9).xg g3 (by omega), X3, own_keep (sI H.R) g3 (fun k hk e => ?_), own_keep (sI H.C) g3 (fun k hk e => ?_), ?_, ?_, (H.t.put g2' (fun k hk => by have := ge k hk; omega)).put g3 (fun k hk => by cases hk; omega), Own.xg qc2 g3 n8, Own.xg O2' g3 n8, fun k hk e => ?_, by have := g3.size; omega⟩
  · cases e; have := N.o _ (.inl hk); omega
  · cases e; have := N.o _ (.inr (.inl hk)); omega
  · exact (sB H.B).keptBy g3 (fun k hk e => by cases e; have := N.o _ (.inr (.inr (.inl hk))); omega) (fun i x k hx hk e => by cases e; have := N.b i x _ hx hk; omega)
  · exact (sB H.T).keptBy g3 (fun k hk e => by cases e; have := N.o _ (.inr (.inr (.inr hk))); omega) (fun i x k hx hk e => by cases e; have := N.r i x _ hx hk; omega)
  · rcases hnew with q | q
    · exact H.ap k hk (by rw [← q]; exact e)
    · have := q k e; have := (H.oqr.lt k hk).2; omega
end
theorem noCut {R C : List Int} {B T : List (List Int)} {cr cc : List Bool} (P : TabP R C B T) (Q : CutP R C B cr cc) : False := by
  have q := Q.out
  have := no_cut (n := R.length) (m := C.length) (R := g1 R) (C := g1 C) (T := g2 T) (B := g2 B) (gb cr) (gb cc) (fun i hi => (P.r i hi).symm) (fun k hk => (P.c k hk).symm) (fun i k _ _ => (out_g2 P.m.fine i k).1) (fun i k hi hk => P.b i k hi hk)
  omega
theorem max2 {a b : Int} {k : Int → Prop} (h : k (max a b)) : z (if b > a then b else a) k := by
  unfold z
  rw [show (if b > a then b else a) = max a b by split <;> omega]; exact h
/-- the form of a table of bounds -/
structure BF (n m : Nat) (B : List (List Int)) : Prop where
  l : B.length = n
  r : ∀ q ∈ B, q.length = m
  b : ∀ q ∈ B, ∀ x ∈ q, 0 ≤ x ∧ x ≤ 6
theorem BF.set {n m : Nat} {B : List (List Int)} (H : BF n m B) {i k : Nat} {r : List Int} {v : Int} (hr : B[i]? = some r) (hv : 0 ≤ v ∧ v ≤ 6) : BF n m (B.set i (r.set k v)) := by
  refine ⟨by simp [H.l], fun q hq => ?_, fun q hq x hx => ?_⟩
  · rcases List.mem_or_eq_of_mem_set hq with q1 | q1
    · exact H.r q q1
    · rw [q1, List.length_set]; exact H.r r (mem_at hr)
  · rcases List.mem_or_eq_of_mem_set hq with q1 | q1
    · exact H.b q q1 x hx
    · rw [q1] at hx
      rcases List.mem_or_eq_of_mem_set hx with q2 | q2
      · exact H.b r (mem_at hr) x q2
      · rw [q2]; exact hv
theorem MadeP.tab {R C : List Int} {B0 T : List (List Int)} (M : MadeP R C B0 T) {B : List (List Int)} (hB : BF T.length C.length B) (hle : ∀ i k, i < T.length → k < C.length → g2 T i k ≤ g2 B i k) : TabP (rsums T C.length) (csums T C.length) B T := by
  have m1 := M.r0
  have m2 := M.r5
  have m3 := M.c0
  have m4 := M.c5
  have m5 := M.lT
  have bc : ∀ j k, 0 ≤ g2 T j k ∧ g2 T j k ≤ 4 := fun j k => by
    unfold g2 g1
    rw [List.getD_eq_getElem?_getD, List.getD_eq_getElem?_getD]
    cases hj : T[j]? with
    | none => simp
    | some q =>
      simp only [Option.getD_some]
      cases hk : q[k]? with
      | none => simp
      | some x => exact M.bT q (mem_at hj) x (mem_at hk)
  refine ⟨⟨by rw [rsums_len]; omega, by rw [csums_len]; omega, by rw [rsums_len]; omega, by rw [csums_len]; omega, by rw [rsums_len]; exact hB.l, fun q hq => by rw [csums_len]; exact hB.r q hq, fun x hx => ?_, fun x hx => ?_, fun q hq x hx => by have := hB.b q hq x hx; omega⟩, ⟨by omega, by omega, by rw [csums_len]; omega, by rw [csums_len]; omega, fun q hq => by rw [csums_len]; exact M.rT q hq, fun q hq x hx => by have := M.bT q hq x hx; omega⟩, by rw [rsums_len], fun i hi => ?_, fun k hk => ?_, fun i k hi hk => ?_⟩
  · obtain ⟨j, _, rfl⟩ := List.mem_map.1 hx
    have q1 := S_nonneg (n := C.length) (f := g2 T j) fun k _ => (bc j k).1
    have q2 := S_bound (n := C.length) (f := g2 T j) (b := 4) fun k _ => (bc j k).2
    omega
  · obtain ⟨k, _, rfl⟩ := List.mem_map.1 hx
    have q1 := S_nonneg (n := T.length) (f := fun j => g2 T j k) fun j _ => (bc j k).1
    have q2 := S_bound (n := T.length) (f := fun j => g2 T j k) (b := 4) fun j _ => (bc j k).2
    omega
  · rw [rsums_len] at hi
    rw [csums_len, g1_at (rsums_at hi)]
  · rw [csums_len] at hk
    rw [rsums_len, g1_at (csums_at hk)]
  · rw [rsums_len] at hi
    rw [csums_len] at hk
    exact hle i k hi hk
theorem sums_same (T : List (List Int)) (m : Nat) : S (rsums T m).length (g1 (rsums T m)) = S (csums T m).length (g1 (csums T m)) := by
  rw [rsums_len, csums_len, S_congr (g := fun i => S m (g2 T i)) fun i hi => g1_at (rsums_at hi), S_congr (f := g1 (csums T m)) (g := fun k => S T.length fun i => g2 T i k) fun k hk => g1_at (csums_at hk)]
  exact S_swap2
set_option maxHeartbeats 3200000 in
theorem corNever (l kr kc : Hdr) (L : List Int) (cr0 cc0 : List Bool) (w : World) (HL : SlI w l L) (hI : ∀ x ∈ L, I64 x) (H1 : SlB w kr cr0) (H2 : SlB w kc cc0) :
    Calls Try.prog 6 #[.slice l.1 l.2.1 l.2.2, cutv kr kc] w (fun e w' => e = .returned (.bool true) ∧ Below w.heap.size w w') := by
  refine Calls.mono (S6_calls l.1 l.2.1 l.2.2 kr.1 kr.2.1 kr.2.2 kc.1 kc.2.1 kc.2.2 w (fun v w' => v = .bool true ∧ bel w w') ?_) (by rintro e w' ⟨v, rfl, rfl, hb⟩; exact ⟨rfl, hb⟩)
  unfold S6
  refine wr_box fun x1 w2 X1 h2 ex1 _ => ?_
  replace X1 : Box w2 x1 (cutc kr kc) := X1
  refine rd_box0 (by kernel_rfl) X1 rfl rfl ?_
  refine br_dec (fun _ => ⟨rfl, h2⟩) (fun _ => ?_)
  refine rd_box (by kernel_rfl) X1 (i := 1) rfl rfl ?_
  refine br_dec (fun _ => ⟨rfl, h2⟩) (fun _ => ?_)
  refine wr_box fun tb w6 TB h6 htb _ => ?_
  have ht := tape_new (HL.up h2) hI TB h6 htb
  have lX1 := X1.lt
  have ltb := TB.lt
  refine call_mono (madeF ht (by omega)) ?_
  rintro (x7 : MD) w8 ⟨R0, C0, B, T, hsT, hsB, p, MP, OR0, OC0, OB, OTT, AA, ht, hp, g8⟩
  have h8 : bel w2 w8 := h6.grownAt g8 (by omega)
  have s2 := h2.size
  have s6 := h6.size
  have s8 := g8.size
  refine var_mk (v := grv x7.1.1 x7.1.2.1 x7.1.2.2.1) (z := .agg #[.slice none 0 0, .slice none 0 0, .slice none 0 0]) (by kernel_rfl) (by kernel_rfl) rfl rfl fun x9 w11 X9 h11 ex9 => ?_
  replace X9 : Box w11 x9 (grc x7.1.1 x7.1.2.1 x7.1.2.2.1) := X9
  have lX9 := X9.lt
  have hwd : wd T = C0.length := by
    have : T[0]? = some (T[0]'(by have := MP.lT; have := MP.r0; omega)) := List.getElem?_eq_getElem _
    rw [wd_at this]; exact MP.rT _ (mem_at this)
  have m1 := MP.r0
  have m2 := MP.r5
  have m3 := MP.c0
  have m4 := MP.c5
  have m5 := MP.lT
  have m6 := MP.lB
  have MO : MargOk T C0.length := ⟨by omega, by omega, by omega, by omega, MP.rT, fun q hq x hx => by have := MP.bT q hq x hx; omega⟩
  refine call_mono (marg21O x7.2.1 T w11 (OTT.tab.up h11)) ?_
  rintro (x12 : MT) w13 ⟨hMO, h13⟩
  have hok : x12.2.2.1 = true := by
    cases q : x12.2.2.1 with
    | true => rfl
    | false => exact absurd (by rw [hwd]; exact MO) (hMO.2 q).1
  obtain ⟨_, OR, OC, _⟩ := hMO.1 hok
  rw [hwd] at OR OC
  have s11 := h11.size
  have s13 := h13.size
  refine wu_box (X9.up h13) (by kernel_rfl) (show 1 ≤ 3 by omega) rfl fun w14 X14 g14 _ => ?_
  refine wu_boxi (i := 1) X14 (by kernel_rfl) (show 1 < 3 by omega) rfl fun w15 X15 g15 _ => ?_
  have g5 : w13.grownBy w15 (some x9.block) := g14.trans g15
  replace X15 : Box w15 x9 (grc x12.1 x12.2.1 x7.1.2.2.1) := X15
  have s15 := g5.size
  have lB8 : ∀ k, blk x7.1.2.2.1.1 = some k → k < w8.heap.size := fun k hk => (OB.th.lt k hk).2
  have lT8 : ∀ k, blk x7.2.1.1 = some k → k < w8.heap.size := fun k hk => (OTT.th.lt k hk).2
  have lBr : ∀ (i : Nat) (x : Hdr) (k : Nat), hsB[i]? = some x → blk x.1 = some k → k < w8.heap.size := fun i x k hx hk => by obtain ⟨r, _, q⟩ := OB.row hx; exact (q.lt k hk).2
  have lTr : ∀ (i : Nat) (x : Hdr) (k : Nat), hsT[i]? = some x → blk x.1 = some k → k < w8.heap.size := fun i x k hx hk => by obtain ⟨r, _, q⟩ := OTT.row hx; exact (q.lt k hk).2
  have OB15 := ((OB.up h11).up h13).keptBy g5 (fun k hk e => by cases e; have := lB8 _ hk; omega) (fun i x k hx hk e => by cases e; have := lBr i x _ hx hk; omega)
  have OT15 := ((OTT.up h11).up h13).keptBy g5 (fun k hk e => by cases e; have := lT8 _ hk; omega) (fun i x k hx hk e => by cases e; have := lTr i x _ hx hk; omega)
  have OR15 : OwnI w15 w11.heap.size x12.1 _ := Own.xg OR g5 lX9
  have OC15 : OwnI w15 w11.heap.size x12.2.1 _ := Own.xg OC g5 lX9
  have lOR : ∀ k, blk x12.1.1 = some k → k < w13.heap.size := fun k hk => (OR.lt k hk).2
  have lOC : ∀ k, blk x12.2.1.1 = some k → k < w13.heap.size := fun k hk => (OC.lt k hk).2
  refine var_mk (v := cutv (none, 0, 0) (none, 0, 0)) (z := .agg #[.slice none 0 0, .slice none 0 0]) (by kernel_rfl) (by kernel_rfl) rfl rfl fun x16 w18 X16 h18 ex16 => ?_
  replace X16 : Box w18 x16 (cutc (none, 0, 0) (none, 0, 0)) := X16
  have lX16 := X16.lt
  have ht15 := ((ht.up h11).up h13).put g5 (fun k hk => by cases hk; omega)
  have b15 : bel w w15 := (((h2.trans h8).trans h11).trans h13).grownAt g5 (by omega)
  have NN : NS w w6.heap.size w11.heap.size w18.heap.size x1 x9 x16 tb x12.1 x12.2.1 x7.1.2.2.1 x7.2.1 hsT hsB := by
    refine ⟨by omega, ⟨by omega, ltb, by omega⟩, ⟨lX9, by omega⟩, ⟨by omega, lX16⟩, fun j y k hy hk => by have := lBr j y k hy hk; omega, AA, fun k hk => ?_, fun j y k hy hk => by have := lTr j y k hy hk; omega⟩
    rcases hk with q | q | q | q
    · have := lOR k q; omega
    · have := lOC k q; omega
    · have := lB8 k q; omega
    · have := lT8 k q; omega
  have N0 : NM w w18 w6.heap.size w11.heap.size w18.heap.size x1 x9 x16 tb l L kr kc x12.1 x12.2.1 x7.1.2.2.1 x7.2.1 hsT hsB (rsums T C0.length) (csums T C0.length) B T p (none, 0, 0) (none, 0, 0) [] [] :=
    ⟨b15.trans h18, ((((X1.up h8).up h11).up h13).xg g5 (by omega)).up h18, X15.up h18, X16, Own.kept OR15 h18, Own.kept OC15 h18, OB15.up h18, OT15.up h18, ht15.up h18, Own.nil _ _ _ _, Own.nil _ _ _ _, (fun k hk => by cases hk), Nat.le_refl _⟩
  have hTl := OTT.hl
  generalize hn : T.length = n at *
  generalize hm : C0.length = m at *
  have bT : ∀ j k, 0 ≤ g2 T j k ∧ g2 T j k ≤ 4 := fun j k => by
    unfold g2 g1
    rw [List.getD_eq_getElem?_getD, List.getD_eq_getElem?_getD]
    cases hj : T[j]? with
    | none => simp
    | some q =>
      simp only [Option.getD_some]
      cases hk : q[k]? with
      | none => simp
      | some x => exact MP.bT q (mem_at hj) x (mem_at hk)
  refine loop_up n (fun i w' => ∃ B p' qr cr, NM w w' w6.heap.size w11.heap.size w18.heap.size x1 x9 x16 tb l L kr kc x12.1 x12.2.1 x7.1.2.2.1 x7.2.1 hsT hsB (rsums T m) (csums T m) B T p' qr (none, 0, 0) cr [] ∧ BF n m B ∧ (∀ i', i' < i → ∀ k, k < m → g2 T i' k ≤ g2 B i' k) ∧ p' ≤ p + i ∧ cr.length = i)
    ⟨B, p, _, [], N0, ⟨by omega, fun q hq => by rw [← hm]; exact MP.rB q hq, MP.bB⟩, fun i hi => by omega, by omega, rfl⟩ fun i w21 hi ⟨B, p', qr, cr, H, F, hle, hp', lcr⟩ again hag _ => ?_
  refine br_dec (fun e => ?_) (fun e => ?_)
  · dsimp only at e
    have hin : i < n := by omega
    refine loop_up m (fun k w' => ∃ B, NM w w' w6.heap.size w11.heap.size w18.heap.size x1 x9 x16 tb l L kr kc x12.1 x12.2.1 x7.1.2.2.1 x7.2.1 hsT hsB (rsums T m) (csums T m) B T p' qr (none, 0, 0) cr [] ∧ BF n m B ∧ (∀ i', i' < i → ∀ k, k < m → g2 T i' k ≤ g2 B i' k) ∧ ∀ k', k' < k → g2 T i k' ≤ g2 B i k')
      ⟨B, H, F, hle, fun k hk => by omega⟩ fun k w24 hk ⟨B, H, F, hle, hrow⟩ again2 hag2 _ => ?_
    refine H.T.hdr rfl (by omega) fun x26 rT _ hrT O26 => ?_
    have l26 := O26.len
    have lrT : rT.length = m := by rw [← hm]; exact MP.rT rT (mem_at hrT)
    refine br_dec (fun e => ?_) (fun e => ?_)
    · dsimp only at e
      have hkm : k < m := by omega
      refine drw_mk fun w27 h27 _ => ?_
      replace H := H.upw h27
      have lB := F.l
      refine rd_box (by kernel_rfl) H.X9 (i := 2) rfl rfl ?_
      refine H.B.hdr rfl (by omega) fun x30 r30 hx30 hr30 O30 => ?_
      refine rd_box (by kernel_rfl) H.X9 (i := 2) rfl rfl ?_
      refine H.B.hdr rfl (by omega) fun x33 r33 _ hr33 O33 => ?_
      rw [hr30] at hr33; cases hr33
      have lr30 := F.r r30 (mem_at hr30)
      refine int_mk O33.sl rfl (by omega) ?_
      refine H.T.hdr rfl (by omega) fun x37 r37 _ hr37 O37 => ?_
      rw [hrT] at hr37; cases hr37
      refine int_mk O37.sl rfl (by omega) ?_
      refine max2 ?_
      rw [← g2_row hrT, ← g2_row hr30]
      have b1 := bT i k
      have b2 : 0 ≤ g2 B i k ∧ g2 B i k ≤ 6 := by
        rw [g2_at hr30 (List.getElem?_eq_getElem (show k < r30.length by omega))]
        exact F.b r30 (mem_at hr30) _ (List.getElem_mem _)
      refine H.setB NN hx30 hr30 rfl (by omega) fun w42 H42 => ?_
      refine z_i64 (by dsimp only; omega) ?_
      have gs := g2_set (B := B) (v := max (g2 B i k) (g2 T i k)) hr30 (show k < r30.length by omega)
      refine hag2 _ hkm ⟨_, H42, F.set hr30 (by omega), fun i' hi' k' hk' => ?_, fun k' hk' => ?_⟩
      · rw [gs, if_neg (by omega)]
        exact hle i' hi' k' hk'
      · rw [gs]
        by_cases z : k' = k
        · subst z; rw [if_pos ⟨rfl, rfl⟩]; omega
        · rw [if_neg (fun q => z q.2)]; exact hrow k' (by omega)
    · dsimp only at e
      have hkm : k = m := by omega
      subst hkm
      refine drw_mk fun w44 h44 _ => ?_
      replace H := H.upw h44
      have ntb : x16.block ≠ tb.block := by omega
      refine fl_next H.t (by omega) (fun w' hx => (H.X16.xg hx ntb).cell0 rfl) fun ad w62 b t62 g62 S5 => ?_
      replace H := H.next NN t62 g62
      refine H.pushR NN S5 (by omega) fun w66 q' H66 => ?_
      refine z_i64 (by dsimp only; omega) ?_
      refine hag _ hin ⟨B, p' + 1, q', cr ++ [b], H66, F, fun i' hi' k' hk' => ?_, by omega, by simp [lcr]⟩
      rcases Nat.lt_or_ge i' i with z | z
      · exact hle i' z k' hk'
      · have : i' = i := by omega
        subst this; exact hrow k' hk'
  dsimp only at e
  have hin : i = n := by omega
  subst hin
  clear hag again
  refine loop_up m (fun k w' => ∃ p'' qc cc, NM w w' w6.heap.size w11.heap.size w18.heap.size x1 x9 x16 tb l L kr kc x12.1 x12.2.1 x7.1.2.2.1 x7.2.1 hsT hsB (rsums T m) (csums T m) B T p'' qr qc cr cc ∧ p'' ≤ p' + k ∧ cc.length = k)
    ⟨p', _, [], H, Nat.le_refl _, rfl⟩ fun k w70 hk ⟨p'', qc, cc, H, hp'', lcc⟩ again hag _ => ?_
  have lC := H.C.len
  rw [csums_len] at lC
  refine rd_box (by kernel_rfl) H.X9 (i := 1) rfl rfl ?_
  refine br_dec (fun e => ?_) (fun e => ?_)
  · dsimp only at e
    have hkm : k < m := by omega
    refine drw_mk fun w72 h72 _ => ?_
    replace H := H.upw h72
    have ntb : x16.block ≠ tb.block := by omega
    refine fl_next H.t (by omega) (fun w' hx => (H.X16.xg hx ntb).cell (i := 1) rfl) fun ad w90 b t90 g90 S5 => ?_
    replace H := H.next NN t90 g90
    refine H.pushC NN S5 (by omega) fun w94 q' H94 => ?_
    refine z_i64 (by dsimp only; omega) ?_
    exact hag _ hkm ⟨p'' + 1, q', cc ++ [b], H94, by omega, by simp [lcc]⟩
  have P : TabP (rsums T m) (csums T m) B T := by
    have := MadeP.tab (B := B) MP (by rw [hn, hm]; exact F) (by rw [hn, hm]; exact fun i' k' h1 h2 => hle i' h1 k' h2)
    rwa [hm] at this
  have hup := H.up
  have X1' := H.X1
  have X9' := H.X9
  have X16' := H.X16
  have G : Grid w70 x12.1 x12.2.1 x7.1.2.2.1 (rsums T m) (csums T m) B := ⟨H.R.sl, H.C.sl, H.B.tab⟩
  have HT := H.T.tab
  have Q1 : SlB w70 qr cr := H.oqr.sl
  have Q2 : SlB w70 qc cc := H.oqc.sl
  have K1 := H1.up hup
  have K2 := H2.up hup
  refine rd_boxN X9' (by kernel_rfl) rfl ?_
  refine call_mono (solveF x12.1 x12.2.1 x7.1.2.2.1 _ _ B w70 G) ?_
  rintro (x97 : ST) w98 ⟨hS, h98⟩
  refine var_mk (v := cutv x97.2.1.1 x97.2.1.2.1) (z := .agg #[.slice none 0 0, .slice none 0 0]) (by kernel_rfl) (by kernel_rfl) rfl rfl fun x99 w101 _ h101 _ => ?_
  replace hS := hS.up h101
  have h' := h98.trans h101
  refine rd_boxN (X9'.up h') (by kernel_rfl) rfl ?_
  refine call_mono (tabC x12.1 x12.2.1 x7.1.2.2.1 x7.2.1 _ _ B T w101 (G.up h') (HT.up h')) ?_
  rintro (x103 : Bool) w104 ⟨hx, h104⟩
  replace hS := hS.up h104
  replace h' := h'.trans h104
  refine br_t (hx.2 P) ?_
  refine rd_boxN (X9'.up h') (by kernel_rfl) rfl ?_
  refine rd_boxN (X16'.up h') (by kernel_rfl) rfl ?_
  refine call_mono (cutC x12.1 x12.2.1 x7.1.2.2.1 qr qc _ _ B cr cc w104 (G.up h') (Q1.up h') (Q2.up h')) ?_
  rintro (x107 : Bool) w108 ⟨hx, h108⟩
  replace hS := hS.up h108
  replace h' := h'.trans h108
  refine br_not (fun _ => ?_) (fun e => (noCut P (hx.1 e)).elim)
  refine rd_boxN (X9'.up h') (by kernel_rfl) rfl ?_
  refine rd_boxN (X1'.up h') (by kernel_rfl) rfl ?_
  refine call_mono (cutC x12.1 x12.2.1 x7.1.2.2.1 kr kc _ _ B cr0 cc0 w108 (G.up h') (K1.up h') (K2.up h')) ?_
  rintro (x111 : Bool) w112 ⟨hx, h112⟩
  replace hS := hS.up h112
  replace h' := h'.trans h112
  refine br_not (fun _ => ?_) (fun e => (noCut P (hx.1 e)).elim)
  rcases hS with ⟨q, _⟩ | ⟨_, q, _⟩ | ⟨_, _, _, _, cr1, cc1, _, _, hC⟩ | ⟨_, _, e2, _, T', hT, hP⟩
  · exact absurd (validG_iff.2 P.v) q
  · exact absurd (sums_same T m) q
  · exact (noCut P hC).elim
  · refine br_eq (fun _ => ?_) (fun q => absurd e2 q)
    refine rd_boxN (X9'.up h') (by kernel_rfl) rfl ?_
    refine call_mono (tab21 x12.1 x12.2.1 x7.1.2.2.1 x97.1 _ _ B T' w112 (G.up h') hT) ?_
    rintro (x115 : Bool) w116 ⟨hx, h116⟩
    exact ⟨by rw [hx.2 hP], (hup.trans h').trans h116⟩
end Go.Proofs.Ytphgmfjinihgaaa
