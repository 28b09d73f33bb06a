import Derived.Tactics2
import Derived.Recover
import Derived.Laws.Pointers
import Derived.KernelRfl
import Derived.Test.YtajpdnphamomjaaYA
import Derived.Test.YtajpdnphamomjaaXS
import Derived.Test.YtajpdnphamomjaaPackLinearNever4

/- The deferred call of Relax. -/




namespace Go.Proofs.Ytajpdnphamomjaa
open Go.RowKit Go.Q Go.Q.Num Go.V

theorem wpOpsS_store {P : Program} {ops : Array Oper} {Q : Exit → Act → List Frame → World → Prop} {i : Nat} {rest : List Nat} {a : Act} {cs : List Frame} {w w1 : World} {t ty : TypeId} {x v : Operand} {ps : String} {af : Array Edge}
    (ho : ops[i]? = some ⟨none, .store t x v, ty, ps, af, none⟩) (hr : (Instr.storeAt t (a.eval x) (a.eval v)).run P w = .ok () w1) (h : wpOpsS P ops Q rest a cs w1) : wpOpsS P ops Q (i :: rest) a cs w := by
  have he : (execOp a.eval ⟨none, .store t x v, ty, ps, af, none⟩).run P w = .ok .skip w1 := by
    simp only [execOp, Sem.run_bind, hr, Result.andThen_ok, Sem.run_pure]
  simp only [wpOpsS, ho, Region.wanted, if_true, he, Oper.upon, Act.put]
  exact h
theorem rlxIdle (p q r : Addr) (w : World) :
    CallsD Try.prog 116 #[.pointer (some p), .pointer (some q), .pointer (some r)] .returning w fun e u w' => (∃ v, e = .returned v) ∧ u = .returning ∧ w' = w := by
  refine callsD_of_wpS Try.func116 rfl fun c₀ cs hu => ?_
  apply wpS_seq
  apply wpS_region
  simp [wpOpsS, go_sem, recoverD, hu, Try.ntmps116, Exit.thenS]
  refine wpS_of_wp ?_
  go_wp2
  cases c₀
  simp_all [bodyPostS, results, Try.results116]
set_option maxRecDepth 4000 in
theorem rlxCatch (p q r : Addr) (a b c : Value) (w : World) (X : Box w p [a]) (Y : Box w q [b]) (Z : Box w r [c]) (hpq : p.block ≠ q.block) (hpr : p.block ≠ r.block) (hqr : q.block ≠ r.block) {K : World → Prop}
    (hK : ∀ w', Box w' p [.slice none 0 0] → Box w' q [.slice none 0 0] → Box w' r [.int .i64 8] → Xb (fun k => k = p.block ∨ k = q.block ∨ k = r.block) w w' → K w') :
    CallsD Try.prog 116 #[.pointer (some p), .pointer (some q), .pointer (some r)] (.panicking [{ v := failV, recovered := false }]) w fun e u w' => (∃ v, e = .returned v) ∧ settle u = .returning ∧ K w' := by
  obtain ⟨w1, r1, X1, g1⟩ : wu Try.prog (Instr.storeAt 33 (.pointer (some p)) (.slice none 0 0)) w fun w' => Box w' p [.slice none 0 0] ∧ w.grownBy w' (some p.block) := wu_box X (by kernel_rfl) (Nat.le_refl 1) rfl fun w' X' hg _ => ⟨X', hg⟩
  have Y1 := Y.grown g1 (by intro e; injection e with e; exact hpq e.symm)
  have Z1 := Z.grown g1 (by intro e; injection e with e; exact hpr e.symm)
  obtain ⟨w2, r2, Y2, g2⟩ : wu Try.prog (Instr.storeAt 33 (.pointer (some q)) (.slice none 0 0)) w1 fun w' => Box w' q [.slice none 0 0] ∧ w1.grownBy w' (some q.block) := wu_box Y1 (by kernel_rfl) (Nat.le_refl 1) rfl fun w' X' hg _ => ⟨X', hg⟩
  have X2 := X1.grown g2 (by intro e; injection e with e; exact hpq e)
  have Z2 := Z1.grown g2 (by intro e; injection e with e; exact hqr e.symm)
  obtain ⟨w3, r3, Z3, g3⟩ : wu Try.prog (Instr.storeAt 28 (.pointer (some r)) (.int .i64 8)) w2 fun w' => Box w' r [.int .i64 8] ∧ w2.grownBy w' (some r.block) := wu_box Z2 (by kernel_rfl) (Nat.le_refl 1) rfl fun w' X' hg _ => ⟨X', hg⟩
  have X3 := X2.grown g3 (by intro e; injection e with e; exact hpr e)
  have Y3 := Y2.grown g3 (by intro e; injection e with e; exact hqr e)
  have fin := hK w3 X3 Y3 Z3 (((Xb.of g1 fun k e => .inl (by injection e with e; exact e.symm)).trans (Xb.of g2 fun k e => .inr (.inl (by injection e with e; exact e.symm)))).trans (Xb.of g3 fun k e => .inr (.inr (by injection e with e; exact e.symm))))
  have ta : ∀ w : World, (Instr.typeAssert failV 20 133 false).run Try.prog w = .ok (.agg #[]) w := by
    intro w
    have hu : Try.prog.underlying 133 = some (.struct #[]) := by kernel_rfl
    simp [Instr.typeAssert, Sem.run_bind, run_underlying hu, Sem.run_pure]
  refine callsD_of_wpS Try.func116 rfl fun c₀ cs hu => ?_
  apply wpS_seq
  apply wpS_region
  simp [wpOpsS, go_sem, recoverD, hu, Try.ntmps116, Exit.thenS]
  apply wpS_seq
  apply wpS_region
  simp [wpOpsS, go_sem, Exit.thenS]
  refine wpS_cond (t := true) (by simp [Act.eval, Array.replicate]) ?_
  simp only [if_true]
  apply wpS_seq
  apply wpS_region
  simp [wpOpsS, go_sem, Exit.thenS, ta]
  apply wpS_region
  refine wpOpsS_store (w1 := w1) rfl r1 ?_
  refine wpOpsS_store (w1 := w2) rfl r2 ?_
  refine wpOpsS_store (w1 := w3) rfl r3 ?_
  cases c₀
  simp_all [wpOpsS, bodyPostS, results, Try.results116, settle]
end Go.Proofs.Ytajpdnphamomjaa

/- The move of a tableau: the walk. -/

namespace Go.Proofs.Ytajpdnphamomjaa
open Go.RowKit Go.Q Go.Q.Num Go.V

set_option maxHeartbeats 6400000 in
theorem moveF {w : World} {t : Addr} {H : TH} {p : Int} {T : Tb} {N M : Nat} (A : TabAt w t H p T) (ok : TbOk N M T) {row k : Nat} {to : Rat} (hr : row < M) (hk : k < N) (hc : T.a row k ≠ 0) (hto : Fits to) :
    callP Try.prog (PnX (¬ MvFit N M T row k to) (t.block + 1) w) 121 [.pointer (some t), .int .i64 (row : Int), .int .i64 (k : Int), fracv to.num to.den] (.many []) w (fun _ w' => TabAt w' t H p (T.move row k to) ∧ TbOk N M (T.move row k to) ∧ Xa (t.block + 1) w w') := by
  have main : Calls Try.prog 121 #[.pointer (some t), .int .i64 (row : Int), .int .i64 (k : Int), fracv to.num to.den] w (retP (fun v w' => v = .tuple #[] ∧ TabAt w' t H p (T.move row k to) ∧ TbOk N M (T.move row k to) ∧ Xa (t.block + 1) w w') (some (PnX (¬ MvFit N M T row k to) (t.block + 1) w))) := by
    refine S121_calls (some t) (row : Int) (k : Int) to.num ((to.den : Nat) : Int) w _ _ ?_
    generalize hPn : PnX (¬ MvFit N M T row k to) (t.block + 1) w = Pn
    have pn : ∀ {A' : Prop} {w1 w2 : World}, (MvFit N M T row k to → ¬ A') → Xa (t.block + 1) w w1 → bel w1 w2 → ∀ ch w', PnF A' w2 ch w' → Pn ch w' := by
      intro A' w1 w2 hA hx hb ch w' q
      rw [← hPn]
      exact PnX.of (fun a mf => hA mf a) hx hb ch w' q
    have hbl := A.bl ok
    have hrl := A.rl ok
    have hM := ok.sM
    have hN := ok.sN
    have hS := A.hb
    have hbr := ok.b_lt hr
    unfold S121
    refine wr_box fun x1 w2 X1 h2 hx1 _ => ?_
    replace X1 : Box w2 x1 (encQ to) := X1
    have A2 := A.up h2
    refine A2.bas_at ok rfl hr ?_
    refine drw_mk fun w7 h7 _ => ?_
    have A7 := A2.up h7
    have X7 := X1.up h7
    have b7 := h2.trans h7
    refine flEx_mk (fun i _ v w' => (i = 8 → v = fracv (to + -(T.v (T.b row))).num (to + -(T.v (T.b row))).den ∧ Fits (to + -(T.v (T.b row)))) ∧ (i = 19 → v = tupv (fitT (T.by row k to))) ∧
      (i = 22 → v = fracv (T.by row k to).num (T.by row k to).den ∧ Fits (T.by row k to)) ∧ (i = 23 → ∃ ad, v = .pointer (some ad) ∧ Box w' ad (encQ 0 |>.map fun _ => Value.int .i64 0) ∧ w7.heap.size ≤ ad.block))
      (fun _ _ _ _ _ q hb => ⟨q.1, q.2.1, q.2.2.1, fun e => by obtain ⟨ad, h1, h2, h3⟩ := q.2.2.2 e; exact ⟨ad, h1, h2.up hb, h3⟩⟩) ?_
    refine rd_boxN X7 (by kernel_rfl) rfl ?_
    refine A7.val_at ok rfl hbr ?_
    refine flc_mk (fun w14 h14 _ => ?_) fun x18 => ?_
    · refine callP_mono (lSub w14 hto (ok.v_fit hbr)) (fun x w17 q => ⟨q.2.2, ⟨fun _ => ⟨by rw [q.1]; rfl, q.2.1⟩, fun e => absurd e (by decide), fun e => absurd e (by decide), fun e => absurd e (by decide)⟩⟩) (pn (fun mf q => q mf.f1) (bel_xa b7 _) h14)
    refine A7.el_at ok rfl hr rfl hk ?_
    refine flc_mk (fun w25 h25 q => ?_) fun x29 => ?_
    · obtain ⟨e18, f18⟩ := q.1.1 rfl
      have e18 := agg_qv e18
      subst e18
      refine callP_of (call_mono (lDiv w25 f18 (ok.a_fit hr hk) (fun q => hc (Rat.num_eq_zero.1 q))) fun x w28 q => ⟨q.2, ⟨fun e => absurd e (by decide), fun _ => by rw [q.1]; rfl, fun e => absurd e (by decide), fun e => absurd e (by decide)⟩⟩)
    refine flc_mk (fun w30 h30 q => ?_) fun x34 => ?_
    · have e29 := tup_eq (q.1.2.1 rfl)
      refine callP_mono (must_fit e29 (bel.refl w30)) (fun x w33 q => ⟨q.2.2, ⟨fun e => absurd e (by decide), fun e => absurd e (by decide), fun _ => ⟨by rw [q.1]; rfl, q.2.1⟩, fun e => absurd e (by decide)⟩⟩) (pn (fun mf q => q mf.f2) (bel_xa b7 _) h30)
    refine flc_mk (fun w35 h35 _ => ?_) fun x39 => ?_
    · refine wr_alloc (z := fracv 0 0) (by kernel_rfl) fun ad w38 Z hz hz2 _ => ?_
      exact ⟨hz, fun e => absurd e (by decide), fun e => absurd e (by decide), fun e => absurd e (by decide), fun _ => ⟨ad, rfl, Z, by have := h35.size; omega⟩⟩
    refine flend_mk fun w40 h40 q => ?_
    obtain ⟨e23, e22, _⟩ := q
    obtain ⟨ad, e39, Z39, h39⟩ := e23.2.2.2 rfl
    obtain ⟨e34, f34⟩ := e22.2.2.1 rfl
    have e34 := agg_qv e34
    subst e34
    have e39 : x39 = ad := by injection e39 with e; injection e with e
    subst e39
    have n39 : x1.block < x39.block := by have := X7.lt; omega
    replace h39 : w.heap.size ≤ x39.block := by have := b7.size; omega
    refine wu_box Z39 (by kernel_rfl) (Nat.le_refl 2) rfl fun w42 X42 g42 _ => ?_
    replace X42 : Box w42 x39 (encQ (T.by row k to)) := X42
    have b42 : bel w w42 := (b7.trans h40).grownAt g42 h39
    have A42 := A.up b42
    have X1' : Box w42 x1 (encQ to) := (X7.up h40).grown g42 (by intro e; injection e with e; omega)
    refine drw_mk fun w43 h43 _ => ?_
    have A43 := A42.up h43
    have b43 := b42.trans h43
    refine flEx_mk (fun _ _ v _ => v = fracv (T.v k + T.by row k to).num (T.v k + T.by row k to).den ∧ Fits (T.v k + T.by row k to)) (fun _ _ _ _ _ q _ => q) ?_
    refine nn_mk rfl (rd_box (by kernel_rfl) A43.box rfl rfl ?_)
    refine nn_mk rfl (rd_box (by kernel_rfl) A43.box rfl rfl ?_)
    refine rd_boxN (X1'.up h43) (by kernel_rfl) rfl ?_
    refine A43.val_at ok rfl hk ?_
    refine rd_boxN (X42.up h43) (by kernel_rfl) rfl ?_
    refine flc_mk (fun w55 h55 _ => ?_) fun x59 => ?_
    · exact callP_mono (lAdd w55 (ok.v_fit hk) f34) (fun x w58 q => ⟨q.2.2, by rw [q.1]; rfl, q.2.1⟩) (pn (fun mf q => q mf.f3) (bel_xa b43 _) h55)
    refine flend_mk fun w60 h60 q => ?_
    obtain ⟨⟨e59, f59⟩, _⟩ := q
    have e59 := agg_qv e59
    subst e59
    have b60 := b43.trans h60
    have A60 := A43.up h60
    have X60 : Box w60 x39 (encQ (T.by row k to)) := (X42.up h43).up h60
    refine A60.setV ok hS rfl hbr to fun w63 A63 g63 k63 => ?_
    have X63 := k63 _ _ h39 X60
    have ok63 := ok.setV (j := T.b row) hto
    refine A63.setV ok63 hS rfl hk (T.v k + T.by row k to) fun w65 A65 g65 k65 => ?_
    have X65 := k65 _ _ h39 X63
    have ok65 := ok63.setV (j := k) f59
    have x65 : Xa (t.block + 1) w w65 := ((bel_xa b60 _).trans g63).trans g65
    clear A2 A7 A42 A43 A60 A63 X7 X1 X1' X42 X60 X63 g63 g65 k63 k65 b60 b43 b42 ok63 h40 h60 h43 g42 Z39 e23 e22 b7 h7 h2
    -- the values of the basic variables
    refine nn_mk rfl (rd_box (by kernel_rfl) A65.box rfl rfl ?_)
    refine loop_up M (fun i w' => TabAt w' t H p { T with val := T.vN row k to i } ∧ TbOk N M { T with val := T.vN row k to i } ∧ Xa (t.block + 1) w w' ∧ Box w' x39 (encQ (T.by row k to))) ⟨A65, ok65, x65, X65⟩ ?_
    rintro i w70 hi ⟨A70, ok70, x70, X70⟩ again hag _
    refine br_dec (fun hlt => ?_) (fun hge => ?_)
    · have hiM : i < M := by dsimp only at hlt; rw [hbl] at hlt; omega
      have hbi := ok.b_lt hiM
      refine join_mk (fun _ w' => TabAt w' t H p { T with val := T.vN row k to (i + 1) } ∧ TbOk N M { T with val := T.vN row k to (i + 1) } ∧ Xa (t.block + 1) w w' ∧ Box w' x39 (encQ (T.by row k to))) (fun K71 hK => ?_) (fun x w2 q => ?_)
      case refine_2 =>
        intro _
        refine z_eq (by exact IntWalk.i64_in _ ⟨by dsimp only; omega, by dsimp only; omega⟩) ?_
        exact hag _ hiM q
      refine at_int tyInts (by kernel_rfl) A70.bs.sl rfl (by rw [hbl]; exact hiM) fun x hx => ?_
      have hx : x = (T.b i : Nat) := by rw [List.getElem?_map, ok.bas_get hiM] at hx; cases hx; rfl
      subst hx
      refine A70.el_at ok70 rfl hiM rfl hk ?_
      refine boxF fun x83 w85 h85 X83 h83 => ?_
      have A85 := A70.up h85
      have X85 := X70.up h85
      have x85 := x70.trans (bel_xa h85 _)
      have no : ¬ (i ≠ row ∧ T.a i k ≠ 0) → K71 () w85 := fun q => by
        have e : T.vN row k to (i + 1) = T.vN row k to i := by rw [Tb.vN]; exact if_neg q
        exact hK _ _ ⟨by rw [e]; exact A85, by rw [e]; exact ok70, x85, X85⟩
      refine br_ne (fun hir => ?_) (fun hir => ?_)
      case refine_2 => exact no fun q => q.1 (by dsimp only at hir; omega)
      have hir' : i ≠ row := fun e => hir (by rw [e])
      refine rd_box0 (by kernel_rfl) X83 rfl rfl ?_
      refine br_ne (fun h0 => ?_) (fun h0 => ?_)
      case refine_2 => exact no fun q => q.2 (Rat.num_eq_zero.1 h0)
      have ha0 : T.a i k ≠ 0 := fun q => h0 (Rat.num_eq_zero.2 q)
      refine drw_mk fun w87 h87 _ => ?_
      have A87 := A85.up h87
      have x87 := x85.trans (bel_xa h87 _)
      refine flEx_mk (fun q _ v _ => (q = 14 → v = fracv (T.a i k * T.by row k to).num (T.a i k * T.by row k to).den ∧ Fits (T.a i k * T.by row k to)) ∧
        (q = 15 → v = fracv ((T.vN row k to i).getD (T.b i) 0 + T.a i k * T.by row k to).num ((T.vN row k to i).getD (T.b i) 0 + T.a i k * T.by row k to).den ∧ Fits ((T.vN row k to i).getD (T.b i) 0 + T.a i k * T.by row k to))) (fun _ _ _ _ _ q _ => q) ?_
      refine nn_mk rfl (rd_box (by kernel_rfl) A87.box rfl rfl ?_)
      refine A87.val_at ok70 rfl hbi ?_
      refine rd_boxN (X83.up h87) (by kernel_rfl) rfl ?_
      refine rd_boxN (X85.up h87) (by kernel_rfl) rfl ?_
      refine flc_mk (fun w97 h97 _ => ?_) fun x101 => ?_
      · exact callP_mono (lMul w97 (ok.a_fit hiM hk) f34) (fun x w58 q => ⟨q.2.2, ⟨fun _ => ⟨by rw [q.1]; rfl, q.2.1⟩, fun e => absurd e (by decide)⟩⟩) (pn (fun mf q => q (mf.f4 i hiM hir' ha0).1) x87 h97)
      refine flc_mk (fun w102 h102 q => ?_) fun x106 => ?_
      · obtain ⟨e1, f1⟩ := q.1.1 rfl
        have e1 := agg_qv e1
        subst e1
        exact callP_mono (lAdd w102 (ok70.v_fit hbi) f1) (fun x w58 q => ⟨q.2.2, ⟨fun e => absurd e (by decide), fun _ => ⟨by rw [q.1]; rfl, q.2.1⟩⟩⟩) (pn (fun mf q => q (mf.f4 i hiM hir' ha0).2) x87 h102)
      refine flend_mk fun w107 h107 q => ?_
      obtain ⟨e1, f1⟩ := q.1.2 rfl
      have e1 := agg_qv e1
      subst e1
      have A107 := A87.up h107
      refine A107.setV ok70 hS rfl hbi _ fun w110 A110 g110 k110 => ?_
      have e : T.vN row k to (i + 1) = (T.vN row k to i).set (T.b i) ((T.vN row k to i).getD (T.b i) 0 + T.a i k * T.by row k to) := by rw [Tb.vN]; exact if_pos ⟨hir', ha0⟩
      refine hK _ _ ⟨by rw [e]; exact A110, by rw [e]; exact ok70.setV (j := T.b i) f1, (x87.trans (bel_xa h107 _)).trans g110, k110 _ _ h39 ((X85.up h87).up h107)⟩
    have hiM : i = M := by dsimp only at hge; rw [hbl] at hge; omega
    rw [hiM] at A70 ok70
    clear hag hge hi hiM again
    have hlb := ok.lb
    have hlr := ok.lr
    -- the row is turned about
    refine A70.el_at ok70 rfl hr rfl hk ?_
    refine boxF fun x117 w119 h119 X119 hx117 => ?_
    have A119 := A70.up h119
    have x119 := x70.trans (bel_xa h119 _)
    have n117 : w.heap.size ≤ x117.block := by have := x70.size; omega
    replace X119 : Box w119 x117 (encQ (T.a row k)) := X119
    refine A119.row_at ok70 rfl hr fun g hg O119 => ?_
    have hgl : g.2.1 = N := by have := slQ_len O119.sl; rw [show ({ T with val := T.vN row k to M } : Tb).rows.getD row [] = T.rows.getD row [] from rfl, ok.row_len hr] at this; exact this.symm
    refine loop_up N (fun j w' => TabAt w' t H p { T with val := T.vN row k to M, rows := T.rows.set row (divN (T.rows.getD row []) (T.a row k) j) } ∧ TbOk N M { T with val := T.vN row k to M, rows := T.rows.set row (divN (T.rows.getD row []) (T.a row k) j) } ∧ Xa (t.block + 1) w w' ∧ Box w' x117 (encQ (T.a row k)))
      ⟨by rw [show divN (T.rows.getD row []) (T.a row k) 0 = T.rows.getD row [] from rfl, set_self (by rw [hlr]; exact hr)]; exact A119, by rw [show divN (T.rows.getD row []) (T.a row k) 0 = T.rows.getD row [] from rfl, set_self (by rw [hlr]; exact hr)]; exact ok70, x119, X119⟩ ?_
    rintro j w126 hj ⟨A126, ok126, x126, X126⟩ again hag _
    refine br_dec (fun hlt => ?_) (fun hge => ?_)
    · have hjN : j < N := by dsimp only at hlt; rw [hgl] at hlt; omega
      refine join_mk (fun _ w' => TabAt w' t H p { T with val := T.vN row k to M, rows := T.rows.set row (divN (T.rows.getD row []) (T.a row k) (j + 1)) } ∧ TbOk N M { T with val := T.vN row k to M, rows := T.rows.set row (divN (T.rows.getD row []) (T.a row k) (j + 1)) } ∧ Xa (t.block + 1) w w' ∧ Box w' x117 (encQ (T.a row k))) (fun K127 hK => ?_) (fun x w2 q => ?_)
      case refine_2 =>
        intro _
        refine z_eq (by exact IntWalk.i64_in _ ⟨by dsimp only; omega, by dsimp only; omega⟩) ?_
        exact hag _ hjN q
      have eD : (T.rows.set row (divN (T.rows.getD row []) (T.a row k) j)).getD row [] = divN (T.rows.getD row []) (T.a row k) j := getD_set (by rw [hlr]; exact hr)
      have hel : (divN (T.rows.getD row []) (T.a row k) j)[j]? = some (T.a row j) := by rw [divN_get _ _ j j (Nat.le_refl _)]; exact ok.el_get hr hjN
      have hrj : (T.rows.getD row []).getD j 0 = T.a row j := rfl
      have O126 := A126.own_at ok126 hg hr
      rw [show ({ T with val := T.vN row k to M, rows := T.rows.set row (divN (T.rows.getD row []) (T.a row k) j) } : Tb).rows.getD row [] = _ from eD] at O126
      refine atQ O126.sl rfl hel ?_
      refine boxF fun x133 w135 h135 X133 hx133 => ?_
      have A135 := A126.up h135
      have x135 := x126.trans (bel_xa h135 _)
      refine rd_box0 (by kernel_rfl) X133 rfl rfl ?_
      refine br_ne (fun h0 => ?_) (fun h0 => ?_)
      case refine_2 =>
        have e : divN (T.rows.getD row []) (T.a row k) (j + 1) = divN (T.rows.getD row []) (T.a row k) j := by rw [divN, hrj]; exact if_neg fun q => q (Rat.num_eq_zero.1 h0)
        exact hK _ _ ⟨by rw [e]; exact A135, by rw [e]; exact ok126, x135, X126.up h135⟩
      have ha0 : T.a row j ≠ 0 := fun q => h0 (Rat.num_eq_zero.2 q)
      refine drw_mk fun w137 h137 _ => ?_
      have A137 := A135.up h137
      have x137 := x135.trans (bel_xa h137 _)
      refine flEx_mk (fun q _ v _ => (q = 8 → v = fracv (0 : Rat).num (0 : Rat).den) ∧ (q = 11 → v = tupv (fitT (T.a row j / T.a row k))) ∧ (q = 14 → v = fracv (T.a row j / T.a row k).num (T.a row j / T.a row k).den ∧ Fits (T.a row j / T.a row k)) ∧
        (q = 15 → v = fracv (0 + -(T.a row j / T.a row k)).num (0 + -(T.a row j / T.a row k)).den ∧ Fits (0 + -(T.a row j / T.a row k)))) (fun _ _ _ _ _ q _ => q) ?_
      refine A137.row_at ok126 rfl hr fun g' hg' _ => ?_
      have hgg : g' = g := by rw [hg] at hg'; cases hg'; rfl
      subst hgg
      refine flc_mk (fun w143 h143 _ => ?_) fun x147 => ?_
      · exact callP_of (call_mono (lWhole 0 w143) fun x w' q => ⟨q.2, ⟨fun _ => by rw [q.1]; rfl, fun e => absurd e (by decide), fun e => absurd e (by decide), fun e => absurd e (by decide)⟩⟩)
      refine rd_boxN (X133.up h137) (by kernel_rfl) rfl ?_
      refine rd_boxN ((X126.up h135).up h137) (by kernel_rfl) rfl ?_
      refine flc_mk (fun w150 h150 _ => ?_) fun x154 => ?_
      · exact callP_of (call_mono (lDiv w150 (ok.a_fit hr hjN) (ok.a_fit hr hk) (fun q => hc (Rat.num_eq_zero.1 q))) fun x w28 q => ⟨q.2, ⟨fun e => absurd e (by decide), fun _ => by rw [q.1], fun e => absurd e (by decide), fun e => absurd e (by decide)⟩⟩)
      refine flc_mk (fun w155 h155 q => ?_) fun x159 => ?_
      · have e154 := tup_eq (q.1.2.1 rfl)
        exact callP_mono (must_fit e154 (bel.refl w155)) (fun x w33 q => ⟨q.2.2, ⟨fun e => absurd e (by decide), fun e => absurd e (by decide), fun _ => ⟨by rw [q.1]; rfl, q.2.1⟩, fun e => absurd e (by decide)⟩⟩) (pn (fun mf q => q (mf.f5 j hjN ha0).1) x137 h155)
      refine flc_mk (fun w160 h160 q => ?_) fun x164 => ?_
      · have e147 := agg_qv (q.2.2.1.1 rfl)
        obtain ⟨e159, f159⟩ := q.1.2.2.1 rfl
        have e159 := agg_qv e159
        subst e147 e159
        exact callP_mono (lSub w160 (fits_of_int (n := 0) ⟨by omega, by omega⟩) f159) (fun x w33 q => ⟨q.2.2, ⟨fun e => absurd e (by decide), fun e => absurd e (by decide), fun e => absurd e (by decide), fun _ => ⟨by rw [q.1]; rfl, q.2.1⟩⟩⟩) (pn (fun mf q => q (mf.f5 j hjN ha0).2) x137 h160)
      refine flend_mk fun w165 h165 q => ?_
      obtain ⟨e164, f164⟩ := q.1.2.2.2 rfl
      have e164 := agg_qv e164
      subst e164
      have A165 := A137.up h165
      refine A165.setR ok126 hS hg hr rfl hjN _ fun w168 A168 g168 k168 => ?_
      have ok168 := ok126.setR (q := row) (j := j) hr f164
      have e : T.rows.set row (divN (T.rows.getD row []) (T.a row k) (j + 1)) = (T.rows.set row (divN (T.rows.getD row []) (T.a row k) j)).set row (((T.rows.set row (divN (T.rows.getD row []) (T.a row k) j)).getD row []).set j (0 + -(T.a row j / T.a row k))) := by
        rw [set_twice (by rw [hlr]; exact hr), divN, hrj, if_pos ha0]
      exact hK _ _ ⟨by rw [e]; exact A168, by rw [e]; exact ok168, (x137.trans (bel_xa h165 _)).trans g168, k168 _ _ n117 (((X126.up h135).up h137).up h165)⟩
    have hjN : j = N := by dsimp only at hge; rw [hgl] at hge; omega
    rw [hjN] at A126 ok126
    clear hag hge hj hjN again
    -- the rest of the row, and the basic variable
    refine drw_mk fun w169 h169 _ => ?_
    have A169 := A126.up h169
    have x169 := x126.trans (bel_xa h169 _)
    refine flEx_mk (fun q _ v _ => (q = 16 → v = fracv (0 : Rat).num (0 : Rat).den) ∧ (q = 17 → v = fracv (1 : Rat).num (1 : Rat).den) ∧ (q = 19 → v = tupv (fitT (1 / T.a row k))) ∧ (q = 22 → v = fracv (1 / T.a row k).num (1 / T.a row k).den ∧ Fits (1 / T.a row k)))
      (fun _ _ _ _ _ q _ => q) ?_
    refine A169.row_at ok126 rfl hr fun g1 hg1 _ => ?_
    have hgg : g1 = g := by rw [hg] at hg1; cases hg1; rfl
    subst hgg
    refine A169.row_at ok126 rfl hr fun g2 hg2 _ => ?_
    have hgg : g2 = g1 := by rw [hg] at hg2; cases hg2; rfl
    subst hgg
    refine flc_mk (fun w179 h179 _ => ?_) fun x183 => ?_
    · exact callP_of (call_mono (lWhole 0 w179) fun x w' q => ⟨q.2, ⟨fun _ => by rw [q.1]; rfl, fun e => absurd e (by decide), fun e => absurd e (by decide), fun e => absurd e (by decide)⟩⟩)
    refine flc_mk (fun w184 h184 _ => ?_) fun x188 => ?_
    · exact callP_of (call_mono (lWhole 1 w184) fun x w' q => ⟨q.2, ⟨fun e => absurd e (by decide), fun _ => by rw [q.1]; rfl, fun e => absurd e (by decide), fun e => absurd e (by decide)⟩⟩)
    refine rd_boxN (X126.up h169) (by kernel_rfl) rfl ?_
    refine flc_mk (fun w190 h190 q => ?_) fun x194 => ?_
    · have e188 := agg_qv (q.1.2.1 rfl)
      subst e188
      exact callP_of (call_mono (lDiv (r := 1) w190 (fits_of_int (n := 1) ⟨by omega, by omega⟩) (ok.a_fit hr hk) (fun q => hc (Rat.num_eq_zero.1 q))) fun x w28 q => ⟨q.2, ⟨fun e => absurd e (by decide), fun e => absurd e (by decide), fun _ => by rw [q.1], fun e => absurd e (by decide)⟩⟩)
    refine flc_mk (fun w195 h195 q => ?_) fun x199 => ?_
    · have e194 := tup_eq (q.1.2.2.1 rfl)
      exact callP_mono (must_fit e194 (bel.refl w195)) (fun x w33 q => ⟨q.2.2, ⟨fun e => absurd e (by decide), fun e => absurd e (by decide), fun e => absurd e (by decide), fun _ => ⟨by rw [q.1]; rfl, q.2.1⟩⟩⟩) (pn (fun mf q => q mf.f6) x169 h195)
    refine flend_mk fun w200 h200 q => ?_
    have e183 := agg_qv (q.2.2.2.1.1 rfl)
    obtain ⟨e199, f199⟩ := q.1.2.2.2 rfl
    have e199 := agg_qv e199
    subst e183 e199
    have A200 := A169.up h200
    have f0 : Fits (0 : Rat) := fits_of_int (n := 0) ⟨by omega, by omega⟩
    have x200 := x169.trans (bel_xa h200 _)
    have hrl' : row < T.rows.length := by rw [hlr]; exact hr
    refine A200.setR ok126 hS hg hr rfl hk _ fun w203 A203 g203 _ => ?_
    have ok203 := ok126.setR (q := row) (j := k) hr f0
    dsimp only at A203 ok203
    rw [set_twice hrl'] at A203 ok203
    refine A203.setR ok203 hS hg hr rfl hbr _ fun w205 A205 g205 _ => ?_
    have ok205 := ok203.setR (q := row) (j := T.b row) hr f199
    dsimp only at A205 ok205
    rw [set_twice hrl'] at A205 ok205
    have enr : ((divN (T.rows.getD row []) (T.a row k) N).set k 0).set (T.b row) (1 / T.a row k) = T.nr row k := by unfold Tb.nr; rw [ok.row_len hr]
    rw [enr] at A205 ok205
    refine nn_mk rfl (rd_box (by kernel_rfl) A205.box rfl rfl ?_)
    refine A205.setB ok205 hS rfl hr (k := k) fun w209 A209 g209 _ => ?_
    have ok209 := ok205.setB (j := row) hk
    dsimp only at A209 ok209
    have x209 := ((x200.trans g203).trans g205).trans g209
    have hnl : (T.nr row k).length = N := by rw [nr_len, ok.row_len hr]
    clear A200 A203 A205 ok203 ok205 g203 g205 g209 A169 A126 ok126 x126 x169 x200 X126 A119 X119 O119 x119 A70 ok70 X70 x70 A65 ok65 x65 X65 q
    -- the other rows
    refine nn_mk rfl (rd_box (by kernel_rfl) A209.box rfl rfl ?_)
    refine loop_up M (fun i w' => TabAt w' t H p { T with val := T.vN row k to M, bas := T.bas.set row k, rows := T.rN row k i } ∧ TbOk N M { T with val := T.vN row k to M, bas := T.bas.set row k, rows := T.rN row k i } ∧ Xa (t.block + 1) w w') ⟨A209, ok209, x209⟩ ?_
    rintro i w214 hi ⟨A214, ok214, x214⟩ again hag _
    refine br_dec (fun hlt => ?_) (fun hge => ?_)
    case refine_2 =>
      have hiM : i = M := by dsimp only at hge; rw [hrl] at hge; omega
      rw [hiM] at A214 ok214
      refine ⟨rfl, ?_, ?_, x214⟩
      · unfold Tb.move; rw [hlb, hlr]; exact A214
      · unfold Tb.move; rw [hlb, hlr]; exact ok214
    have hiM : i < M := by dsimp only at hlt; rw [hrl] at hlt; omega
    refine join_mk (fun _ w' => TabAt w' t H p { T with val := T.vN row k to M, bas := T.bas.set row k, rows := T.rN row k (i + 1) } ∧ TbOk N M { T with val := T.vN row k to M, bas := T.bas.set row k, rows := T.rN row k (i + 1) } ∧ Xa (t.block + 1) w w') (fun K215 hK => ?_) (fun x w2 q => ?_)
    case refine_2 =>
      intro _
      refine z_eq (by exact IntWalk.i64_in _ ⟨by dsimp only; omega, by dsimp only; omega⟩) ?_
      exact hag _ hiM q
    obtain ⟨gi, hgi, Oi⟩ := A214.hs_get ok214 hiM
    refine at_hdr tyFracTab (by kernel_rfl) A214.rs.sl rfl (by rw [hrl]; exact hiM) fun x hx => ?_
    have hx : x = gi := by rw [hgi] at hx; cases hx; rfl
    subst hx
    refine atQ Oi.sl rfl (ok214.el_get hiM hk) ?_
    refine boxF fun x223 w225 h225 X223 hx223 => ?_
    have A225 := A214.up h225
    have x225 := x214.trans (bel_xa h225 _)
    have n223 : w.heap.size ≤ x223.block := by have := x214.size; omega
    have no : ¬ (i ≠ row ∧ T.a i k ≠ 0) → K215 () w225 := fun q => by
      have e : T.rN row k (i + 1) = T.rN row k i := by rw [Tb.rN]; exact if_neg q
      exact hK _ _ ⟨by rw [e]; exact A225, by rw [e]; exact ok214, x225⟩
    refine br_eq (fun hir => ?_) (fun hir => ?_)
    · exact no fun q => q.1 (by dsimp only at hir; omega)
    have hir' : i ≠ row := fun e => hir (by rw [e])
    have hri : (T.rN row k i).getD i [] = T.rows.getD i [] := by
      rw [List.getD_eq_getElem?_getD, rN_get i i (Nat.le_refl _), List.getElem?_set_ne (fun e => hir' e.symm), List.getD_eq_getElem?_getD]
    have hai : ({ T with val := T.vN row k to M, bas := T.bas.set row k, rows := T.rN row k i } : Tb).a i k = T.a i k := by unfold Tb.a; dsimp only; rw [hri]
    rw [hai] at X223
    replace X223 : Box w225 x223 (encQ (T.a i k)) := X223
    refine rd_box0 (by kernel_rfl) X223 rfl rfl ?_
    refine br_eq (fun h0 => ?_) (fun h0 => ?_)
    · exact no fun q => q.2 (Rat.num_eq_zero.1 h0)
    have ha0 : T.a i k ≠ 0 := fun q => h0 (Rat.num_eq_zero.2 q)
    refine callP_of (call_mono (lWhole 0 w225) fun x227 w228 q => ?_)
    obtain ⟨e227, h228⟩ := q
    subst e227
    have A228 := A225.up h228
    have hil : i < (T.rN row k i).length := by rw [rN_len, hlr]; exact hiM
    refine A228.setR ok214 hS hgi hiM rfl hk (0 : Rat) fun w230 A230 g230 k230 => ?_
    have ok230 := ok214.setR (q := i) (j := k) hiM f0
    dsimp only at A230 ok230
    rw [hri] at A230 ok230
    have X230 := k230 _ _ n223 (X223.up h228)
    have x230 := (x225.trans (bel_xa h228 _)).trans g230
    have hrow : ∀ Y : List Rat, ((T.rN row k i).set i Y).getD row [] = T.nr row k := fun Y => by
      rw [getD_set_ne' hir', List.getD_eq_getElem?_getD, rN_row, List.getElem?_set_self hrl']; rfl
    refine A230.row_at ok230 rfl hr fun g' hg' O230 => ?_
    dsimp only at O230
    rw [hrow] at O230
    have hgl' : g'.2.1 = N := by have := slQ_len O230.sl; rw [hnl] at this; exact this.symm
    refine loop_up N (fun j w' => TabAt w' t H p { T with val := T.vN row k to M, bas := T.bas.set row k, rows := (T.rN row k i).set i (addN ((T.rows.getD i []).set k 0) (T.a i k) (T.nr row k) j) } ∧
      TbOk N M { T with val := T.vN row k to M, bas := T.bas.set row k, rows := (T.rN row k i).set i (addN ((T.rows.getD i []).set k 0) (T.a i k) (T.nr row k) j) } ∧ Xa (t.block + 1) w w' ∧ Box w' x223 (encQ (T.a i k))) ⟨A230, ok230, x230, X230⟩ ?_
    rintro j w237 hj ⟨A237, ok237, x237, X237⟩ again2 hag2 _
    refine br_dec (fun hlt2 => ?_) (fun hge2 => ?_)
    case refine_2 =>
      have hjN : j = N := by dsimp only at hge2; rw [hgl'] at hge2; omega
      rw [hjN] at A237 ok237
      have e : T.rN row k (i + 1) = (T.rN row k i).set i (addN ((T.rows.getD i []).set k 0) (T.a i k) (T.nr row k) N) := by rw [Tb.rN, if_pos ⟨hir', ha0⟩, hnl]
      exact hK _ _ ⟨by rw [e]; exact A237, by rw [e]; exact ok237, x237⟩
    have hjN : j < N := by dsimp only at hlt2; rw [hgl'] at hlt2; omega
    refine join_mk (fun _ w' => TabAt w' t H p { T with val := T.vN row k to M, bas := T.bas.set row k, rows := (T.rN row k i).set i (addN ((T.rows.getD i []).set k 0) (T.a i k) (T.nr row k) (j + 1)) } ∧
      TbOk N M { T with val := T.vN row k to M, bas := T.bas.set row k, rows := (T.rN row k i).set i (addN ((T.rows.getD i []).set k 0) (T.a i k) (T.nr row k) (j + 1)) } ∧ Xa (t.block + 1) w w' ∧ Box w' x223 (encQ (T.a i k))) (fun K238 hK2 => ?_) (fun x w2 q => ?_)
    case refine_2 =>
      intro _
      refine z_eq (by exact IntWalk.i64_in _ ⟨by dsimp only; omega, by dsimp only; omega⟩) ?_
      exact hag2 _ hjN q
    have O237 := A237.own_at ok237 hg' hr
    dsimp only at O237
    rw [hrow] at O237
    have hnj : (T.nr row k)[j]? = some ((T.nr row k).getD j 0) := by rw [List.getD_eq_getElem?_getD, List.getElem?_eq_getElem (by rw [hnl]; exact hjN)]; rfl
    have fnj : Fits ((T.nr row k).getD j 0) := by
      have h1 := ok237.row_get hr
      dsimp only at h1
      rw [hrow] at h1
      exact ok237.fr _ (mem_at h1) _ (mem_at hnj)
    refine atQ O237.sl rfl hnj ?_
    refine boxF fun x244 w246 h246 X244 hx244 => ?_
    have A246 := A237.up h246
    have x246 := x237.trans (bel_xa h246 _)
    refine rd_box0 (by kernel_rfl) X244 rfl rfl ?_
    refine br_ne (fun h0 => ?_) (fun h0 => ?_)
    case refine_2 =>
      have e : addN ((T.rows.getD i []).set k 0) (T.a i k) (T.nr row k) (j + 1) = addN ((T.rows.getD i []).set k 0) (T.a i k) (T.nr row k) j := by rw [addN]; exact if_neg fun q => q (Rat.num_eq_zero.1 h0)
      exact hK2 _ _ ⟨by rw [e]; exact A246, by rw [e]; exact ok237, x246, X237.up h246⟩
    have hn0 : (T.nr row k).getD j 0 ≠ 0 := fun q => h0 (Rat.num_eq_zero.2 q)
    refine drw_mk fun w248 h248 _ => ?_
    have A248 := A246.up h248
    have x248 := x246.trans (bel_xa h248 _)
    refine flEx_mk (fun _ _ v _ => v = fracv (T.a i k * (T.nr row k).getD j 0).num (T.a i k * (T.nr row k).getD j 0).den ∧ Fits (T.a i k * (T.nr row k).getD j 0)) (fun _ _ _ _ _ q _ => q) ?_
    have eI : ((T.rN row k i).set i (addN ((T.rows.getD i []).set k 0) (T.a i k) (T.nr row k) j)).getD i [] = addN ((T.rows.getD i []).set k 0) (T.a i k) (T.nr row k) j := getD_set hil
    have O248 := A248.own_at ok237 hgi hiM
    dsimp only at O248
    rw [eI] at O248
    have hal : (addN ((T.rows.getD i []).set k 0) (T.a i k) (T.nr row k) j).length = N := by rw [addN_len, List.length_set, ok.row_len hiM]
    have haj : (addN ((T.rows.getD i []).set k 0) (T.a i k) (T.nr row k) j)[j]? = some ((addN ((T.rows.getD i []).set k 0) (T.a i k) (T.nr row k) j).getD j 0) := get_some (by rw [hal]; exact hjN)
    have faj : Fits ((addN ((T.rows.getD i []).set k 0) (T.a i k) (T.nr row k) j).getD j 0) := by
      have h1 := ok237.row_get hiM
      dsimp only at h1
      rw [eI] at h1
      exact ok237.fr _ (mem_at h1) _ (mem_at haj)
    refine atQ O248.sl rfl haj ?_
    refine rd_boxN ((X237.up h246).up h248) (by kernel_rfl) rfl ?_
    refine rd_boxN (X244.up h248) (by kernel_rfl) rfl ?_
    refine flc_mk (fun w254 h254 _ => ?_) fun x258 => ?_
    · exact callP_mono (lMul w254 (ok.a_fit hiM hk) fnj) (fun x w58 q => ⟨q.2.2, by rw [q.1]; rfl, q.2.1⟩) (pn (fun mf q => q (mf.f7 i hiM hir' ha0 j hjN hn0).1) x248 h254)
    refine flend_mk fun w259 h259 q => ?_
    obtain ⟨⟨e258, f258⟩, _⟩ := q
    have e258 := agg_qv e258
    subst e258
    refine callP_mono (lAdd w259 faj f258) (fun x261 w262 q => ?_) (pn (fun mf q => q (mf.f7 i hiM hir' ha0 j hjN hn0).2) x248 h259)
    obtain ⟨e261, f261, h262⟩ := q
    subst e261
    have A262 := (A248.up h259).up h262
    refine A262.setR ok237 hS hgi hiM rfl hjN _ fun w264 A264 g264 k264 => ?_
    have ok264 := ok237.setR (q := i) (j := j) hiM f261
    dsimp only at A264 ok264
    rw [set_twice hil] at A264 ok264
    have e : addN ((T.rows.getD i []).set k 0) (T.a i k) (T.nr row k) (j + 1) = (addN ((T.rows.getD i []).set k 0) (T.a i k) (T.nr row k) j).set j ((addN ((T.rows.getD i []).set k 0) (T.a i k) (T.nr row k) j).getD j 0 + T.a i k * (T.nr row k).getD j 0) := by rw [addN]; exact if_pos hn0
    exact hK2 _ _ ⟨by rw [e]; exact A264, by rw [e]; exact ok264, (x248.trans (bel_xa (h259.trans h262) _)).trans g264, k264 _ _ n223 ((((X237.up h246).up h248).up h259).up h262)⟩
  exact Calls.mono main fun e w' q => q.imp (fun ⟨v, he, hv, q⟩ => ⟨(), by rw [he, hv]; rfl, q⟩) id
end Go.Proofs.Ytajpdnphamomjaa

/- The conditions of functions, printed by our tool; each is checked against the code by the kernel. -/



namespace Go.Proofs
open Go Go.V Go.RowKit
def S94 (s_0a : Option Addr) (s_0n : Nat) (s_0c : Nat) (s_1a : Option Addr) (s_1n : Nat) (s_1c : Nat) (s_2a : Option Addr) (s_2n : Nat) (s_2c : Nat) (lower_a : Option Addr) (lower_n : Nat) (lower_c : Nat) (upper_a : Option Addr) (upper_n : Nat) (upper_c : Nat) (pivots_ : Int) (w0 : World) (R : Value → World → Prop) : Prop :=
 wr Try.prog (Instr.box 43 (.agg #[(.slice s_0a s_0n s_0c), (.slice s_1a s_1n s_1c), (.slice s_2a s_2n s_2c)])) (.one .addr) w0 fun (x1 : Addr) w2 =>
 wr Try.prog (Instr.alloc 33 true (.tuple #[])) (.one .addr) w2 fun (x3 : Addr) w4 =>
 wr Try.prog (Instr.alloc 33 true (.tuple #[])) (.one .addr) w4 fun (x5 : Addr) w6 =>
 wr Try.prog (Instr.alloc 28 true (.tuple #[])) (.one .addr) w6 fun (x7 : Addr) w8 =>
 dfr Try.prog 116 [(.pointer (some x3)), (.pointer (some x5)), (.pointer (some x7))] (fun (wd : World) =>
 rd Try.prog (loadVar 33 x3) (.one .slice) wd fun (x9 : Hd3) =>
 rd Try.prog (loadVar 33 x5) (.one .slice) wd fun (x10 : Hd3) =>
 rd Try.prog (loadVar 28 x7) (.one (.int .i64)) wd fun (x11 : Int) =>
 R (.tuple #[(.slice x9.1 x9.2.1 x9.2.2), (.slice x10.1 x10.2.1 x10.2.2), (.int .i64 x11)]) wd)
  fun (Pn : List PanicEntry → World → Prop) =>
 rd Try.prog (Instr.loadAt 40 (.pointer (some x1))) (.one .slice) w8 fun (x12 : Hd3) =>
 rd Try.prog (Instr.loadAt 43 (.pointer (some x1))) (.agg [.slice, .slice, .slice]) w8 fun (x13 : (Hd3 × Hd3 × Hd3 × Unit)) =>
 callP Try.prog Pn 117 [(.agg #[(.slice x13.1.1 x13.1.2.1 x13.1.2.2), (.slice x13.2.1.1 x13.2.1.2.1 x13.2.1.2.2), (.slice x13.2.2.1.1 x13.2.2.1.2.1 x13.2.2.1.2.2)]), (.slice lower_a lower_n lower_c), (.slice upper_a upper_n upper_c)] (.one (.one .ptr)) w8 fun (x14 : (Option Addr)) w15 =>
 loop (T := (Unit)) (()) w15 fun (again16 : (Unit) → World → Prop) (_s17 : (Unit)) w18 => ∀ _ : Nat → Value,
 join (T := (Unit)) (fun (_s20 : (Unit)) w21 => ∀ _ : Nat → Value,
 nn x14 fun (a22 : Addr) =>
 rd Try.prog (Instr.loadAt 3 (.pointer (some (Addr.add a22 5)))) (.one (.int .i64)) w21 fun (x23 : Int) =>
 z (IntKind.wrap .i64 (x23 + 1)) fun (z24 : Int) =>
 nn x14 fun (a25 : Addr) =>
 wu Try.prog (Instr.storeAt 3 (.pointer (some (Addr.add a25 5))) (.int .i64 z24)) w21 fun w26 =>
 again16 (()) w26)
  fun (K19 : (Unit) → World → Prop) =>
 nn x14 fun (a27 : Addr) =>
 rd Try.prog (Instr.loadAt 3 (.pointer (some (Addr.add a27 5)))) (.one (.int .i64)) w18 fun (x28 : Int) =>
 br (decide (x28 > pivots_)) (wu Try.prog (Instr.storeAt 33 (.pointer (some x3)) (.slice none 0 0)) w18 fun w29 =>
 wu Try.prog (Instr.storeAt 33 (.pointer (some x5)) (.slice none 0 0)) w29 fun w30 =>
 wu Try.prog (Instr.storeAt 28 (.pointer (some x7)) (.int .i64 8)) w30 fun w31 =>
 rd Try.prog (loadVar 33 x3) (.one .slice) w31 fun (x32 : Hd3) =>
 rd Try.prog (loadVar 33 x5) (.one .slice) w31 fun (x33 : Hd3) =>
 rd Try.prog (loadVar 28 x7) (.one (.int .i64)) w31 fun (x34 : Int) =>
 R (.tuple #[(.slice x32.1 x32.2.1 x32.2.2), (.slice x33.1 x33.2.1 x33.2.2), (.int .i64 x34)]) w31)
 (callP Try.prog Pn 118 [(.pointer x14)] (.many [(.one (.int .i64)), (.one .bool)]) w18 fun (x35 : (Int × Bool × Unit)) w36 =>
 br (decide (x35.1 < 0)) (nn x14 fun (a37 : Addr) =>
 rd Try.prog (Instr.loadAt 33 (.pointer (some (Addr.add a37 2)))) (.one .slice) w36 fun (x38 : Hd3) =>
 rdp Try.prog (Instr.sliceAt 33 (.slice x38.1 x38.2.1 x38.2.2) none (some (.int .i64 ((x12.2.1 : Nat) : Int))) none) (.one .slice) fun (x39 : Hd3) =>
 callP Try.prog Pn 119 [(.slice x39.1 x39.2.1 x39.2.2)] (.one (.one .slice)) w36 fun (x40 : Hd3) w41 =>
 wu Try.prog (Instr.storeAt 33 (.pointer (some x3)) (.slice x40.1 x40.2.1 x40.2.2)) w41 fun w42 =>
 wu Try.prog (Instr.storeAt 33 (.pointer (some x5)) (.slice none 0 0)) w42 fun w43 =>
 wu Try.prog (Instr.storeAt 28 (.pointer (some x7)) (.int .i64 0)) w43 fun w44 =>
 rd Try.prog (loadVar 33 x3) (.one .slice) w44 fun (x45 : Hd3) =>
 rd Try.prog (loadVar 33 x5) (.one .slice) w44 fun (x46 : Hd3) =>
 rd Try.prog (loadVar 28 x7) (.one (.int .i64)) w44 fun (x47 : Int) =>
 R (.tuple #[(.slice x45.1 x45.2.1 x45.2.2), (.slice x46.1 x46.2.1 x46.2.2), (.int .i64 x47)]) w44)
 (nn x14 fun (a48 : Addr) =>
 rd Try.prog (Instr.loadAt 47 (.pointer (some (Addr.add a48 3)))) (.one .slice) w36 fun (x49 : Hd3) =>
 rdp Try.prog (Instr.indexAt 47 (.slice x49.1 x49.2.1 x49.2.2) (.int .i64 x35.1)) (.one .addr) fun (x50 : Addr) =>
 rd Try.prog (Instr.loadAt 3 (.pointer (some x50))) (.one (.int .i64)) w36 fun (x51 : Int) =>
 callP Try.prog Pn 120 [(.pointer x14), (.int .i64 x35.1), (.bool x35.2.1)] (.one (.one (.int .i64))) w36 fun (x52 : Int) w53 =>
 br (decide (x52 ≥ 0)) (nn x14 fun (a54 : Addr) =>
 rd Try.prog (Instr.loadAt 33 (.pointer (some (Addr.add a54 1)))) (.one .slice) w53 fun (x55 : Hd3) =>
 rdp Try.prog (Instr.indexAt 33 (.slice x55.1 x55.2.1 x55.2.2) (.int .i64 x51)) (.one .addr) fun (x56 : Addr) =>
 rd Try.prog (Instr.loadAt 23 (.pointer (some x56))) (.agg [(.int .i64), (.int .i64)]) w53 fun (x57 : (Int × Int × Unit)) =>
 wr Try.prog (Instr.alloc 23 true (.tuple #[])) (.one .addr) w53 fun (x58 : Addr) w59 =>
 wu Try.prog (Instr.storeAt 23 (.pointer (some x58)) (.agg #[(.int .i64 x57.1), (.int .i64 x57.2.1)])) w59 fun w60 =>
 join (T := (Unit)) (fun (_s62 : (Unit)) w63 => ∀ _ : Nat → Value,
 rd Try.prog (Instr.loadAt 23 (.pointer (some x58))) (.agg [(.int .i64), (.int .i64)]) w63 fun (x64 : (Int × Int × Unit)) =>
 callP Try.prog Pn 121 [(.pointer x14), (.int .i64 x35.1), (.int .i64 x52), (.agg #[(.int .i64 x64.1), (.int .i64 x64.2.1)])] (.many []) w63 fun (_x65 : (Unit)) w66 =>
 K19 (()) w66)
  fun (K61 : (Unit) → World → Prop) =>
 br x35.2.1 (nn x14 fun (a67 : Addr) =>
 rd Try.prog (Instr.loadAt 33 (.pointer (some a67))) (.one .slice) w60 fun (x68 : Hd3) =>
 rdp Try.prog (Instr.indexAt 33 (.slice x68.1 x68.2.1 x68.2.2) (.int .i64 x51)) (.one .addr) fun (x69 : Addr) =>
 rd Try.prog (Instr.loadAt 23 (.pointer (some x69))) (.agg [(.int .i64), (.int .i64)]) w60 fun (x70 : (Int × Int × Unit)) =>
 wu Try.prog (Instr.storeAt 23 (.pointer (some x58)) (.agg #[(.int .i64 x70.1), (.int .i64 x70.2.1)])) w60 fun w71 =>
 K61 (()) w71)
 (K61 (()) w60))
 (rd Try.prog (Instr.loadAt 41 (.pointer (some (Addr.add x1 1)))) (.one .slice) w53 fun (x72 : Hd3) =>
 loop (T := (Int × Unit)) (0, ()) w53 fun (again73 : (Int × Unit) → World → Prop) (s74 : (Int × Unit)) w75 => ∀ _ : Nat → Value,
 br (decide (s74.1 < ((x72.2.1 : Nat) : Int))) (join (T := (Unit)) (fun (_s77 : (Unit)) w78 => ∀ _ : Nat → Value,
 z (IntKind.wrap .i64 (s74.1 + 1)) fun (z79 : Int) =>
 again73 (z79, ()) w78)
  fun (K76 : (Unit) → World → Prop) =>
 z (IntKind.wrap .i64 (((x12.2.1 : Nat) : Int) + s74.1)) fun (z80 : Int) =>
 br (x51 == z80) (drw w75 fun w81 => flEx fun F82 =>
 rd Try.prog (Instr.loadAt 33 (.pointer (some x5))) (.one .slice) w81 fun (x83 : Hd3) =>
 flc bel w81 (fun _w85 => True) (fun w84 =>
   callP Try.prog Pn 122 [(.int .i64 1)] (.one (.agg [(.int .i64), (.int .i64)])) w84 fun (x86 : (Int × Int × Unit)) w87 =>
 (bel w84 w87 ∧ F82 1 [(.int .i64 1)] (.agg #[(.int .i64 x86.1), (.int .i64 x86.2.1)]) w87))
  fun (x88 : (Int × Int × Unit)) =>
 flc bel w81 (fun w90 => F82 1 [(.int .i64 1)] (.agg #[(.int .i64 x88.1), (.int .i64 x88.2.1)]) w90 ∧ True) (fun w89 =>
   wr Try.prog (Instr.buildSlice 33 1 #[(0, (.agg #[(.int .i64 x88.1), (.int .i64 x88.2.1)]))]) (.one .slice) w89 fun (x91 : Hd3) w92 =>
 (bel w89 w92 ∧ F82 2 [] (.slice x91.1 x91.2.1 x91.2.2) w92))
  fun (x93 : Hd3) =>
 flend bel w81 (fun w95 => F82 2 [] (.slice x93.1 x93.2.1 x93.2.2) w95 ∧ F82 1 [(.int .i64 1)] (.agg #[(.int .i64 x88.1), (.int .i64 x88.2.1)]) w95 ∧ True) fun w94 =>
 wr Try.prog (Builtin.append_ #[33, 33] 33 #[(.slice x83.1 x83.2.1 x83.2.2), (.slice x93.1 x93.2.1 x93.2.2)]) (.one .slice) w94 fun (x96 : Hd3) w97 =>
 wu Try.prog (Instr.storeAt 33 (.pointer (some x5)) (.slice x96.1 x96.2.1 x96.2.2)) w97 fun w98 =>
 K76 (()) w98)
 (drw w75 fun w99 => flEx fun F100 =>
 rd Try.prog (Instr.loadAt 33 (.pointer (some x5))) (.one .slice) w99 fun (x101 : Hd3) =>
 flc bel w99 (fun _w103 => True) (fun w102 =>
   callP Try.prog Pn 122 [(.int .i64 0)] (.one (.agg [(.int .i64), (.int .i64)])) w102 fun (x104 : (Int × Int × Unit)) w105 =>
 (bel w102 w105 ∧ F100 1 [(.int .i64 0)] (.agg #[(.int .i64 x104.1), (.int .i64 x104.2.1)]) w105))
  fun (x106 : (Int × Int × Unit)) =>
 nn x14 fun (a107 : Addr) =>
 rd Try.prog (Instr.loadAt 53 (.pointer (some (Addr.add a107 4)))) (.one .slice) w99 fun (x108 : Hd3) =>
 rdp Try.prog (Instr.indexAt 53 (.slice x108.1 x108.2.1 x108.2.2) (.int .i64 x35.1)) (.one .addr) fun (x109 : Addr) =>
 rd Try.prog (Instr.loadAt 33 (.pointer (some x109))) (.one .slice) w99 fun (x110 : Hd3) =>
 z (IntKind.wrap .i64 (((x12.2.1 : Nat) : Int) + s74.1)) fun (z111 : Int) =>
 rdp Try.prog (Instr.indexAt 33 (.slice x110.1 x110.2.1 x110.2.2) (.int .i64 z111)) (.one .addr) fun (x112 : Addr) =>
 rd Try.prog (Instr.loadAt 23 (.pointer (some x112))) (.agg [(.int .i64), (.int .i64)]) w99 fun (x113 : (Int × Int × Unit)) =>
 flc bel w99 (fun w115 => F100 1 [(.int .i64 0)] (.agg #[(.int .i64 x106.1), (.int .i64 x106.2.1)]) w115 ∧ True) (fun w114 =>
   callP Try.prog Pn 123 [(.agg #[(.int .i64 x106.1), (.int .i64 x106.2.1)]), (.agg #[(.int .i64 x113.1), (.int .i64 x113.2.1)])] (.one (.agg [(.int .i64), (.int .i64)])) w114 fun (x116 : (Int × Int × Unit)) w117 =>
 (bel w114 w117 ∧ F100 14 [(.agg #[(.int .i64 x106.1), (.int .i64 x106.2.1)]), (.agg #[(.int .i64 x113.1), (.int .i64 x113.2.1)])] (.agg #[(.int .i64 x116.1), (.int .i64 x116.2.1)]) w117))
  fun (x118 : (Int × Int × Unit)) =>
 flc bel w99 (fun w120 => F100 14 [(.agg #[(.int .i64 x106.1), (.int .i64 x106.2.1)]), (.agg #[(.int .i64 x113.1), (.int .i64 x113.2.1)])] (.agg #[(.int .i64 x118.1), (.int .i64 x118.2.1)]) w120 ∧ F100 1 [(.int .i64 0)] (.agg #[(.int .i64 x106.1), (.int .i64 x106.2.1)]) w120 ∧ True) (fun w119 =>
   wr Try.prog (Instr.buildSlice 33 1 #[(0, (.agg #[(.int .i64 x118.1), (.int .i64 x118.2.1)]))]) (.one .slice) w119 fun (x121 : Hd3) w122 =>
 (bel w119 w122 ∧ F100 15 [] (.slice x121.1 x121.2.1 x121.2.2) w122))
  fun (x123 : Hd3) =>
 flend bel w99 (fun w125 => F100 15 [] (.slice x123.1 x123.2.1 x123.2.2) w125 ∧ F100 14 [(.agg #[(.int .i64 x106.1), (.int .i64 x106.2.1)]), (.agg #[(.int .i64 x113.1), (.int .i64 x113.2.1)])] (.agg #[(.int .i64 x118.1), (.int .i64 x118.2.1)]) w125 ∧ F100 1 [(.int .i64 0)] (.agg #[(.int .i64 x106.1), (.int .i64 x106.2.1)]) w125 ∧ True) fun w124 =>
 wr Try.prog (Builtin.append_ #[33, 33] 33 #[(.slice x101.1 x101.2.1 x101.2.2), (.slice x123.1 x123.2.1 x123.2.2)]) (.one .slice) w124 fun (x126 : Hd3) w127 =>
 wu Try.prog (Instr.storeAt 33 (.pointer (some x5)) (.slice x126.1 x126.2.1 x126.2.2)) w127 fun w128 =>
 K76 (()) w128))
 (rd Try.prog (Instr.loadAt 43 (.pointer (some x1))) (.agg [.slice, .slice, .slice]) w75 fun (x129 : (Hd3 × Hd3 × Hd3 × Unit)) =>
 rd Try.prog (Instr.loadAt 33 (.pointer (some x5))) (.one .slice) w75 fun (x130 : Hd3) =>
 callP Try.prog Pn 41 [(.agg #[(.slice x129.1.1 x129.1.2.1 x129.1.2.2), (.slice x129.2.1.1 x129.2.1.2.1 x129.2.1.2.2), (.slice x129.2.2.1.1 x129.2.2.1.2.1 x129.2.2.1.2.2)]), (.slice lower_a lower_n lower_c), (.slice upper_a upper_n upper_c), (.slice x130.1 x130.2.1 x130.2.2)] (.one (.one .bool)) w75 fun (x131 : Bool) w132 =>
 br (!x131) (wu Try.prog (Instr.storeAt 33 (.pointer (some x3)) (.slice none 0 0)) w132 fun w133 =>
 wu Try.prog (Instr.storeAt 33 (.pointer (some x5)) (.slice none 0 0)) w133 fun w134 =>
 wu Try.prog (Instr.storeAt 28 (.pointer (some x7)) (.int .i64 8)) w134 fun w135 =>
 rd Try.prog (loadVar 33 x3) (.one .slice) w135 fun (x136 : Hd3) =>
 rd Try.prog (loadVar 33 x5) (.one .slice) w135 fun (x137 : Hd3) =>
 rd Try.prog (loadVar 28 x7) (.one (.int .i64)) w135 fun (x138 : Int) =>
 R (.tuple #[(.slice x136.1 x136.2.1 x136.2.2), (.slice x137.1 x137.2.1 x137.2.2), (.int .i64 x138)]) w135)
 (drw w132 fun w139 => flExE fun E140 F141 =>
 rdE Try.prog E140 (Instr.loadAt 33 (.pointer (some x5))) (.one .slice) w139 fun (x142 : Hd3) =>
 flc E140 w139 (fun _w144 => True) (fun w143 =>
   wu Try.prog (Instr.storeAt 33 (.pointer (some x3)) (.slice none 0 0)) w143 fun w145 =>
 (E140 w143 w145 ∧ F141 1 [] undef w145))
  fun (_x146 : (Unit)) =>
 flend E140 w139 (fun w148 => F141 1 [] (.tuple #[]) w148 ∧ True) fun w147 =>
 wu Try.prog (Instr.storeAt 33 (.pointer (some x5)) (.slice x142.1 x142.2.1 x142.2.2)) w147 fun w149 =>
 wu Try.prog (Instr.storeAt 28 (.pointer (some x7)) (.int .i64 0)) w149 fun w150 =>
 rd Try.prog (loadVar 33 x3) (.one .slice) w150 fun (x151 : Hd3) =>
 rd Try.prog (loadVar 33 x5) (.one .slice) w150 fun (x152 : Hd3) =>
 rd Try.prog (loadVar 28 x7) (.one (.int .i64)) w150 fun (x153 : Int) =>
 R (.tuple #[(.slice x151.1 x151.2.1 x151.2.2), (.slice x152.1 x152.2.1 x152.2.2), (.int .i64 x153)]) w150)))))
def H94 : Hints := ⟨[(2, 0, []), (0, 74, []), (2, 2, [(90, (.one (.int .i64)))]), (1, 3, []), (1, 1, [])], [(22, 3), (20, 16), (26, 2)], [], [26]⟩
set_option maxRecDepth 100000 in
theorem S94_eq (s_0a : Option Addr) (s_0n : Nat) (s_0c : Nat) (s_1a : Option Addr) (s_1n : Nat) (s_1c : Nat) (s_2a : Option Addr) (s_2n : Nat) (s_2c : Nat) (lower_a : Option Addr) (lower_n : Nat) (lower_c : Nat) (upper_a : Option Addr) (upper_n : Nat) (upper_c : Nat) (pivots_ : Int) (w0 : World) (R : Value → World → Prop) : vcFnD Try.prog H94 Try.f94 [(.agg #[(.slice s_0a s_0n s_0c), (.slice s_1a s_1n s_1c), (.slice s_2a s_2n s_2c)]), (.slice lower_a lower_n lower_c), (.slice upper_a upper_n upper_c), (.int .i64 pivots_)] w0 R = S94 s_0a s_0n s_0c s_1a s_1n s_1c s_2a s_2n s_2c lower_a lower_n lower_c upper_a upper_n upper_c pivots_ w0 R := by kernel_rfl
set_option maxRecDepth 100000 in
theorem S94_calls (s_0a : Option Addr) (s_0n : Nat) (s_0c : Nat) (s_1a : Option Addr) (s_1n : Nat) (s_1c : Nat) (s_2a : Option Addr) (s_2n : Nat) (s_2c : Nat) (lower_a : Option Addr) (lower_n : Nat) (lower_c : Nat) (upper_a : Option Addr) (upper_n : Nat) (upper_c : Nat) (pivots_ : Int) (w0 : World) (R : Value → World → Prop) (h : S94 s_0a s_0n s_0c s_1a s_1n s_1c s_2a s_2n s_2c lower_a lower_n lower_c upper_a upper_n upper_c pivots_ w0 R) : Calls Try.prog 94 #[(.agg #[(.slice s_0a s_0n s_0c), (.slice s_1a s_1n s_1c), (.slice s_2a s_2n s_2c)]), (.slice lower_a lower_n lower_c), (.slice upper_a upper_n upper_c), (.int .i64 pivots_)] w0 (ret R) := by
  rw [← S94_eq] at h; exact vcFnD_sound follows_ Try.func94 h

end Go.Proofs

/- Relax: the walk. -/




namespace Go.Proofs.Ytajpdnphamomjaa
open Go.RowKit Go.Q Go.Q.Num Go.V

theorem fits_neg {x : Rat} (h : Fits x) : Fits (0 + -x) := by
  have e : (0 : Rat) + -x = -x := by grind
  rw [e]
  obtain ⟨h1, h2, h3⟩ := h
  exact ⟨by rw [Rat.neg_num]; omega, by rw [Rat.neg_num]; omega, by rw [Rat.neg_den]; exact h3⟩
theorem own_mono {w : World} {B B' : Nat} {e : TypeId} {sz : Nat} {a : Option Addr} {n c : Nat} {xs : List Value} (O : Own w B e sz a n c xs) (h : B' ≤ B) : Own w B' e sz a n c xs := by
  refine ⟨O.1, ?_⟩
  rcases O.2 with h2 | ⟨g, cap, cur, h1, h2, h3⟩
  · exact .inl h2
  · exact .inr ⟨g, cap, cur, h1, by omega, h3⟩
theorem cloneQ {ad : Addr} {n c : Nat} {L : List Rat} {w : World} (S : Sl w (some ad) n c 2 (L.flatMap encQ)) (h0 : 1 ≤ n) (hn : n ≤ 100000) :
    call Try.prog 119 [.slice (some ad) n c] (.one (.one .slice)) w (fun (x : Hdr) w' => OwnQ w' w.heap.size x L ∧ bel w w') := by
  refine call_of (S119_calls (some ad) n c w _ ?_)
  unfold S119
  refine rd_nil tyFracs ?_
  refine br_f rfl ?_
  refine wr_lit0 tyFracs fun a1 w3 O3 h3 ha hs => ?_
  have S3 := S.up h3
  refine wr_appX (B := w.heap.size) tyFracs (O3 _ (Nat.le_refl _)) S3 h3.size rfl (by omega) (by
    unfold plainV; rw [List.all_eq_true]; intro x hx
    obtain ⟨r, _, hr⟩ := List.mem_flatMap.1 hx
    rcases List.mem_cons.1 hr with rfl | hr
    · rfl
    · rcases List.mem_cons.1 hr with rfl | hr
      · rfl
      · cases hr) (by omega) (by unfold maxLen; omega) (by omega) fun a' c' w' O' hg _ _ => ?_
  refine ⟨(a', 0 + n, c'), rfl, ?_, h3.grown hg fun k e => ?_⟩
  · rw [List.nil_append] at O'; exact O'
  · have e' : a1.block = k := Option.some.inj e
    omega

theorem flat_take (L : List Rat) : ∀ n, (L.take n).flatMap encQ = (L.flatMap encQ).take (n * 2) := by
  induction L with
  | nil => intro n; simp
  | cons x L ih =>
    intro n
    cases n with
    | zero => simp
    | succ n =>
      rw [List.take_succ_cons, List.flatMap_cons, List.flatMap_cons, ih n, show (n + 1) * 2 = n * 2 + 1 + 1 by omega]
      rfl
theorem sl_take {w : World} {a : Option Addr} {n m c : Nat} {L : List Rat} (S : Sl w a n c 2 (L.flatMap encQ)) (hm : m ≤ n) (h1 : 1 ≤ m) : Sl w a m c 2 ((L.take m).flatMap encQ) := by
  have hl := slQ_len S
  refine ⟨by rw [flat_len encQ_len, List.length_take]; omega, by have := S.cap; omega, S.most, fun q => by have := (S.nil' q).1; omega, fun j u hj => ?_⟩
  rw [flat_take, List.getElem?_take] at hj
  split at hj
  · exact S.at' j u hj
  · cases hj
def mults (n M : Nat) (Tb : Tb) (row : Nat) : List Rat := (List.range M).map fun i => if Tb.b row = n + i then 1 else 0 + -(Tb.a row (n + i))
def goal (Tb : Tb) (row : Nat) (below : Bool) : Rat := if below = true then Tb.lo (Tb.b row) else Tb.hi (Tb.b row)
def Stp (N M : Nat) (Tb : Tb) (row : Nat) (below : Bool) (k : Nat) : Prop := Tb.wr M = some (row, below) ∧ k < N ∧ Tb.can row below k ∧ ∀ k', k' < k → ¬ Tb.can row below k'
inductive Rch (N M : Nat) (T0 : Tb) : Nat → Tb → Prop where
  | zero : Rch N M T0 0 T0
  | step {c : Nat} {Tb : Tb} {row k : Nat} {below : Bool} : Rch N M T0 c Tb → TbOk N M Tb → Stp N M Tb row below k → Rch N M T0 (c + 1) (Tb.move row k (goal Tb row below))
section
variable (up : List Int) (T : List (List Int)) (rt ls hs : List Int)
def RlxC (pv : Nat) : Prop := ¬ BgFit up.length T ls ∨ ∃ c Tb, Rch (up.length + T.length) T.length (tb0 up T rt ls hs T.length) c Tb ∧ TbOk (up.length + T.length) T.length Tb ∧
  (pv < c ∨ (∃ row below k, Stp (up.length + T.length) T.length Tb row below k ∧ ¬ MvFit (up.length + T.length) T.length Tb row k (goal Tb row below)) ∨
    (∃ row below, Tb.wr T.length = some (row, below) ∧ (∀ k, k < up.length + T.length → ¬ Tb.can row below k) ∧ ¬ BndP up T rt ls hs ((mults up.length T.length Tb row).map prQ)))
def RlxR (pv : Nat) (w : World) (x : Hdr × Hdr × Int × Unit) (w' : World) : Prop :=
  (x.2.2.1 = 0 ∧ x.2.1 = (none, 0, 0) ∧ ∃ c Tb, Rch (up.length + T.length) T.length (tb0 up T rt ls hs T.length) c Tb ∧ TbOk (up.length + T.length) T.length Tb ∧ Tb.wr T.length = none ∧ OwnQ w' w.heap.size x.1 (Tb.val.take up.length)) ∨
  (x.2.2.1 = 0 ∧ x.1 = (none, 0, 0) ∧ 1 ≤ T.length ∧ ∃ L, L.length = T.length ∧ OwnQ w' w.heap.size x.2.1 L ∧ (∀ q ∈ L, Fits q) ∧ BndP up T rt ls hs (L.map prQ)) ∨
  (x.2.2.1 = 8 ∧ x.1 = (none, 0, 0) ∧ x.2.1 = (none, 0, 0) ∧ RlxC up T rt ls hs pv)
end
theorem TabAt.xo {w w' : World} {t : Addr} {H : TH} {p : Int} {T : Tb} {b : Nat} (A : TabAt w t H p T) (h : Xb (fun k => k = b) w w') (hb : b < t.block) : TabAt w' t H p T := by
  have hg : w.grownBy w' (some b) := h.grown fun k q _ => by rw [q]
  exact ⟨A.box.grown hg (by intro e; injection e; omega), A.fs.old hg (by omega), own_box A.bs hg (by omega), own_box A.rs hg (by omega)⟩
theorem TabAt.setP {w : World} {t : Addr} {H : TH} {p q : Int} {T : Tb} (A : TabAt w t H p T) {K : World → Prop} (hk : ∀ w', TabAt w' t H q T → w.grownBy w' (some t.block) → K w') :
    wu Try.prog (Instr.storeAt 3 (.pointer (some (t.add 5))) (.int .i64 q)) w K :=
  wu_boxi A.box (by kernel_rfl) (by show 5 < 6; omega) rfl fun w' X hg _ => hk w' ⟨X, A.fs.old hg (Nat.lt_succ_self _), own_box A.bs hg (Nat.lt_succ_self _), own_box A.rs hg (Nat.lt_succ_self _)⟩ hg
end Go.Proofs.Ytajpdnphamomjaa

/- Relax: what it says. -/

namespace Go.Proofs.Ytajpdnphamomjaa
open Go.RowKit Go.Q Go.Q.Num Go.V

abbrev rRX : RS := .many [.one .slice, .one .slice, .one (.int .i64)]
set_option maxHeartbeats 6400000 in
theorem relaxF (u r b lo hi : Hdr) (up : List Int) (T : List (List Int)) (rt ls hs : List Int) (pv : Nat) (w : World) (HS : Sys w u r b up T rt) (hok : sysE up T rt = 0) (HL : Sl w lo.1 lo.2.1 lo.2.2 1 (ints .i64 ls)) (HH : Sl w hi.1 hi.2.1 hi.2.2 1 (ints .i64 hs))
    (hll : ls.length = up.length) (hhl : hs.length = up.length) (hlb : Bg9 ls) (hhb : Bg9 hs) (hn1 : 1 ≤ up.length) (hpv : pv ≤ 1000000) :
    call Try.prog 94 [sysv u r b, .slice lo.1 lo.2.1 lo.2.2, .slice hi.1 hi.2.1 hi.2.2, .int .i64 (pv : Int)] rRX w (fun (x : Hdr × Hdr × Int × Unit) w' => RlxR up T rt ls hs pv w x w' ∧ bel w w') := by
  refine call_of (S94_calls u.1 u.2.1 u.2.2 r.1 r.2.1 r.2.2 b.1 b.2.1 b.2.2 lo.1 lo.2.1 lo.2.2 hi.1 hi.2.1 hi.2.2 (pv : Int) w _ ?_)
  obtain ⟨hul, hTl, hR, hA⟩ := sysE_ok hok
  have hur := HS.u.int
  have hTr := HS.r.len
  have hm11 : ∀ {n : Nat}, n ≤ 1000000 → n ≤ maxLen := fun h => by unfold maxLen; omega
  unfold S94
  refine wr_box fun x1 w2 X1 h2 hx1 hs1 => ?_
  replace X1 : Box w2 x1 (sysc u r b) := X1
  refine wr_alloc (z := .slice none 0 0) (by kernel_rfl) fun x3 w4 X3 h4 hx3 hs3 => ?_
  refine wr_alloc (z := .slice none 0 0) (by kernel_rfl) fun x5 w6 X5 h6 hx5 hs5 => ?_
  refine wr_alloc (z := .int .i64 0) (by kernel_rfl) fun x7 w8 X7 h8 hx7 hs7 => ?_
  replace X1 : Box w8 x1 (sysc u r b) := ((X1.up h4).up h6).up h8
  replace X3 : Box w8 x3 [.slice none 0 0] := (X3.up h6).up h8
  replace X5 : Box w8 x5 [.slice none 0 0] := X5.up h8
  replace X7 : Box w8 x7 [.int .i64 0] := X7
  have b8 : bel w w8 := ((h2.trans h4).trans h6).trans h8
  have s2 := h2.size
  have m1 : w.heap.size ≤ x1.block := by omega
  have m3 : x1.block < x3.block := by omega
  have m5 : x3.block < x5.block := by omega
  have m7 : x5.block < x7.block := by omega
  have m8 : x7.block < w8.heap.size := X7.lt
  -- what is returned
  have out : ∀ (w' : World) (v3 v5 : Hdr) (e : Int), Box w' x3 [.slice v3.1 v3.2.1 v3.2.2] → Box w' x5 [.slice v5.1 v5.2.1 v5.2.2] → Box w' x7 [.int .i64 e] → RlxR up T rt ls hs pv w (v3, v5, e, ()) w' → bel w w' →
      rd Try.prog (loadVar 33 x3) (.one .slice) w' fun (y3 : Hdr) => rd Try.prog (loadVar 33 x5) (.one .slice) w' fun (y5 : Hdr) => rd Try.prog (loadVar 28 x7) (.one (.int .i64)) w' fun (y7 : Int) =>
        ∃ x : Hdr × Hdr × Int × Unit, (Value.tuple #[.slice y3.1 y3.2.1 y3.2.2, .slice y5.1 y5.2.1 y5.2.2, .int .i64 y7]) = rRX.val x ∧ RlxR up T rt ls hs pv w x w' ∧ bel w w' := by
    intro w' v3 v5 e Y3 Y5 Y7 hr hb
    refine rd_boxV1 (by kernel_rfl) Y3 rfl rfl ?_
    refine rd_boxV1 (by kernel_rfl) Y5 rfl rfl ?_
    refine rd_boxV1 (by kernel_rfl) Y7 rfl rfl ?_
    exact ⟨(v3, v5, e, ()), rfl, hr, hb⟩
  refine ⟨fun ch w' => ch = [{ v := failV, recovered := false }] ∧ RlxC up T rt ls hs pv ∧ (∃ v3 v5 v7, Box w' x3 [v3] ∧ Box w' x5 [v5] ∧ Box w' x7 [v7]) ∧ bel w w', fun w' => rlxIdle _ _ _ w', ?_, ?_⟩
  · rintro ch w' ⟨rfl, hC, ⟨v3, v5, v7, Y3, Y5, Y7⟩, hb⟩
    refine rlxCatch x3 x5 x7 v3 v5 v7 w' Y3 Y5 Y7 (by omega) (by omega) (by omega) fun w'' Z3 Z5 Z7 hX => ?_
    exact out w'' (none, 0, 0) (none, 0, 0) 8 Z3 Z5 Z7 (.inr (.inr ⟨rfl, rfl, rfl, hC⟩)) (Xb.bel hb hX (by rintro k (q | q | q) <;> omega))
  generalize hPn : (fun (ch : List PanicEntry) (w' : World) => ch = [{ v := failV, recovered := false }] ∧ RlxC up T rt ls hs pv ∧ (∃ v3 v5 v7, Box w' x3 [v3] ∧ Box w' x5 [v5] ∧ Box w' x7 [v7]) ∧ bel w w') = Pn
  refine rd_box0 (by kernel_rfl) X1 rfl rfl ?_
  refine rd_boxN X1 (by kernel_rfl) rfl ?_
  refine callP_mono (beginF u r b lo hi up T rt ls hs w8 (HS.up b8) hok (HL.up b8) (HH.up b8) hll hhl hlb hhb) (fun (x14 : Option Addr) w15 q => ?_) (fun ch w' q => by
    rw [← hPn]
    exact ⟨q.2.1, .inl q.1, ⟨_, _, _, X3.up q.2.2, X5.up q.2.2, X7.up q.2.2⟩, b8.trans q.2.2⟩)
  obtain ⟨t, H, rfl, nt, A15, ok15, h15⟩ := q
  generalize hN : up.length + T.length = N at ok15
  generalize hT0 : tb0 up T rt ls hs T.length = T0 at A15 ok15
  refine loop_gh (G := Nat) (fun c _ w' => c ≤ pv + 1 ∧ bel w w' ∧ Box w' x1 (sysc u r b) ∧ Box w' x3 [.slice none 0 0] ∧ Box w' x5 [.slice none 0 0] ∧ Box w' x7 [.int .i64 0] ∧ ∃ Tb, Rch N T.length T0 c Tb ∧ TbOk N T.length Tb ∧ TabAt w' t H (c : Int) Tb) (fun c => pv + 2 - c) 0
    ⟨by omega, b8.trans h15, X1.up h15, X3.up h15, X5.up h15, X7.up h15, T0, .zero, ok15, A15⟩ ?_
  clear X1 X3 X5 X7 A15 ok15 h15 h2 h4 h6 h8
  rintro c _ w18 ⟨hc, b18, X1, X3, X5, X7, Tb, hRch, ok, A⟩ again hag _
  have hM := ok.sM
  have hNs := ok.sN
  have s18 := b18.size
  have t18 := A.box.lt
  -- what other things keep, where a tableau is written
  have keep : ∀ {w1 w2 : World}, bel w w1 → Box w1 x1 (sysc u r b) → Box w1 x3 [.slice none 0 0] → Box w1 x5 [.slice none 0 0] → Box w1 x7 [.int .i64 0] → Xa (t.block + 1) w1 w2 → bel w w2 ∧ Box w2 x1 (sysc u r b) ∧ Box w2 x3 [.slice none 0 0] ∧ Box w2 x5 [.slice none 0 0] ∧ Box w2 x7 [.int .i64 0] :=
    fun hb Y1 Y3 Y5 Y7 hX => ⟨Xb.bel hb hX fun k hk => by omega, xa_box Y1 hX (by omega), xa_box Y3 hX (by omega), xa_box Y5 hX (by omega), xa_box Y7 hX (by omega)⟩
  refine join_mk (fun _ w' => c ≤ pv ∧ bel w w' ∧ Box w' x1 (sysc u r b) ∧ Box w' x3 [.slice none 0 0] ∧ Box w' x5 [.slice none 0 0] ∧ Box w' x7 [.int .i64 0] ∧ ∃ Tb, Rch N T.length T0 (c + 1) Tb ∧ TbOk N T.length Tb ∧ TabAt w' t H (c : Int) Tb) (fun K19 hK => ?_) (fun x w2 q => ?_)
  case refine_2 =>
    obtain ⟨hcp, b2, Y1, Y3, Y5, Y7, Tb', hR', ok', A'⟩ := q
    intro _
    refine nn_mk rfl ?_
    refine rd_box (by kernel_rfl) A'.box rfl rfl ?_
    refine z_eq (m := ((c + 1 : Nat) : Int)) (by rw [IntWalk.i64_in _ ⟨by omega, by omega⟩]; omega) ?_
    refine nn_mk rfl ?_
    refine A'.setP fun w26 A26 hg => ?_
    have nb : ∀ {a : Addr}, a.block < w8.heap.size → some a.block ≠ some t.block := fun h e => by injection e; omega
    exact hag (c + 1) _ _ ⟨by omega, b2.grownAt hg (by omega), Y1.grown hg (nb (by omega)), Y3.grown hg (nb (by omega)), Y5.grown hg (nb (by omega)), Y7.grown hg (nb (by omega)), Tb', hR', ok', A26⟩ (by omega)
  refine nn_mk rfl ?_
  refine rd_box (by kernel_rfl) A.box rfl rfl ?_
  -- giving up
  have give : ∀ {w1 : World}, bel w w1 → Box w1 x3 [.slice none 0 0] → (∃ v, Box w1 x5 [v]) → Box w1 x7 [.int .i64 0] → RlxC up T rt ls hs pv → 
      wu Try.prog (Instr.storeAt 33 (.pointer (some x3)) (.slice none 0 0)) w1 fun w2 => wu Try.prog (Instr.storeAt 33 (.pointer (some x5)) (.slice none 0 0)) w2 fun w3 => wu Try.prog (Instr.storeAt 28 (.pointer (some x7)) (.int .i64 8)) w3 fun w' =>
        rd Try.prog (loadVar 33 x3) (.one .slice) w' fun (y3 : Hdr) => rd Try.prog (loadVar 33 x5) (.one .slice) w' fun (y5 : Hdr) => rd Try.prog (loadVar 28 x7) (.one (.int .i64)) w' fun (y7 : Int) =>
          ∃ x : Hdr × Hdr × Int × Unit, (Value.tuple #[.slice y3.1 y3.2.1 y3.2.2, .slice y5.1 y5.2.1 y5.2.2, .int .i64 y7]) = rRX.val x ∧ RlxR up T rt ls hs pv w x w' ∧ bel w w' := by
    intro w1 hb Y3 hY5 Y7 hC
    obtain ⟨v, Y5⟩ := hY5
    refine wu_box Y3 (by kernel_rfl) (Nat.le_refl 1) rfl fun w2 Z3 g2 _ => ?_
    refine wu_box (Y5.grown g2 (by intro e; injection e; omega)) (by kernel_rfl) (Nat.le_refl 1) rfl fun w3 Z5 g3 _ => ?_
    refine wu_box ((Y7.grown g2 (by intro e; injection e; omega)).grown g3 (by intro e; injection e; omega)) (by kernel_rfl) (Nat.le_refl 1) rfl fun w4 Z7 g4 _ => ?_
    exact out w4 (none, 0, 0) (none, 0, 0) 8 ((Z3.grown g3 (by intro e; injection e; omega)).grown g4 (by intro e; injection e; omega)) (Z5.grown g4 (by intro e; injection e; omega)) Z7 (.inr (.inr ⟨rfl, rfl, rfl, hC⟩))
      (((hb.grownAt g2 (by omega)).grownAt g3 (by omega)).grownAt g4 (by omega))
  have mkC : ∀ {Tb' : Go.Proofs.Ytajpdnphamomjaa.Tb}, Rch N T.length T0 c Tb' → TbOk N T.length Tb' → (pv < c ∨ (∃ row below k, Stp N T.length Tb' row below k ∧ ¬ MvFit N T.length Tb' row k (goal Tb' row below)) ∨ (∃ row below, Tb'.wr T.length = some (row, below) ∧ (∀ k, k < N → ¬ Tb'.can row below k) ∧ ¬ BndP up T rt ls hs ((mults up.length T.length Tb' row).map prQ))) → RlxC up T rt ls hs pv := by
    intro Tb' h1 h2 h3
    unfold RlxC
    rw [hN, hT0]
    exact .inr ⟨c, Tb', h1, h2, h3⟩
  refine br_dec (fun hcp => ?_) (fun hcp => ?_)
  · exact give b18 X3 ⟨_, X5⟩ X7 (mkC hRch ok (.inl (by omega)))
  have hcp' : c ≤ pv := by omega
  refine callP_of (call_mono (wrongF A ok) fun x35 w36 q => ?_)
  obtain ⟨rfl, h36⟩ := q
  have A36 := A.up h36
  have b36 := b18.trans h36
  replace X1 := X1.up h36
  replace X3 := X3.up h36
  replace X5 := X5.up h36
  replace X7 := X7.up h36
  have t36 := A36.box.lt
  cases hw : Tb.wr T.length with
  | none =>
    refine br_t rfl ?_
    refine nn_mk rfl ?_
    refine rd_box (by kernel_rfl) A36.box rfl rfl ?_
    have SV := A36.hvl.sl
    have hvn := slQ_len SV
    rw [ok.lv] at hvn
    refine sl_to tyFracs (m := up.length) (by dsimp only; omega) (by have := SV.cap; dsimp only; omega) ?_
    obtain ⟨va, hva⟩ : ∃ a, H.v.1 = some a := by
      cases e : H.v.1 with
      | none => have := (SV.nil' e).1; omega
      | some a => exact ⟨a, rfl⟩
    have ST := sl_take SV (m := up.length) (by omega) hn1
    rw [hva] at ST ⊢
    refine callP_of (call_mono (cloneQ ST hn1 (show up.length ≤ 100000 by omega)) fun (x40 : Hdr) w41 q => ?_)
    obtain ⟨O40, h41⟩ := q
    refine wu_box (X3.up h41) (by kernel_rfl) (Nat.le_refl 1) rfl fun w42 Z3 g2 _ => ?_
    refine wu_box ((X5.up h41).grown g2 (by intro e; injection e; omega)) (by kernel_rfl) (Nat.le_refl 1) rfl fun w43 Z5 g3 _ => ?_
    refine wu_box (((X7.up h41).grown g2 (by intro e; injection e; omega)).grown g3 (by intro e; injection e; omega)) (by kernel_rfl) (Nat.le_refl 1) rfl fun w44 Z7 g4 _ => ?_
    have s36 := b36.size
    refine out w44 x40 (none, 0, 0) 0 ((Z3.grown g3 (by intro e; injection e; omega)).grown g4 (by intro e; injection e; omega)) (Z5.grown g4 (by intro e; injection e; omega)) Z7 (.inl ⟨rfl, rfl, c, Tb, ?_, ?_, hw, ?_⟩)
      ((((b36.trans h41).grownAt g2 (by omega)).grownAt g3 (by omega)).grownAt g4 (by omega))
    · rw [hN, hT0]; exact hRch
    · rw [hN]; exact ok
    · exact own_mono (own_box (own_box (own_box O40 g2 (by omega)) g3 (by omega)) g4 (by omega)) (by omega)
  | some pr =>
    obtain ⟨row, below⟩ := pr
    have hr : row < T.length := wr_lt hw
    refine br_f (decide_eq_false (by show ¬ ((row : Int) < 0); omega)) ?_
    refine A36.bas_at ok (i := wri (some (row, below))) rfl hr ?_
    refine callP_of (call_mono (helperF A36 ok hr below) fun (x52 : Int) w53 q => ?_)
    obtain ⟨hx52, h53⟩ := q
    have A53 := A36.up h53
    have b53 := b36.trans h53
    replace X1 := X1.up h53
    replace X3 := X3.up h53
    replace X5 := X5.up h53
    replace X7 := X7.up h53
    have hbr := ok.b_lt hr
    refine br_dec (fun hge => ?_) (fun hge => ?_)
    · obtain ⟨k, hk, rfl, hcan, hleast⟩ : ∃ k : Nat, k < N ∧ x52 = (k : Int) ∧ Tb.can row below k ∧ ∀ k', k' < k → ¬ Tb.can row below k' := by
        rcases hx52 with ⟨h, _⟩ | h
        · omega
        · exact h
      refine A53.high_at ok rfl hbr ?_
      refine boxF fun x58 w60 h60 X58 n58 => ?_
      have A60 := A53.up h60
      have b60 := b53.trans h60
      replace X58 : Box w60 x58 (encQ (Tb.hi (Tb.b row))) := X58
      have s53 := b53.size
      have t53 := A53.box.lt
      refine join_mk (fun _ w' => Box w' x58 (encQ (goal Tb row below)) ∧ bel w53 w') (fun K61 hK61 => ?_) (fun x w63 q => ?_)
      case refine_2 =>
        obtain ⟨Y58, h63⟩ := q
        intro _
        refine rd_boxN Y58 (by kernel_rfl) rfl ?_
        have A63 := A53.up h63
        have fg : Fits (goal Tb row below) := by
          unfold goal; split
          · exact ok.lo_fit hbr
          · exact ok.hi_fit hbr
        have hst : Stp N T.length Tb row below k := ⟨hw, hk, hcan, hleast⟩
        refine callP_mono (moveF A63 ok hr hk hcan.1 fg) (fun x w66 q => ?_) (fun ch w' q => ?_)
        · obtain ⟨A66, ok66, hX⟩ := q
          obtain ⟨e1, e2, e3, e4, e5⟩ := keep (b53.trans h63) (X1.up h63) (X3.up h63) (X5.up h63) (X7.up h63) hX
          exact hK _ _ ⟨hcp', e1, e2, e3, e4, e5, _, .step hRch ok hst, ok66, A66⟩
        · obtain ⟨hmf, e0, hX⟩ := q
          obtain ⟨e1, e2, e3, e4, e5⟩ := keep (b53.trans h63) (X1.up h63) (X3.up h63) (X5.up h63) (X7.up h63) hX
          rw [← hPn]
          exact ⟨e0, mkC hRch ok (.inr (.inl ⟨row, below, k, hst, hmf⟩)), ⟨_, _, _, e3, e4, e5⟩, e1⟩
      refine br_mk (fun hbl => ?_) (fun hbl => ?_)
      · refine A60.low_at ok rfl hbr ?_
        refine wu_box X58 (by kernel_rfl) (Nat.le_refl 2) rfl fun w71 Y58 hg71 _ => ?_
        refine hK61 _ _ ⟨?_, h60.grownAt hg71 n58⟩
        have hbl' : below = true := hbl
        unfold goal
        rw [if_pos hbl']
        exact Y58
      · refine hK61 _ _ ⟨?_, h60⟩
        have hbl' : below = false := hbl
        unfold goal
        rw [if_neg (by rw [hbl']; exact Bool.false_ne_true)]
        exact X58
    · have hno : ∀ k, k < N → ¬ Tb.can row below k := by
        rcases hx52 with ⟨_, h⟩ | ⟨k, _, h, _⟩
        · exact h
        · omega
      have s53 := b53.size
      have t53 := A53.box.lt
      have hml : (mults up.length T.length Tb row).length = T.length := by simp [mults]
      have hmg : ∀ i, i < T.length → (mults up.length T.length Tb row)[i]? = some (if Tb.b row = up.length + i then 1 else 0 + -(Tb.a row (up.length + i))) := fun i h => by
        unfold mults; rw [List.getElem?_map, List.getElem?_range h]; rfl
      have f0 : Fits (0 : Rat) := fits_of_int (n := 0) ⟨by omega, by omega⟩
      have hmf : ∀ q ∈ mults up.length T.length Tb row, Fits q := by
        intro q hq
        obtain ⟨i, hi, rfl⟩ := List.mem_map.1 hq
        have := List.mem_range.1 hi
        split
        · exact fits_of_int (n := 1) ⟨by omega, by omega⟩
        · exact fits_neg (ok.a_fit hr (by omega))
      refine rd_box (by kernel_rfl) X1 rfl rfl ?_
      refine loop_up T.length (fun i w' => bel w w' ∧ w53.heap.size ≤ w'.heap.size ∧ TabAt w' t H (c : Int) Tb ∧ Box w' x1 (sysc u r b) ∧ Box w' x3 [.slice none 0 0] ∧ Box w' x7 [.int .i64 0] ∧ ∃ mh : Hdr, Box w' x5 [.slice mh.1 mh.2.1 mh.2.2] ∧ OwnQ w' w53.heap.size mh ((mults up.length T.length Tb row).take i))
        ⟨b53, Nat.le_refl _, A53, X1, X3, X7, (none, 0, 0), X5, Own.nil _ _ _ _⟩ ?_
      have ob : ∀ (i : Nat) h k, (H.l :: H.h :: H.v :: H.s)[i]? = some h → blk h.1 = some k → k < w53.heap.size := fun i h k e1 e2 => by
        have hi' := (List.getElem?_eq_some_iff.1 e1).1
        exact ((A53.fs.own i h _ e1 (by rw [List.getElem?_eq_getElem (by rw [← A53.fs.len]; exact hi')])).lt _ e2).2
      have obB : ∀ k, blk H.b.1 = some k → k < w53.heap.size := fun k hk => (A53.bs.lt k hk).2
      have obR : ∀ k, blk H.r.1 = some k → k < w53.heap.size := fun k hk => (A53.rs.lt k hk).2
      clear A53 X1 X3 X5 X7 A36 A
      rintro i w75 hiT' ⟨b75, s75, A75, X1, X3, X7, mh, X5, O75⟩ again2 hag2 _
      refine br_dec (fun hlt => ?_) (fun hge => ?_)
      · have hiM : i < T.length := by dsimp only at hlt; omega
        refine join_mk (fun _ w' => bel w w' ∧ w53.heap.size ≤ w'.heap.size ∧ TabAt w' t H (c : Int) Tb ∧ Box w' x1 (sysc u r b) ∧ Box w' x3 [.slice none 0 0] ∧ Box w' x7 [.int .i64 0] ∧ ∃ mh : Hdr, Box w' x5 [.slice mh.1 mh.2.1 mh.2.2] ∧ OwnQ w' w53.heap.size mh ((mults up.length T.length Tb row).take (i + 1))) (fun K76 hK2 => ?_) (fun x w2 q => ?_)
        case refine_2 =>
          intro _
          refine z_eq (by exact IntWalk.i64_in _ ⟨by dsimp only; omega, by dsimp only; omega⟩) ?_
          exact hag2 _ hiM q
        have hmi := hmg i hiM
        -- one more of them
        have more : ∀ {x : Rat} {ad : Addr} {w' : World}, (if Tb.b row = up.length + i then 1 else 0 + -(Tb.a row (up.length + i))) = x → bel w75 w' → Sl w' (some ad) 1 1 2 (encQ x) →
            wr Try.prog (Builtin.append_ #[33, 33] 33 #[.slice mh.1 mh.2.1 mh.2.2, .slice (some ad) 1 1]) (.one .slice) w' fun (y : Hdr) w1 => wu Try.prog (Instr.storeAt 33 (.pointer (some x5)) (.slice y.1 y.2.1 y.2.2)) w1 fun w2 => K76 () w2 := by
          intro x ad w' hx hb S
          have O := Own.kept O75 hb
          have hml' := slQ_len O.sl
          rw [List.length_take] at hml'
          have s' := hb.size
          refine wr_appX tyFracs O S (by omega) rfl (by omega) rfl (by omega) (hm11 (by omega)) (by omega) fun a' c' w1 O1 hg _ _ => ?_
          rw [app_enc] at O1
          have lo : ∀ k, blk mh.1 = some k → w53.heap.size ≤ k := fun k hk => (O.lt k hk).1
          have nb : ∀ {a : Addr}, a.block < w53.heap.size → some a.block ≠ blk mh.1 := fun h e => by have := lo _ e.symm; omega
          have A1 : TabAt w1 t H (c : Int) Tb := by
            have A' := A75.up hb
            refine ⟨A'.box.grown hg (nb (by omega)), A'.fs.keep hg fun i h k e1 e2 e3 => ?_, A'.bs.keptBy hg ?_, A'.rs.keptBy hg ?_⟩
            · have := ob i h k e1 e2; have := lo k e3; omega
            · cases hb2 : blk H.b.1 with
              | none => exact .inl rfl
              | some k => exact .inr fun e => by have := obB k hb2; have := lo k e.symm; omega
            · cases hb2 : blk H.r.1 with
              | none => exact .inl rfl
              | some k => exact .inr fun e => by have := obR k hb2; have := lo k e.symm; omega
          refine wu_box ((X5.up hb).grown hg (nb (by omega))) (by kernel_rfl) (Nat.le_refl 1) rfl fun w2 Z5 g2 _ => ?_
          have ne : ∀ {a : Addr}, a.block ≠ x5.block → some a.block ≠ some x5.block := fun h e => h (by injection e)
          refine hK2 _ _ ⟨(Xb.bel (b75.trans hb) (Xb.of (S := fun k => w53.heap.size ≤ k) hg lo) (fun k hk => by omega)).grownAt g2 (by omega), by have := hg.size; have := g2.size; omega, A1.xo (Xb.of g2 fun k e => by injection e with e; exact e.symm) (by omega),
            ((X1.up hb).grown hg (nb (by omega))).grown g2 (ne (by omega)), ((X3.up hb).grown hg (nb (by omega))).grown g2 (ne (by omega)), ((X7.up hb).grown hg (nb (by omega))).grown g2 (ne (by omega)), (a', mh.2.1 + 1, c'), Z5, ?_⟩
          rw [List.take_add_one, hmi, hx]
          exact own_box O1 g2 (by omega)
        refine z_eq (m := ((up.length + i : Nat) : Int)) (by rw [IntWalk.i64_in _ ⟨by dsimp only; omega, by dsimp only; omega⟩]; dsimp only; omega) ?_
        refine br_eq (fun hb0 => ?_) (fun hb0 => ?_)
        · refine drw_mk fun w81 h81 _ => ?_
          refine flEx_mk (fun q _ v w' => (q = 1 → v = fracv (1 : Rat).num (1 : Rat).den) ∧ (q = 2 → ∃ ad, v = .slice (some ad) 1 1 ∧ Sl w' (some ad) 1 1 2 (encQ 1))) (fun _ _ _ _ _ q hb => ⟨q.1, fun e => by obtain ⟨ad, h1, h2⟩ := q.2 e; exact ⟨ad, h1, h2.up hb⟩⟩) ?_
          refine rd_box0 (by kernel_rfl) (X5.up h81) rfl rfl ?_
          refine flc_mk (fun w84 h84 _ => ?_) fun x88 => ?_
          · exact callP_of (call_mono (lWhole 1 w84) fun x w' q => ⟨q.2, ⟨fun _ => by rw [q.1]; rfl, fun e => absurd e (by decide)⟩⟩)
          refine flc_mk (fun w89 h89 q => ?_) fun x93 => ?_
          · have ev := agg_qv (q.1.1 rfl)
            subst ev
            refine litQ fun ad w'' S1 hb hbl hs => ?_
            exact ⟨hb, fun e => absurd e (by decide), fun _ => ⟨ad, rfl, S1⟩⟩
          refine flend_mk fun w94 h94 q => ?_
          obtain ⟨ad, ev, S1⟩ := q.1.2 rfl
          obtain rfl : x93 = (some ad, 1, 1) := hv_inj ev
          have eb : Tb.b row = up.length + i := Int.ofNat_inj.1 hb0
          exact more (if_pos eb) (h81.trans h94) S1
        · refine drw_mk fun w99 h99 _ => ?_
          have hnb : ¬ Tb.b row = up.length + i := fun e => hb0 (by rw [e])
          refine flEx_mk (fun q _ v w' => (q = 1 → v = fracv (0 : Rat).num (0 : Rat).den) ∧ (q = 14 → v = fracv (0 + -(Tb.a row (up.length + i))).num (0 + -(Tb.a row (up.length + i))).den) ∧ (q = 15 → ∃ ad, v = .slice (some ad) 1 1 ∧ Sl w' (some ad) 1 1 2 (encQ (0 + -(Tb.a row (up.length + i))))))
            (fun _ _ _ _ _ q hb => ⟨q.1, q.2.1, fun e => by obtain ⟨ad, h1, h2⟩ := q.2.2 e; exact ⟨ad, h1, h2.up hb⟩⟩) ?_
          refine rd_box0 (by kernel_rfl) (X5.up h99) rfl rfl ?_
          refine flc_mk (fun w84 h84 _ => ?_) fun x106 => ?_
          · exact callP_of (call_mono (lWhole 0 w84) fun x w' q => ⟨q.2, ⟨fun _ => by rw [q.1]; rfl, fun e => absurd e (by decide), fun e => absurd e (by decide)⟩⟩)
          refine (A75.up h99).row_at ok (i := wri (some (row, below))) rfl hr fun g hg O110 => ?_
          refine z_eq (m := ((up.length + i : Nat) : Int)) (by rw [IntWalk.i64_in _ ⟨by dsimp only; omega, by dsimp only; omega⟩]; dsimp only; omega) ?_
          refine atQ O110.sl rfl (ok.el_get hr (by omega)) ?_
          refine flc_mk (fun w114 h114 q => ?_) fun x118 => ?_
          · have ev := agg_qv (q.1.1 rfl)
            subst ev
            refine callP_mono (lSub w114 f0 (ok.a_fit hr (by omega))) (fun x w' q => ⟨q.2.2, ⟨fun e => absurd e (by decide), fun _ => by rw [q.1]; rfl, fun e => absurd e (by decide)⟩⟩) (fun ch w' q => absurd (fits_neg (ok.a_fit hr (by omega))) q.1)
          refine flc_mk (fun w119 h119 q => ?_) fun x123 => ?_
          · have ev := agg_qv (q.1.2.1 rfl)
            subst ev
            refine litQ fun ad w'' S1 hb hbl hs => ?_
            exact ⟨hb, fun e => absurd e (by decide), fun e => absurd e (by decide), fun _ => ⟨ad, rfl, S1⟩⟩
          refine flend_mk fun w124 h124 q => ?_
          obtain ⟨ad, ev, S1⟩ := q.1.2.2 rfl
          obtain rfl : x123 = (some ad, 1, 1) := hv_inj ev
          exact more (if_neg hnb) (h99.trans h124) S1
      have hiM : i = T.length := by dsimp only at hge; omega
      rw [hiM, List.take_of_length_le (by rw [hml]; exact Nat.le_refl _)] at O75
      clear hag2 again2 hge
      refine rd_boxN X1 (by kernel_rfl) rfl ?_
      refine rd_box0 (by kernel_rfl) X5 rfl rfl ?_
      have SM := O75.sl
      have eM : (mults up.length T.length Tb row).flatMap encQ = ((mults up.length T.length Tb row).map prQ).flatMap encF := by rw [List.flatMap_map]
      rw [eM] at SM
      refine callP_of (call_mono (bndL u r b lo hi mh up T rt ls hs _ w75 (HS.up b75) SM (fun q hq => by
        obtain ⟨y, hy, rfl⟩ := List.mem_map.1 hq
        exact i64_fits (hmf y hy)) (HL.up b75) (HH.up b75)) fun (x131 : Bool) w132 q => ?_)
      obtain ⟨hbnd, h132⟩ := q
      have b132 := b75.trans h132
      refine br_not (fun hx => ?_) (fun hx => ?_)
      · exact give b132 (X3.up h132) ⟨_, X5.up h132⟩ (X7.up h132) (mkC hRch ok (.inr (.inr ⟨row, below, hw, hno, fun q => by rw [hbnd.2 q] at hx; cases hx⟩)))
      refine drw_mk fun w139 h139 _ => ?_
      have b139 := b132.trans h139
      have Y3 := (X3.up h132).up h139
      have Y5 := (X5.up h132).up h139
      have Y7 := (X7.up h132).up h139
      have OM := (Own.kept O75 h132).kept h139
      have s139 : w53.heap.size ≤ w139.heap.size := by have := h132.size; have := h139.size; omega
      refine flExE_mk (fun w1 w2 => Xb (fun k => k = x3.block) w1 w2 ∧ (Box w1 x3 [.slice none 0 0] → Box w2 x3 [.slice none 0 0])) (fun _ _ _ w' => Box w' x3 [.slice none 0 0]) (fun w1 => ⟨Xb.refl _ w1, id⟩) (fun _ _ _ p q => ⟨p.1.trans q.1, fun z => q.2 (p.2 z)⟩) (fun _ _ _ _ _ p q => q.2 p) ?_
      refine rdE_box0 (by kernel_rfl) (fun w' hE => Y5.xb hE.1 (by omega)) rfl rfl ?_
      refine flc_mk (fun w143 hE _ => ?_) fun _ => ?_
      · refine wu_box (hE.2 Y3) (by kernel_rfl) (Nat.le_refl 1) rfl fun w145 Z3 hg _ => ?_
        exact ⟨⟨Xb.of hg fun k e => by injection e with e; exact e.symm, fun _ => Z3⟩, Z3⟩
      refine flend_mk fun w147 hE q => ?_
      have Z3 : Box w147 x3 [.slice none 0 0] := q.1
      have Z5 := Y5.xb hE.1 (by omega)
      have Z7 := Y7.xb hE.1 (by omega)
      have b147 : bel w w147 := Xb.bel b139 hE.1 fun k hk => by omega
      have OM' := Own_xb OM hE.1 fun k hk q => by have := (OM.lt k hk).1; omega
      refine wu_box Z5 (by kernel_rfl) (Nat.le_refl 1) rfl fun w149 U5 g2 _ => ?_
      refine wu_box (Z7.grown g2 (by intro e; injection e; omega)) (by kernel_rfl) (Nat.le_refl 1) rfl fun w150 U7 g3 _ => ?_
      refine out w150 (none, 0, 0) mh 0 ((Z3.grown g2 (by intro e; injection e; omega)).grown g3 (by intro e; injection e; omega)) (U5.grown g3 (by intro e; injection e; omega)) U7 (.inr (.inl ⟨rfl, rfl, (by omega), mults up.length T.length Tb row, hml, ?_, hmf, hbnd.1 hx⟩)) ((b147.grownAt g2 (by omega)).grownAt g3 (by omega))
      exact own_mono (own_box (own_box OM' g2 (by omega)) g3 (by omega)) (by omega)
end Go.Proofs.Ytajpdnphamomjaa

/- Plain law: the move of a tableau is a pivot. -/

namespace Go.Proofs.Ytajpdnphamomjaa
open Go.RowKit Go.Q Go.Q.Num Go.V

theorem getD_set_in {l : List Rat} {i q : Nat} {x : Rat} (hq : q < l.length) : (l.set i x).getD q 0 = if i = q then x else l.getD q 0 := by
  rw [List.getD_eq_getElem?_getD, List.getD_eq_getElem?_getD]
  by_cases h : i = q
  · subst h; rw [List.getElem?_set_self hq, if_pos rfl]; rfl
  · rw [List.getElem?_set_ne h, if_neg h]
theorem divN_val {r : List Rat} {c : Rat} {q : Nat} (hq : q < r.length) : ∀ j, (divN r c j).getD q 0 = if q < j then 0 + -(r.getD q 0 / c) else r.getD q 0
  | 0 => rfl
  | j + 1 => by
    unfold divN
    split
    · rw [getD_set_in (by rw [divN_len]; exact hq), divN_val hq j]
      by_cases h : j = q
      · subst h; rw [if_pos rfl, if_pos (by omega)]
      · rw [if_neg h]
        by_cases h2 : q < j
        · rw [if_pos h2, if_pos (by omega)]
        · rw [if_neg h2, if_neg (by omega)]
    · rename_i h0
      rw [divN_val hq j]
      by_cases h : j = q
      · subst h
        have h0 : r.getD j 0 = 0 := Classical.not_not.1 h0
        rw [if_neg (by omega), if_pos (by omega), h0]; grind
      · by_cases h2 : q < j
        · rw [if_pos h2, if_pos (by omega)]
        · rw [if_neg h2, if_neg (by omega)]
theorem addN_val {r nr : List Rat} {c : Rat} {q : Nat} (hq : q < r.length) : ∀ j, (addN r c nr j).getD q 0 = if q < j then r.getD q 0 + c * nr.getD q 0 else r.getD q 0
  | 0 => rfl
  | j + 1 => by
    unfold addN
    split
    · rw [getD_set_in (by rw [addN_len]; exact hq), addN_val hq j]
      by_cases h : j = q
      · subst h; rw [if_pos rfl, if_pos (by omega), addN_val hq j, if_neg (by omega)]
      · rw [if_neg h]
        by_cases h2 : q < j
        · rw [if_pos h2, if_pos (by omega)]
        · rw [if_neg h2, if_neg (by omega)]
    · rename_i h0
      rw [addN_val hq j]
      by_cases h : j = q
      · subst h
        have h0 : nr.getD j 0 = 0 := Classical.not_not.1 h0
        rw [if_neg (by omega), if_pos (by omega), h0]; grind
      · by_cases h2 : q < j
        · rw [if_pos h2, if_pos (by omega)]
        · rw [if_neg h2, if_neg (by omega)]
section
variable {T : Tb} {N M row k : Nat} {to : Rat}
theorem nr_val (ok : TbOk N M T) (hr : row < M) {j : Nat} (hj : j < N) : (T.nr row k).getD j 0 = nrow T.a T.b row k j := by
  have hl := ok.row_len hr
  unfold Tb.nr nrow
  rw [hl, getD_set_in (by rw [List.length_set, divN_len, hl]; exact hj), getD_set_in (by rw [divN_len, hl]; exact hj), divN_val (by rw [hl]; exact hj), if_pos hj]
  by_cases h1 : j = T.b row
  · rw [if_pos h1.symm, if_pos h1]
  · rw [if_neg (fun e => h1 e.symm), if_neg h1]
    by_cases h2 : j = k
    · rw [if_pos h2.symm, if_pos h2]
    · rw [if_neg (fun e => h2 e.symm), if_neg h2]; rfl
theorem rN_val (ok : TbOk N M T) (hr : row < M) {q : Nat} (hq : q < M) : ∀ i, (T.rN row k i).getD q [] = if q = row then T.nr row k else if q < i ∧ T.a q k ≠ 0 then addN ((T.rows.getD q []).set k 0) (T.a q k) (T.nr row k) (T.nr row k).length else T.rows.getD q []
  | 0 => by
    show (T.rows.set row (T.nr row k)).getD q [] = _
    by_cases h : q = row
    · subst h; rw [getD_set (by rw [ok.lr]; exact hr), if_pos rfl]
    · rw [getD_set_ne' (fun e => h e.symm), if_neg h, if_neg (by omega)]
  | i + 1 => by
    unfold Tb.rN
    split
    · rename_i h0
      by_cases h : i = q
      · subst h
        rw [getD_set (by rw [rN_len, ok.lr]; exact hq), if_neg h0.1, if_pos ⟨by omega, h0.2⟩]
      · rw [getD_set_ne' h, rN_val ok hr hq i]
        by_cases h1 : q = row
        · rw [if_pos h1, if_pos h1]
        · rw [if_neg h1, if_neg h1]
          by_cases h2 : q < i ∧ T.a q k ≠ 0
          · rw [if_pos h2, if_pos ⟨by omega, h2.2⟩]
          · rw [if_neg h2, if_neg fun q => h2 ⟨by omega, q.2⟩]
    · rename_i h0
      rw [rN_val ok hr hq i]
      by_cases h1 : q = row
      · rw [if_pos h1, if_pos h1]
      · rw [if_neg h1, if_neg h1]
        by_cases h2 : q < i ∧ T.a q k ≠ 0
        · rw [if_pos h2, if_pos ⟨by omega, h2.2⟩]
        · rw [if_neg h2, if_neg fun q' => h2 ⟨by
            rcases Nat.lt_or_ge q i with h | h
            · exact h
            · have : q = i := by omega
              subst this; exact absurd ⟨h1, q'.2⟩ h0, q'.2⟩]
theorem move_a (ok : TbOk N M T) (hr : row < M) {i j : Nat} (hi : i < M) (hj : j < N) : (T.move row k to).a i j = nrows T.a T.b row k i j := by
  have hl := ok.row_len hi
  show ((T.rN row k T.rows.length).getD i []).getD j 0 = _
  rw [rN_val ok hr hi, ok.lr]
  unfold nrows
  by_cases h : i = row
  · rw [if_pos h, if_pos h]; exact nr_val ok hr hj
  · rw [if_neg h, if_neg h, ← nr_val ok hr hj]
    by_cases h2 : T.a i k = 0
    · rw [if_neg fun q => q.2 h2, h2]
      show T.a i j = _
      by_cases h3 : j = k
      · subst h3; rw [if_pos rfl, h2]; grind
      · rw [if_neg h3]; grind
    · rw [if_pos ⟨hi, h2⟩, addN_val (by rw [List.length_set, hl]; exact hj), nr_len, ok.row_len hr, if_pos hj, getD_set_in (by rw [hl]; exact hj)]
      by_cases h3 : j = k
      · rw [if_pos h3.symm, if_pos h3]
      · rw [if_neg (fun e => h3 e.symm), if_neg h3]; rfl
theorem move_b (ok : TbOk N M T) {i : Nat} (hi : i < M) : (T.move row k to).b i = nbas T.b row k i := by
  show (T.bas.set row k).getD i 0 = _
  unfold nbas
  rw [List.getD_eq_getElem?_getD]
  by_cases h : i = row
  · subst h; rw [List.getElem?_set_self (by rw [ok.lb]; exact hi), if_pos rfl]; rfl
  · rw [List.getElem?_set_ne (fun e => h e.symm), if_neg h]; exact (List.getD_eq_getElem?_getD ..).symm
theorem vN_other {q : Nat} : ∀ {i : Nat}, (∀ i', i' < i → i' ≠ row → T.b i' ≠ q) → (T.vN row k to i).getD q 0 = (T.v0 row k to).getD q 0
  | 0, _ => rfl
  | i + 1, h => by
    unfold Tb.vN
    split
    · rename_i h0
      rw [List.getD_eq_getElem?_getD, List.getElem?_set_ne (h i (by omega) h0.1), ← List.getD_eq_getElem?_getD]
      exact vN_other fun i' h1 h2 => h i' (by omega) h2
    · exact vN_other fun i' h1 h2 => h i' (by omega) h2
theorem vN_hit (ok : TbOk N M T) (inj : ∀ i i', i < M → i' < M → T.b i = T.b i' → i = i') {q : Nat} (hq : q ≠ row) : ∀ {i : Nat}, q < i → i ≤ M → (T.vN row k to i).getD (T.b q) 0 = (T.v0 row k to).getD (T.b q) 0 + T.a q k * T.by row k to
  | 0, h, _ => by omega
  | i + 1, h, hM => by
    have hb := ok.b_lt (i := q) (by omega)
    have hl : (T.vN row k to i).length = N := by rw [vN_len, ok.lv]
    by_cases hqi : i = q
    · subst hqi
      have ho : (T.vN row k to i).getD (T.b i) 0 = (T.v0 row k to).getD (T.b i) 0 := vN_other fun i' h1 _ e => by have := inj i' i (by omega) (by omega) e; omega
      unfold Tb.vN
      split
      · rw [getD_set_in (by rw [hl]; exact hb), if_pos rfl, ho]
      · rename_i h0
        have h0 : T.a i k = 0 := Classical.byContradiction fun e => h0 ⟨hq, e⟩
        rw [ho, h0]; grind
    · have ih := vN_hit ok inj hq (i := i) (by omega) (by omega)
      unfold Tb.vN
      split
      · rw [getD_set_in (by rw [hl]; exact hb), if_neg (fun e => hqi (inj i q (by omega) (by omega) e)), ih]
      · exact ih
theorem v0_val (ok : TbOk N M T) {q : Nat} (hq : q < N) : (T.v0 row k to).getD q 0 = if k = q then T.v k + T.by row k to else if T.b row = q then to else T.v q := by
  unfold Tb.v0
  rw [getD_set_in (by rw [List.length_set, ok.lv]; exact hq), getD_set_in (by rw [ok.lv]; exact hq)]; rfl
theorem move_v (ok : TbOk N M T) (inj : ∀ i i', i < M → i' < M → T.b i = T.b i' → i = i') (hr : row < M) (hk : k < N) (hkb : ∀ i, i < M → T.b i ≠ k) : Moved M T.a T.v T.b row k to (T.move row k to).v := by
  have e : ∀ q, (T.move row k to).v q = (T.vN row k to M).getD q 0 := fun q => by
    show (T.vN row k to T.bas.length).getD q 0 = _
    rw [ok.lb]
  refine ⟨?_, ?_, fun i hi hir => ?_, fun j hjk hj => ?_⟩
  · rw [e, vN_other fun i' h1 h2 e => h2 (inj i' row h1 hr e), v0_val ok (ok.b_lt hr), if_neg (fun e => hkb row hr e.symm), if_pos rfl]
  · rw [e, vN_other fun i' h1 _ => hkb i' h1, v0_val ok hk, if_pos rfl]; rfl
  · rw [e, vN_hit ok inj hir hi (Nat.le_refl _), v0_val ok (ok.b_lt hi), if_neg (fun e => hkb i hi e.symm), if_neg (fun e => hir (inj row i hr hi e).symm)]; rfl
  · rw [e, vN_other fun i' h1 _ => hj i' h1]
    by_cases hjN : j < N
    · rw [v0_val ok hjN, if_neg (fun e => hjk e.symm), if_neg (hj row hr)]
    · unfold Tb.v0 Tb.v
      rw [List.getD_eq_getElem?_getD, List.getElem?_eq_none (by simp [ok.lv]; omega), List.getD_eq_getElem?_getD, List.getElem?_eq_none (by rw [ok.lv]; omega)]
end
theorem TI.congr {N M : Nat} {a0 : Nat → Nat → Rat} {b0 : Nat → Nat} {lo hi : Nat → Rat} {a a' : Nat → Nat → Rat} {v : Nat → Rat} {b b' : Nat → Nat} (I : TI N M a0 b0 lo hi a v b)
    (ha : ∀ i j, i < M → j < N → a' i j = a i j) (hb : ∀ i, i < M → b' i = b i) : TI N M a0 b0 lo hi a' v b' := by
  have hs : ∀ y, Sat N M a' b' y ↔ Sat N M a b y := by
    intro y
    have e : ∀ i, i < M → sm (fun j => a' i j * y j) N = sm (fun j => a i j * y j) N := fun i hi => sm_congr fun j hj => by rw [ha i j hi hj]
    constructor
    · intro h i hi; rw [← hb i hi, ← e i hi]; exact h i hi
    · intro h i hi; rw [hb i hi, e i hi]; exact h i hi
  refine ⟨fun i i' hi hi' e => I.inj i i' hi hi' (by rw [← hb i hi, ← hb i' hi']; exact e), fun i hi => by rw [hb i hi]; exact I.lt i hi, fun i i' hi hi' => ?_, fun y => (hs y).trans (I.eqv y), (hs v).2 I.sat, fun j hj h => I.bnd j hj fun i hi => by rw [← hb i hi]; exact h i hi⟩
  rw [hb i' hi', ha i _ hi (I.lt i' hi')]
  exact I.z i i' hi hi'
abbrev TbI (N M : Nat) (a0 : Nat → Nat → Rat) (b0 : Nat → Nat) (T : Tb) : Prop := TI N M a0 b0 T.lo T.hi T.a T.v T.b
theorem TbI.move {N M : Nat} {a0 : Nat → Nat → Rat} {b0 : Nat → Nat} {T : Tb} (I : TbI N M a0 b0 T) (ok : TbOk N M T) {row k : Nat} {to : Rat} (hr : row < M) (hk : k < N) (hc : T.a row k ≠ 0) (hto : T.lo (T.b row) ≤ to ∧ to ≤ T.hi (T.b row)) : TbI N M a0 b0 (T.move row k to) := by
  have hkb : ∀ i, i < M → T.b i ≠ k := fun i hi e => hc (by rw [← e]; exact I.z row i hr hi)
  exact (TI.pivot I hr hk hc (move_v ok I.inj hr hk hkb) hto).congr (fun i j hi hj => move_a ok hr hi hj) fun i hi => move_b ok hi
end Go.Proofs.Ytajpdnphamomjaa

/- Plain law: what Relax finds is a solution. -/


namespace Go.Proofs.Ytajpdnphamomjaa
open Go.RowKit Go.Q Go.Q.Num Go.V

section
variable {up : List Int} {T : List (List Int)} {rt ls hs : List Int}
theorem getD_some {α : Type} {l : List α} {i : Nat} {x d : α} (h : l[i]? = some x) : l.getD i d = x := by rw [List.getD_eq_getElem?_getD, h]; rfl
theorem tb0_a {i j : Nat} {row : List Int} (hrow : T[i]? = some row) (hj : j < row.length + T.length) : (tb0 up T rt ls hs T.length).a i j = ((row.getD j 0 : Int) : Rat) := by
  unfold Tb.a tb0
  dsimp only
  rw [getD_some (x := rowQ T.length row) (by rw [List.take_length, List.getElem?_map, hrow]; rfl)]
  exact getD_some (rowQ_get hj)
theorem tb0_b {i : Nat} (hi : i < T.length) : (tb0 up T rt ls hs T.length).b i = up.length + i := by
  unfold Tb.b tb0
  exact getD_some (by rw [List.getElem?_map, List.getElem?_range hi]; rfl)
theorem q1_get {l : List Int} {j : Nat} {x : Int} (h : l[j]? = some x) : (q1 l)[j]? = some (x : Rat) := by unfold q1; rw [List.getElem?_map, h]; rfl
theorem q1_len (l : List Int) : (q1 l).length = l.length := by simp [q1]
theorem tb0_lo {j : Nat} {x : Int} (h : ls[j]? = some x) : (tb0 up T rt ls hs T.length).lo j = (x : Rat) := by
  unfold Tb.lo tb0
  exact getD_some (by rw [List.getElem?_append_left (by rw [q1_len]; exact (List.getElem?_eq_some_iff.1 h).1), q1_get h])
theorem tb0_hi {j : Nat} {x : Int} (h : hs[j]? = some x) : (tb0 up T rt ls hs T.length).hi j = (x : Rat) := by
  unfold Tb.hi tb0
  exact getD_some (by rw [List.getElem?_append_left (by rw [q1_len]; exact (List.getElem?_eq_some_iff.1 h).1), q1_get h])
theorem tb0_v {j : Nat} {x : Int} (h : ls[j]? = some x) : (tb0 up T rt ls hs T.length).v j = (x : Rat) := by
  unfold Tb.v tb0
  exact getD_some (by rw [List.getElem?_append_left (by rw [q1_len]; exact (List.getElem?_eq_some_iff.1 h).1), q1_get h])
theorem tb0_lob {i : Nat} {y : Int} (hll : ls.length = up.length) (hrt : rt.length = T.length) (h : rt[i]? = some y) : (tb0 up T rt ls hs T.length).lo (up.length + i) = (y : Rat) := by
  unfold Tb.lo tb0
  exact getD_some (by rw [List.getElem?_append_right (by rw [q1_len]; omega), q1_len, hll, Nat.add_sub_cancel_left, ← hrt, List.take_length, q1_get h])
theorem tb0_hib {i : Nat} {y : Int} (hhl : hs.length = up.length) (hrt : rt.length = T.length) (h : rt[i]? = some y) : (tb0 up T rt ls hs T.length).hi (up.length + i) = (y : Rat) := by
  unfold Tb.hi tb0
  exact getD_some (by rw [List.getElem?_append_right (by rw [q1_len]; omega), q1_len, hhl, Nat.add_sub_cancel_left, ← hrt, List.take_length, q1_get h])
theorem tb0_vb {i : Nat} {row : List Int} (hll : ls.length = up.length) (h : T[i]? = some row) : (tb0 up T rt ls hs T.length).v (up.length + i) = sumQ row ls up.length := by
  unfold Tb.v tb0
  exact getD_some (by rw [List.getElem?_append_right (by rw [q1_len]; omega), q1_len, hll, Nat.add_sub_cancel_left, List.take_length, List.getElem?_map, h]; rfl)
theorem sumQ_sm (row ls : List Int) : ∀ k, sumQ row ls k = sm (fun j => ((row.getD j 0 : Int) : Rat) * ((ls.getD j 0 : Int) : Rat)) k
  | 0 => rfl
  | k + 1 => by
    show (if row.getD k 0 ≠ 0 then sumQ row ls k + ((row.getD k 0 : Int) : Rat) * ((ls.getD k 0 : Int) : Rat) else sumQ row ls k) = sm (fun j => ((row.getD j 0 : Int) : Rat) * ((ls.getD j 0 : Int) : Rat)) k + ((row.getD k 0 : Int) : Rat) * ((ls.getD k 0 : Int) : Rat)
    rw [← sumQ_sm row ls k]
    split
    · rfl
    · rename_i h
      have h0 : row.getD k 0 = 0 := Classical.not_not.1 h
      rw [h0]
      show sumQ row ls k = sumQ row ls k + (0 : Rat) * _
      grind
theorem sm_ext {f : Nat → Rat} {n : Nat} : ∀ m, (∀ j, n ≤ j → j < n + m → f j = 0) → sm f (n + m) = sm f n
  | 0, _ => rfl
  | m + 1, h => by
    show sm f (n + m) + f (n + m) = sm f n
    rw [sm_ext m fun j h1 h2 => h j h1 (by omega), h (n + m) (by omega) (by omega)]; grind
theorem tb0_I (hA : SysA up T rt) (hll : ls.length = up.length) (hhl : hs.length = up.length) (hle : ∀ (k : Nat) a b, ls[k]? = some a → hs[k]? = some b → a ≤ b) :
    TbI (up.length + T.length) T.length (tb0 up T rt ls hs T.length).a (tb0 up T rt ls hs T.length).b (tb0 up T rt ls hs T.length) := by
  have row : ∀ i, i < T.length → ∃ row, T[i]? = some row ∧ row.length = up.length := fun i hi => ⟨_, List.getElem?_eq_getElem hi, hA.2 _ (List.getElem_mem hi)⟩
  refine ⟨fun i i' hi hi' e => ?_, fun i hi => ?_, fun i i' hi hi' => ?_, fun _ => Iff.rfl, fun i hi => ?_, fun j hj hn => ?_⟩
  · rw [tb0_b hi, tb0_b hi'] at e; omega
  · rw [tb0_b hi]; omega
  · obtain ⟨r, h1, h2⟩ := row i hi
    rw [tb0_b hi', tb0_a h1 (by omega), List.getD_eq_getElem?_getD, List.getElem?_eq_none (by omega)]; rfl
  · obtain ⟨r, h1, h2⟩ := row i hi
    rw [tb0_b hi, tb0_vb hll h1, sumQ_sm]
    refine (sm_ext (n := up.length) T.length (fun j hj1 hj2 => ?_)).symm.trans (sm_congr fun j hj => ?_) |>.trans rfl
    · rw [List.getD_eq_getElem?_getD (l := r), List.getElem?_eq_none (by omega)]
      show (0 : Rat) * _ = 0
      grind
    · rw [tb0_a h1 (by omega)]
      by_cases hjn : j < up.length
      · obtain ⟨x, hx⟩ : ∃ x, ls[j]? = some x := ⟨_, List.getElem?_eq_getElem (by omega)⟩
        rw [tb0_v hx, getD_some hx]
      · rw [List.getD_eq_getElem?_getD (l := r), List.getElem?_eq_none (by omega)]
        show (0 : Rat) * _ = (0 : Rat) * _
        grind
  · have hjn : j < up.length := by
      rcases Nat.lt_or_ge j up.length with h | h
      · exact h
      · exact absurd (by rw [tb0_b (by omega)]; omega) (hn (j - up.length) (by omega))
    obtain ⟨x, hx⟩ : ∃ x, ls[j]? = some x := ⟨_, List.getElem?_eq_getElem (by omega)⟩
    obtain ⟨y, hy⟩ : ∃ x, hs[j]? = some x := ⟨_, List.getElem?_eq_getElem (by omega)⟩
    rw [tb0_lo hx, tb0_hi hy, tb0_v hx]
    exact ⟨Rat.le_refl, Rat.intCast_le_intCast.2 (hle j x y hx hy)⟩
theorem Rch.inv {N M : Nat} {T0 : Tb} (I0 : TbI N M T0.a T0.b T0) (hlh : ∀ j, j < N → T0.lo j ≤ T0.hi j) {c : Nat} {B : Tb} (h : Rch N M T0 c B) : TbI N M T0.a T0.b B ∧ B.low = T0.low ∧ B.high = T0.high := by
  induction h with
  | zero => exact ⟨I0, rfl, rfl⟩
  | step hR ok hs ih =>
    rename_i c B row k below
    obtain ⟨I, e1, e2⟩ := ih
    have hr : row < M := wr_lt hs.1
    have hb := ok.b_lt hr
    have hl : B.lo (B.b row) ≤ B.hi (B.b row) := by
      have := hlh _ hb
      unfold Tb.lo Tb.hi at *
      rw [e1, e2]; exact this
    refine ⟨TbI.move I ok hr hs.2.1 hs.2.2.1.1 ?_, e1, e2⟩
    unfold goal
    split
    · exact ⟨Rat.le_refl, hl⟩
    · exact ⟨hl, Rat.le_refl⟩
theorem wr_none {T : Tb} : ∀ {M : Nat}, T.wr M = none → ∀ i, i < M → T.lo (T.b i) ≤ T.v (T.b i) ∧ T.v (T.b i) ≤ T.hi (T.b i)
  | 0, _, i, hi => by omega
  | M + 1, h, i, hi => by
    rw [wr_succ] at h
    split at h
    · split at h
      · cases h
      · split at h <;> cases h
    · rename_i hn
      by_cases him : i = M
      · subst him
        exact ⟨Rat.not_lt.1 fun q => hn (.inl q), Rat.not_lt.1 fun q => hn (.inr q)⟩
      · exact wr_none h i (by omega)
theorem rlx_sol (hA : SysA up T rt) (hll : ls.length = up.length) (hhl : hs.length = up.length) (hle : ∀ (k : Nat) a b, ls[k]? = some a → hs[k]? = some b → a ≤ b) {c : Nat} {B : Tb}
    (hR : Rch (up.length + T.length) T.length (tb0 up T rt ls hs T.length) c B) (hw : B.wr T.length = none) :
    (∀ (k : Nat) a b, ls[k]? = some a → hs[k]? = some b → (a : Rat) ≤ B.v k ∧ B.v k ≤ (b : Rat)) ∧ (∀ (i : Nat) row y, T[i]? = some row → rt[i]? = some y → sm (fun j => B.v j * ((row.getD j 0 : Int) : Rat)) up.length = (y : Rat)) := by
  have I0 := tb0_I hA hll hhl hle
  have hlh : ∀ j, j < up.length + T.length → (tb0 up T rt ls hs T.length).lo j ≤ (tb0 up T rt ls hs T.length).hi j := fun j hj => by
    rcases Nat.lt_or_ge j up.length with h | h
    · obtain ⟨x, hx⟩ : ∃ x, ls[j]? = some x := ⟨_, List.getElem?_eq_getElem (by omega)⟩
      obtain ⟨y, hy⟩ : ∃ x, hs[j]? = some x := ⟨_, List.getElem?_eq_getElem (by omega)⟩
      rw [tb0_lo hx, tb0_hi hy]
      exact Rat.intCast_le_intCast.2 (hle j x y hx hy)
    · obtain ⟨y, hy⟩ : ∃ x, rt[j - up.length]? = some x := ⟨_, List.getElem?_eq_getElem (by have := hA.1; omega)⟩
      have e1 := tb0_lob (T := T) (hs := hs) hll hA.1 hy
      have e2 := tb0_hib (T := T) (ls := ls) hhl hA.1 hy
      rw [show up.length + (j - up.length) = j by omega] at e1 e2
      rw [e1, e2]; exact Rat.le_refl
  obtain ⟨I, e1, e2⟩ := Rch.inv I0 hlh hR
  have elo : ∀ j, B.lo j = (tb0 up T rt ls hs T.length).lo j := fun j => by unfold Tb.lo; rw [e1]
  have ehi : ∀ j, B.hi j = (tb0 up T rt ls hs T.length).hi j := fun j => by unfold Tb.hi; rw [e2]
  have inb : ∀ j, j < up.length + T.length → B.lo j ≤ B.v j ∧ B.v j ≤ B.hi j := fun j hj => by
    by_cases h : ∃ i, i < T.length ∧ B.b i = j
    · obtain ⟨i, hi, rfl⟩ := h
      exact wr_none hw i hi
    · exact I.bnd j hj fun i hi e => h ⟨i, hi, e⟩
  refine ⟨fun k a b ha hb => ?_, fun i row y hrow hy => ?_⟩
  · have hk := (List.getElem?_eq_some_iff.1 ha).1
    have := inb k (by omega)
    rw [elo, ehi, tb0_lo ha, tb0_hi hb] at this
    exact this
  · have hi : i < T.length := (List.getElem?_eq_some_iff.1 hrow).1
    have hrl : row.length = up.length := hA.2 row (mem_at hrow)
    have h1 := inb (up.length + i) (by omega)
    rw [elo, ehi, tb0_lob hll hA.1 hy, tb0_hib hhl hA.1 hy] at h1
    have h2 := (I.eqv B.v).1 I.sat i hi
    rw [tb0_b hi] at h2
    have h3 : B.v (up.length + i) = (y : Rat) := by grind
    rw [← h3, h2]
    rw [sm_ext (n := up.length) T.length (fun j hj1 hj2 => ?_)]
    · exact sm_congr fun j hj => by rw [tb0_a hrow (by omega)]; grind
    · rw [tb0_a hrow (by omega), List.getD_eq_getElem?_getD, List.getElem?_eq_none (by omega)]
      show (0 : Rat) * _ = 0
      grind
end
end Go.Proofs.Ytajpdnphamomjaa

/- Relax from zero to the bounds: a solution. -/


namespace Go.Proofs.Ytajpdnphamomjaa
open Go.RowKit Go.Q Go.Q.Num Go.V

section
variable {up : List Int} {T : List (List Int)} {rt : List Int}
theorem take_get {L : List Rat} {n k : Nat} {p : Int × Int} (h : ((L.take n).map prQ)[k]? = some p) : k < n ∧ p = prQ (L.getD k 0) := by
  rw [List.getElem?_map] at h
  obtain ⟨x, hx, rfl⟩ := Option.map_eq_some_iff.1 h
  rw [List.getElem?_take] at hx
  split at hx
  · rename_i hk
    exact ⟨hk, by rw [getD_some hx]⟩
  · cases hx
theorem dotN_sm' (r : List Int) (L : List (Int × Int)) : ∀ n, dotN r L n = sm (dotT r L) n
  | 0 => rfl
  | n + 1 => by show dotN r L n + dotT r L n = sm (dotT r L) n + dotT r L n; rw [dotN_sm' r L n]
theorem rlx_SolP (hok : sysE up T rt = 0) {ls hs : List Int} (hll : ls.length = up.length) (hhl : hs.length = up.length) (hle : ∀ (k : Nat) a b, ls[k]? = some a → hs[k]? = some b → a ≤ b) (h0 : ∀ x ∈ ls, 0 ≤ x) (hu : ∀ (k : Nat) a b, hs[k]? = some a → up[k]? = some b → a ≤ b) {c : Nat} {B : Tb}
    (hR : Rch (up.length + T.length) T.length (tb0 up T rt ls hs T.length) c B) (ok : TbOk (up.length + T.length) T.length B) (hw : B.wr T.length = none) : SolP up T rt ((B.val.take up.length).map prQ) := by
  obtain ⟨hul, hTl, hRr, hA⟩ := sysE_ok hok
  obtain ⟨h1, h2⟩ := rlx_sol hA hll hhl hle hR hw
  refine ⟨hok, by rw [List.length_map, List.length_take, ok.lv]; omega, fun k p u hp hup => ?_, fun i row y hrow hy => ?_⟩
  · obtain ⟨hk, rfl⟩ := take_get hp
    have hf : Fits (B.val.getD k 0) := ok.v_fit (j := k) (by omega)
    obtain ⟨a, ha⟩ : ∃ x, ls[k]? = some x := ⟨_, List.getElem?_eq_getElem (by omega)⟩
    obtain ⟨b, hb⟩ : ∃ x, hs[k]? = some x := ⟨_, List.getElem?_eq_getElem (by omega)⟩
    have hv := h1 k a b ha hb
    have ha0 : (0 : Rat) ≤ (a : Rat) := Rat.intCast_le_intCast.2 (h0 a (mem_at ha))
    have hbu : (b : Rat) ≤ (u : Rat) := Rat.intCast_le_intCast.2 (hu k b u hb hup)
    refine ⟨frac_fits hf, ?_, ?_⟩
    · show ¬ (B.val.getD k 0).num < 0
      rw [num_neg]
      have : B.v k = B.val.getD k 0 := rfl
      rw [← this]
      grind
    · show ¬ ((u : Rat) < ratv (B.val.getD k 0).num (((B.val.getD k 0).den : Nat) : Int))
      rw [ratv_fits]
      have : B.v k = B.val.getD k 0 := rfl
      rw [← this]
      grind
  · rw [dotN_sm', ← h2 i row y hrow hy]
    have hrl : row.length = up.length := hA.2 row (mem_at hrow)
    refine sm_congr fun j hj => ?_
    have hp : ((B.val.take up.length).map prQ)[j]? = some (prQ (B.v j)) := by
      rw [List.getElem?_map, List.getElem?_take, if_pos hj, ok.val_get (by omega)]; rfl
    rw [dotT_at (c := row.getD j 0) (by rw [List.getD_eq_getElem?_getD, List.getElem?_eq_getElem (by omega)]; rfl) hp, ratv_fits]
end
end Go.Proofs.Ytajpdnphamomjaa

/- The conditions of functions, printed by our tool; each is checked against the code by the kernel. -/



namespace Go.Proofs
open Go Go.V Go.RowKit
def S43 (s_0a : Option Addr) (s_0n : Nat) (s_0c : Nat) (s_1a : Option Addr) (s_1n : Nat) (s_1c : Nat) (s_2a : Option Addr) (s_2n : Nat) (s_2c : Nat) (w0 : World) (R : Value → World → Prop) : Prop :=
 wr Try.prog (Instr.box 43 (.agg #[(.slice s_0a s_0n s_0c), (.slice s_1a s_1n s_1c), (.slice s_2a s_2n s_2c)])) (.one .addr) w0 fun (x1 : Addr) w2 =>
 rd Try.prog (Instr.loadAt 43 (.pointer (some x1))) (.agg [.slice, .slice, .slice]) w2 fun (x3 : (Hd3 × Hd3 × Hd3 × Unit)) =>
 call Try.prog 30 [(.agg #[(.slice x3.1.1 x3.1.2.1 x3.1.2.2), (.slice x3.2.1.1 x3.2.1.2.1 x3.2.1.2.2), (.slice x3.2.2.1.1 x3.2.2.1.2.1 x3.2.2.1.2.2)])] (.one (.one (.int .i64))) w2 fun (x4 : Int) w5 =>
 br (x4 != 0) (R (.tuple #[(.slice none 0 0), (.slice none 0 0), (.int .i64 x4)]) w5)
 (drw w5 fun w6 => flEx fun F7 =>
 rd Try.prog (Instr.loadAt 43 (.pointer (some x1))) (.agg [.slice, .slice, .slice]) w6 fun (x8 : (Hd3 × Hd3 × Hd3 × Unit)) =>
 rd Try.prog (Instr.loadAt 40 (.pointer (some x1))) (.one .slice) w6 fun (x9 : Hd3) =>
 flc bel w6 (fun _w11 => True) (fun w10 =>
   wr Try.prog (Instr.makeSlice 40 (.int .i64 ((x9.2.1 : Nat) : Int)) (.int .i64 ((x9.2.1 : Nat) : Int))) (.one .slice) w10 fun (x12 : Hd3) w13 =>
 (bel w10 w13 ∧ F7 4 [] (.slice x12.1 x12.2.1 x12.2.2) w13))
  fun (x14 : Hd3) =>
 rd Try.prog (Instr.loadAt 40 (.pointer (some x1))) (.one .slice) w6 fun (x15 : Hd3) =>
 flend bel w6 (fun w17 => F7 4 [] (.slice x14.1 x14.2.1 x14.2.2) w17 ∧ True) fun w16 =>
 call Try.prog 94 [(.agg #[(.slice x8.1.1 x8.1.2.1 x8.1.2.2), (.slice x8.2.1.1 x8.2.1.2.1 x8.2.1.2.2), (.slice x8.2.2.1.1 x8.2.2.1.2.1 x8.2.2.1.2.2)]), (.slice x14.1 x14.2.1 x14.2.2), (.slice x15.1 x15.2.1 x15.2.2), (.int .i64 2000)] (.many [(.one .slice), (.one .slice), (.one (.int .i64))]) w16 fun (x18 : (Hd3 × Hd3 × Int × Unit)) w19 =>
 R (.tuple #[(.slice x18.1.1 x18.1.2.1 x18.1.2.2), (.slice x18.2.1.1 x18.2.1.2.1 x18.2.1.2.2), (.int .i64 x18.2.2.1)]) w19)
def H43 : Hints := ⟨[], [(4, 7)], [], []⟩
set_option maxRecDepth 100000 in
theorem S43_eq (s_0a : Option Addr) (s_0n : Nat) (s_0c : Nat) (s_1a : Option Addr) (s_1n : Nat) (s_1c : Nat) (s_2a : Option Addr) (s_2n : Nat) (s_2c : Nat) (w0 : World) (R : Value → World → Prop) : vcFn Try.prog H43 Try.f43 [(.agg #[(.slice s_0a s_0n s_0c), (.slice s_1a s_1n s_1c), (.slice s_2a s_2n s_2c)])] w0 R = S43 s_0a s_0n s_0c s_1a s_1n s_1c s_2a s_2n s_2c w0 R := by kernel_rfl
set_option maxRecDepth 100000 in
theorem S43_calls (s_0a : Option Addr) (s_0n : Nat) (s_0c : Nat) (s_1a : Option Addr) (s_1n : Nat) (s_1c : Nat) (s_2a : Option Addr) (s_2n : Nat) (s_2c : Nat) (w0 : World) (R : Value → World → Prop) (h : S43 s_0a s_0n s_0c s_1a s_1n s_1c s_2a s_2n s_2c w0 R) : Calls Try.prog 43 #[(.agg #[(.slice s_0a s_0n s_0c), (.slice s_1a s_1n s_1c), (.slice s_2a s_2n s_2c)])] w0 (ret R) := by
  rw [← S43_eq] at h; exact vcFn_sound follows_ Try.func43 h

end Go.Proofs

/- LinearLarge. -/



namespace Go.Proofs.Ytajpdnphamomjaa
open Go.RowKit Go.Q Go.Q.Num Go.V

def LRes (up : List Int) (T : List (List Int)) (rt : List Int) (pv : Nat) (w : World) (x : Hdr × Hdr × Int × Unit) (w' : World) : Prop :=
  (x.2.2.1 = 0 ∧ x.2.1 = (none, 0, 0) ∧ ∃ L, L.length = up.length ∧ OwnQ w' w.heap.size x.1 L ∧ (∀ q ∈ L, Fits q) ∧ SolP up T rt (L.map prQ)) ∨
  (x.2.2.1 = 0 ∧ x.1 = (none, 0, 0) ∧ 1 ≤ T.length ∧ ∃ L, L.length = T.length ∧ OwnQ w' w.heap.size x.2.1 L ∧ (∀ q ∈ L, Fits q) ∧ BndP up T rt (List.replicate up.length 0) up (L.map prQ)) ∨
  (x.2.2.1 = 8 ∧ x.1 = (none, 0, 0) ∧ x.2.1 = (none, 0, 0) ∧ RlxC up T rt (List.replicate up.length 0) up pv)
theorem flat_prQ (L : List Rat) : L.flatMap encQ = (L.map prQ).flatMap encF := by rw [List.flatMap_map]
theorem prQ_i64 {L : List Rat} (h : ∀ q ∈ L, Fits q) : ∀ p ∈ L.map prQ, I64 p.1 ∧ I64 p.2 := fun p hp => by
  obtain ⟨y, hy, rfl⟩ := List.mem_map.1 hp
  exact i64_fits (h y hy)
theorem linSolve (u r b : Hdr) (up : List Int) (T : List (List Int)) (rt : List Int) (w : World) (H : Sys w u r b up T rt) (hok : sysE up T rt = 0) (hn1 : 1 ≤ up.length) :
    call Try.prog 43 [sysv u r b] rRX w (fun (x : Hdr × Hdr × Int × Unit) w' => LRes up T rt 2000 w x w' ∧ bel w w') := by
  refine call_of (S43_calls u.1 u.2.1 u.2.2 r.1 r.2.1 r.2.2 b.1 b.2.1 b.2.2 w _ ?_)
  obtain ⟨hul, hTl, hR, hA⟩ := sysE_ok hok
  have hur := H.u.int
  unfold S43
  refine wr_box fun x1 w2 X1 h2 hx1 _ => ?_
  replace X1 : Box w2 x1 (sysc u r b) := X1
  refine rd_boxN X1 (by kernel_rfl) rfl ?_
  refine call_mono (validL u r b up T rt w2 (H.up h2)) fun (x4 : Int) w5 q => ?_
  obtain ⟨h4, h5⟩ := q
  refine br_ne (fun h => absurd (h4.trans hok) h) (fun _ => ?_)
  refine drw_mk fun w6 h6 _ => ?_
  have X6 := (X1.up h5).up h6
  have b6 := (h2.trans h5).trans h6
  refine flEx_mk (fun _ _ v w' => ∃ ad, v = .slice (some ad) up.length up.length ∧ Sl w' (some ad) up.length up.length 1 (ints .i64 (List.replicate up.length 0))) (fun _ _ _ _ _ q hb => by obtain ⟨ad, h1, h2⟩ := q; exact ⟨ad, h1, h2.up hb⟩) ?_
  refine rd_boxN X6 (by kernel_rfl) rfl ?_
  refine rd_box0 (by kernel_rfl) X6 rfl rfl ?_
  refine flc_mk (fun w10 h10 _ => ?_) fun x14 => ?_
  · refine wr_make tyI64 up.length (by dsimp only; omega) (by dsimp only; omega) (by omega) (by unfold maxLen; omega) fun xd w13 OX hb _ _ => ?_
    refine ⟨hb, xd, rfl, ?_⟩
    have := (OX w10.heap.size (Nat.le_refl _)).sl
    rw [Nat.mul_one, show (madeCells (Value.int .i64 0).cells up.length).toList = ints .i64 (List.replicate up.length 0) from made_int .i64 _] at this
    exact this
  refine rd_box0 (by kernel_rfl) X6 rfl rfl ?_
  refine flend_mk fun w16 h16 q => ?_
  obtain ⟨⟨ad, ev, SZ⟩, _⟩ := q
  obtain rfl : x14 = (some ad, up.length, up.length) := hv_inj ev
  have b16 := b6.trans h16
  refine call_mono (relaxF u r b (some ad, up.length, up.length) u up T rt (List.replicate up.length 0) up 2000 w16 (H.up b16) hok SZ (H.up b16).u (by simp) rfl (fun x hx => by rw [(List.mem_replicate.1 hx).2]; omega) (fun x hx => by have := hR.1 x hx; omega) hn1 (by omega)) fun x w19 q => ?_
  obtain ⟨hr, h19⟩ := q
  refine ⟨x, rfl, ?_, b16.trans h19⟩
  rcases hr with ⟨e1, e2, c, B, hR', ok, hw, O⟩ | ⟨e1, e2, e3, L, h1, O, h3, h4⟩ | ⟨e1, e2, e3, h4⟩
  · refine .inl ⟨e1, e2, B.val.take up.length, by rw [List.length_take, ok.lv]; omega, own_mono O b16.size, fun q hq => ok.fv q (List.mem_of_mem_take hq), rlx_SolP hok (by simp) rfl (fun k a b ha hb => ?_) (fun x hx => by rw [(List.mem_replicate.1 hx).2]; omega) (fun k a b ha hb => by rw [ha] at hb; cases hb; omega) hR' ok hw⟩
    have h0 := (List.mem_replicate.1 (mem_at ha)).2
    have := hR.1 b (mem_at hb)
    omega
  · exact .inr (.inl ⟨e1, e2, e3, L, h1, own_mono O b16.size, h3, h4⟩)
  · exact .inr (.inr ⟨e1, e2, e3, h4⟩)

end Go.Proofs.Ytajpdnphamomjaa

/- Plain law: the search of a small system ends soon. -/


namespace Go.Proofs.Ytajpdnphamomjaa
open Go.RowKit Go.Q Go.Q.Num Go.V

theorem wr_spec {T : Tb} : ∀ {M : Nat} {p : Nat × Bool}, T.wr M = some p → p.1 < M ∧ (T.v (T.b p.1) < T.lo (T.b p.1) ∨ T.hi (T.b p.1) < T.v (T.b p.1)) ∧ p.2 = decide (T.v (T.b p.1) < T.lo (T.b p.1)) ∧ ∀ i, i < M → T.v (T.b i) < T.lo (T.b i) ∨ T.hi (T.b i) < T.v (T.b i) → T.b p.1 ≤ T.b i
  | 0, p, h => by cases h
  | M + 1, p, h => by
    rw [wr_succ] at h
    split at h
    · rename_i hv
      split at h
      · rename_i hn
        cases h
        refine ⟨Nat.lt_succ_self _, hv, rfl, fun i hi hvi => ?_⟩
        by_cases e : i = M
        · subst e; exact Nat.le_refl _
        · have := wr_none hn i (by omega)
          rcases hvi with q | q
          · exact absurd q (Rat.not_lt.2 this.1)
          · exact absurd q (Rat.not_lt.2 this.2)
      · rename_i q hq
        obtain ⟨h1, h2, h3, h4⟩ := wr_spec hq
        split at h
        · rename_i hlt
          cases h
          refine ⟨Nat.lt_succ_self _, hv, rfl, fun i hi hvi => ?_⟩
          by_cases e : i = M
          · subst e; exact Nat.le_refl _
          · have := h4 i (by omega) hvi
            show T.b M ≤ T.b i
            omega
        · rename_i hlt
          cases h
          refine ⟨by omega, h2, h3, fun i hi hvi => ?_⟩
          by_cases e : i = M
          · subst e; omega
          · exact h4 i (by omega) hvi
    · rename_i hv
      obtain ⟨h1, h2, h3, h4⟩ := wr_spec h
      refine ⟨by omega, h2, h3, fun i hi hvi => ?_⟩
      by_cases e : i = M
      · subst e; exact absurd hvi hv
      · exact h4 i (by omega) hvi
theorem rch_seq {N M : Nat} {T0 : Tb} {c : Nat} {B : Tb} (h : Rch N M T0 c B) : ∃ τ : Nat → Tb, τ 0 = T0 ∧ τ c = B ∧ (∀ i, i ≤ c → Rch N M T0 i (τ i)) ∧ ∀ i, i < c → TbOk N M (τ i) ∧ ∃ row below k, Stp N M (τ i) row below k ∧ τ (i + 1) = (τ i).move row k (goal (τ i) row below) := by
  induction h with
  | zero =>
    refine ⟨fun _ => T0, rfl, rfl, fun i hi => ?_, fun i hi => by omega⟩
    obtain rfl : i = 0 := by omega
    exact Rch.zero
  | step hR ok hs ih =>
    rename_i c Tb row k below
    obtain ⟨τ, h1, h2, h3, h4⟩ := ih
    refine ⟨fun i => if i ≤ c then τ i else Tb.move row k (goal Tb row below), by simp [h1], by simp; omega, fun i hi => ?_, fun i hi => ?_⟩
    · dsimp only
      by_cases hic : i ≤ c
      · rw [if_pos hic]; exact h3 i hic
      · obtain rfl : i = c + 1 := by omega
        rw [if_neg hic]; exact .step hR ok hs
    · dsimp only
      rw [if_pos (by omega : i ≤ c)]
      by_cases hic : i + 1 ≤ c
      · rw [if_pos hic]; exact h4 i (by omega)
      · obtain rfl : i = c := by omega
        rw [if_neg hic, h2]
        exact ⟨ok, row, below, k, hs, rfl⟩
theorem Rch.atb {N M : Nat} {T0 : Tb} (I0 : TbI N M T0.a T0.b T0) (hlh : ∀ j, j < N → T0.lo j ≤ T0.hi j) (h0 : ∀ j, j < N → (∀ i, i < M → T0.b i ≠ j) → T0.v j = T0.lo j ∨ T0.v j = T0.hi j) {c : Nat} {B : Tb} (h : Rch N M T0 c B) :
    ∀ j, j < N → (∀ i, i < M → B.b i ≠ j) → B.v j = T0.lo j ∨ B.v j = T0.hi j := by
  induction h with
  | zero => exact h0
  | step hR ok hs ih =>
    rename_i c B row k below
    obtain ⟨I, e1, e2⟩ := Rch.inv I0 hlh hR
    have hr : row < M := wr_lt hs.1
    have hkb : ∀ i, i < M → B.b i ≠ k := fun i hi e => hs.2.2.1.1 (by rw [← e]; exact I.z row i hr hi)
    have mv := move_v (to := goal B row below) ok I.inj hr hs.2.1 hkb
    intro j hj hn
    have hnb : ∀ i, i < M → nbas B.b row k i ≠ j := fun i hi => by rw [← move_b (to := goal B row below) ok hi]; exact hn i hi
    have hjk : j ≠ k := fun e => hnb row hr (by unfold nbas; rw [if_pos rfl, e])
    by_cases hjb : j = B.b row
    · rw [hjb, mv.out]
      unfold goal
      have f1 : B.lo (B.b row) = T0.lo (B.b row) := by unfold Tb.lo; rw [e1]
      have f2 : B.hi (B.b row) = T0.hi (B.b row) := by unfold Tb.hi; rw [e2]
      split
      · exact .inl f1
      · exact .inr f2
    · have hn' : ∀ i, i < M → B.b i ≠ j := fun i hi e => by
        by_cases hir : i = row
        · subst hir; exact hjb e.symm
        · exact hnb i hi (by unfold nbas; rw [if_neg hir]; exact e)
      rw [mv.oth j hjk hn']
      exact ih j hj hn'

/-! ### numbers for the states -/
def enc (base d : Nat → Nat) : Nat → Nat
  | 0 => 0
  | k + 1 => enc base d k * base k + d k
def prd (base : Nat → Nat) : Nat → Nat
  | 0 => 1
  | k + 1 => prd base k * base k
theorem enc_lt {base d : Nat → Nat} : ∀ {m : Nat}, (∀ j, j < m → d j < base j) → enc base d m < prd base m
  | 0, _ => Nat.lt_succ_self 0
  | m + 1, h => by
    have h1 := enc_lt (m := m) fun j hj => h j (by omega)
    have h2 := h m (by omega)
    show enc base d m * base m + d m < prd base m * base m
    have h3 : (enc base d m + 1) * base m ≤ prd base m * base m := Nat.mul_le_mul_right _ h1
    rw [Nat.add_mul, Nat.one_mul] at h3
    omega
theorem enc_inj {base d d' : Nat → Nat} : ∀ {m : Nat}, (∀ j, j < m → d j < base j) → (∀ j, j < m → d' j < base j) → enc base d m = enc base d' m → ∀ j, j < m → d j = d' j
  | 0, _, _, _, j, hj => by omega
  | m + 1, h, h', e, j, hj => by
    have h1 := h m (by omega)
    have h2 := h' m (by omega)
    have e' : enc base d m * base m + d m = enc base d' m * base m + d' m := e
    have hd : d m = d' m := by
      have := congrArg (· % base m) e'
      simp only [Nat.add_comm, Nat.add_mul_mod_self_right] at this
      rwa [Nat.mod_eq_of_lt h1, Nat.mod_eq_of_lt h2] at this
    have he : enc base d m = enc base d' m := by
      rw [hd] at e'
      exact Nat.eq_of_mul_eq_mul_right (by omega : 0 < base m) (by omega)
    by_cases hjm : j = m
    · subst hjm; exact hd
    · exact enc_inj (fun j hj => h j (by omega)) (fun j hj => h' j (by omega)) he j (by omega)
def bs32 (n j : Nat) : Nat := if j < n then 3 else 2
theorem prd_648 : ∀ n, n < 5 → ∀ M, M < 4 → prd (bs32 n) (n + M) ≤ 648 := by decide
open Classical in
noncomputable def dig (n M : Nat) (lo : Nat → Rat) (B : Tb) (j : Nat) : Nat := if Bas M B.b j then 0 else if n ≤ j then 1 else if B.v j = lo j then 1 else 2
theorem dig_lt (n M : Nat) (lo : Nat → Rat) (B : Tb) (j : Nat) : dig n M lo B j < bs32 n j := by
  unfold dig bs32
  split
  · split <;> omega
  · split
    · split <;> omega
    · split <;> split <;> omega

section
variable {up : List Int} {T : List (List Int)} {rt ls hs : List Int}
theorem rch_short (hA : SysA up T rt) (hll : ls.length = up.length) (hhl : hs.length = up.length) (hle : ∀ (k : Nat) a b, ls[k]? = some a → hs[k]? = some b → a ≤ b) (hn : up.length ≤ 4) (hm : T.length ≤ 3) {c : Nat} {B : Tb}
    (hR : Rch (up.length + T.length) T.length (tb0 up T rt ls hs T.length) c B) : c ≤ 648 := by
  refine Classical.byContradiction fun hc => ?_
  have I0 := tb0_I hA hll hhl hle
  generalize hT0 : tb0 up T rt ls hs T.length = T0 at hR I0
  have hsl : ∀ j, up.length ≤ j → j < up.length + T.length → T0.lo j = T0.hi j := fun j h1 h2 => by
    obtain ⟨y, hy⟩ : ∃ x, rt[j - up.length]? = some x := ⟨_, List.getElem?_eq_getElem (by have := hA.1; omega)⟩
    have e1 := tb0_lob (T := T) (hs := hs) hll hA.1 hy
    have e2 := tb0_hib (T := T) (ls := ls) hhl hA.1 hy
    rw [show up.length + (j - up.length) = j by omega, hT0] at e1 e2
    rw [e1, e2]
  have hlh : ∀ j, j < up.length + T.length → T0.lo j ≤ T0.hi j := fun j hj => by
    rcases Nat.lt_or_ge j up.length with h | h
    · obtain ⟨x, hx⟩ : ∃ x, ls[j]? = some x := ⟨_, List.getElem?_eq_getElem (by omega)⟩
      obtain ⟨y, hy⟩ : ∃ x, hs[j]? = some x := ⟨_, List.getElem?_eq_getElem (by omega)⟩
      rw [← hT0, tb0_lo hx, tb0_hi hy]
      exact Rat.intCast_le_intCast.2 (hle j x y hx hy)
    · rw [hsl j h hj]; exact Rat.le_refl
  have hv0 : ∀ j, j < up.length + T.length → (∀ i, i < T.length → T0.b i ≠ j) → T0.v j = T0.lo j ∨ T0.v j = T0.hi j := fun j hj hn => by
    rcases Nat.lt_or_ge j up.length with h | h
    · obtain ⟨x, hx⟩ : ∃ x, ls[j]? = some x := ⟨_, List.getElem?_eq_getElem (by omega)⟩
      left; rw [← hT0, tb0_lo hx, tb0_v hx]
    · exact absurd (by rw [← hT0, tb0_b (by omega)]; omega) (hn (j - up.length) (by omega))
  obtain ⟨τ, q0, _, q2, q3⟩ := rch_seq hR
  have hI : ∀ i, i ≤ c → TbI (up.length + T.length) T.length T0.a T0.b (τ i) ∧ (τ i).low = T0.low ∧ (τ i).high = T0.high := fun i hi => Rch.inv I0 hlh (q2 i hi)
  have hlo : ∀ i, i ≤ c → (τ i).lo = T0.lo := fun i hi => by funext j; unfold Tb.lo; rw [(hI i hi).2.1]
  have hhi : ∀ i, i ≤ c → (τ i).hi = T0.hi := fun i hi => by funext j; unfold Tb.hi; rw [(hI i hi).2.2]
  have q3' : ∀ i : Nat, ∃ p : Nat × Bool × Nat, i < c → Stp (up.length + T.length) T.length (τ i) p.1 p.2.1 p.2.2 ∧ τ (i + 1) = (τ i).move p.1 p.2.2 (goal (τ i) p.1 p.2.1) := fun i => by
    by_cases h : i < c
    · obtain ⟨_, row, below, k, h1, h2⟩ := q3 i h
      exact ⟨(row, below, k), fun _ => ⟨h1, h2⟩⟩
    · exact ⟨(0, true, 0), fun h' => absurd h' h⟩
  obtain ⟨f, hf⟩ := Classical.axiomOfChoice q3'
  have S : BSeq (up.length + T.length) T.length T0.a T0.b T0.lo T0.hi c (fun i => (τ i).a) (fun i => (τ i).v) (fun i => (τ i).b) (fun i => (f i).1) (fun i => (f i).2.2) (fun i => (f i).2.1) := by
    refine ⟨fun i hi => ?_, fun i hi => ?_⟩
    · have := (hI i hi).1
      unfold TbI at this
      rw [hlo i hi, hhi i hi] at this
      exact this
    · obtain ⟨⟨h1, h2, h3, h4⟩, h5⟩ := hf i hi
      obtain ⟨ok, _⟩ := q3 i hi
      obtain ⟨s1, s2, s3, s4⟩ := wr_spec h1
      have I := (hI i (by omega)).1
      have hkb : ∀ q, q < T.length → (τ i).b q ≠ (f i).2.2 := fun q hq e => h3.1 (by rw [← e]; exact I.z _ q s1 hq)
      have el := hlo i (by omega)
      have eh := hhi i (by omega)
      rw [el, eh] at s2
      rw [el] at s3
      refine ⟨s1, h2, ?_, fun q hq hv => s4 q hq (by rw [el, eh]; exact hv), h3.1, hkb, ?_, fun k' hk' hz hb hr => h4 k' hk' ⟨hz, hb, ?_⟩, ?_, fun q hq => ?_⟩
      · dsimp only at s3 s2 ⊢
        rw [s3]
        by_cases hv : (τ i).v ((τ i).b (f i).1) < T0.lo ((τ i).b (f i).1)
        · rw [if_pos (by simpa using hv)]; exact hv
        · rw [if_neg (by simpa using hv)]; exact s2.resolve_left hv
      · have := h3.2.2
        rw [el, eh] at this
        exact this
      · rw [el, eh]; exact hr
      · have mv := move_v (to := goal (τ i) (f i).1 (f i).2.1) ok I.inj s1 h2 hkb
        rw [← h5] at mv
        have eg : goal (τ i) (f i).1 (f i).2.1 = aim T0.lo T0.hi ((τ i).b (f i).1) (f i).2.1 := by unfold goal aim; rw [el, eh]
        rw [eg] at mv
        exact mv
      · show (τ (i + 1)).b q = _
        rw [h5]; exact move_b ok hq
  obtain ⟨s, e, hse, he, hcode⟩ := pigeon 648 (fun i => enc (bs32 up.length) (dig up.length T.length T0.lo (τ i)) (up.length + T.length)) (fun i _ => Nat.lt_of_lt_of_le (enc_lt fun j _ => dig_lt _ _ _ _ j) (prd_648 up.length (by omega) T.length (by omega)))
  have hdig := enc_inj (fun j _ => dig_lt _ _ _ _ j) (fun j _ => dig_lt _ _ _ _ j) hcode
  have hbas : ∀ i j, i ≤ c → Bas T.length (τ i).b j → j < up.length + T.length := fun i j hi ⟨q, hq, hqj⟩ => by rw [← hqj]; exact (hI i hi).1.lt q hq
  have dz : ∀ i j, dig up.length T.length T0.lo (τ i) j = 0 ↔ Bas T.length (τ i).b j := fun i j => by
    unfold dig
    split
    · rename_i h; exact ⟨fun _ => h, fun _ => rfl⟩
    · rename_i h
      refine ⟨fun h2 => ?_, fun h2 => absurd h2 h⟩
      split at h2
      · omega
      · split at h2 <;> omega
  have hB : ∀ j, Bas T.length (τ s).b j ↔ Bas T.length (τ e).b j := fun j => by
    by_cases hj : j < up.length + T.length
    · rw [← dz s j, ← dz e j, hdig j hj]
    · exact ⟨fun h => absurd (hbas s j (by omega) h) hj, fun h => absurd (hbas e j (by omega) h) hj⟩
  refine S.never hse (by omega) hB fun j hj hnb => ?_
  have hnb' : ¬ Bas T.length (τ e).b j := fun h => hnb ((hB j).2 h)
  have v1 := (q2 s (by omega)).atb I0 hlh hv0 j hj fun i hi e => hnb ⟨i, hi, e⟩
  have v2 := (q2 e (by omega)).atb I0 hlh hv0 j hj fun i hi e => hnb' ⟨i, hi, e⟩
  show (τ s).v j = (τ e).v j
  rcases Nat.lt_or_ge j up.length with h | h
  · have hd := hdig j hj
    unfold dig at hd
    have hge : ¬ up.length ≤ j := by omega
    rw [if_neg hnb, if_neg hnb', if_neg hge, if_neg hge] at hd
    by_cases c1 : (τ s).v j = T0.lo j <;> by_cases c2 : (τ e).v j = T0.lo j
    · rw [c1, c2]
    · rw [if_pos c1, if_neg c2] at hd; omega
    · rw [if_neg c1, if_pos c2] at hd; omega
    · rw [v1.resolve_left c1, v2.resolve_left c2]
  · have := hsl j h hj
    rcases v1 with v1 | v1 <;> rcases v2 with v2 | v2 <;> rw [v1, v2] <;> first | rfl | exact this | exact this.symm
end
end Go.Proofs.Ytajpdnphamomjaa

/- Plain law: the numbers of a small system stay small. -/

namespace Go.Proofs.Ytajpdnphamomjaa
open Go.RowKit Go.Q Go.Q.Num Go.V

/-! ### quotients by a common number -/
def Q1 (D B : Int) (x : Rat) : Prop := ∃ K : Int, -B ≤ K ∧ K ≤ B ∧ x * (D : Rat) = (K : Rat)
theorem mul_den (x : Rat) : x * ((x.den : Int) : Rat) = (x.num : Rat) := by
  have h := Rat.num_divInt_den x
  rw [Rat.divInt_eq_div] at h
  have h0 : ((x.den : Int) : Rat) ≠ 0 := by
    intro e; exact x.den_nz (by exact_mod_cast e)
  have e : x = (x.num : Rat) / ((x.den : Int) : Rat) := h.symm
  generalize ((x.den : Int) : Rat) = d at *
  generalize (x.num : Rat) = m at *
  rw [e]; grind
theorem q1_fits {D B : Int} {x : Rat} (h : Q1 D B x) (hD : D ≠ 0) (hb : -100000000000000000 ≤ D ∧ D ≤ 100000000000000000) (hB : B ≤ 100000000000000000) : Fits x := by
  obtain ⟨K, k1, k2, e⟩ := h
  have h1 : x.num * D = K * (x.den : Int) := by
    have h3 : ((x.num * D : Int) : Rat) = ((K * (x.den : Int) : Int) : Rat) := by
      rw [Rat.intCast_mul, Rat.intCast_mul, ← mul_den, ← e]; grind
    exact Rat.intCast_inj.1 h3
  have h2 : x.num.natAbs * D.natAbs = K.natAbs * x.den := by
    have := congrArg Int.natAbs h1
    rwa [Int.natAbs_mul, Int.natAbs_mul, Int.natAbs_natCast] at this
  have h3 : x.den ∣ D.natAbs := Nat.Coprime.dvd_of_dvd_mul_left x.reduced.symm ⟨K.natAbs, by rw [h2]; exact Nat.mul_comm _ _⟩
  have h4 := x.den_pos
  obtain ⟨m, hm⟩ := h3
  have hm0 : 0 < m := by
    rcases Nat.eq_zero_or_pos m with h | h
    · subst h; rw [Nat.mul_zero] at hm; omega
    · exact h
  have h6 : x.num.natAbs ≤ K.natAbs := by
    rw [hm] at h2
    have h5 : x.den * (x.num.natAbs * m) = x.den * K.natAbs := by
      rw [Nat.mul_comm x.den K.natAbs, ← h2, ← Nat.mul_assoc, Nat.mul_comm x.den x.num.natAbs, Nat.mul_assoc]
    have h7 := Nat.eq_of_mul_eq_mul_left h4 h5
    rw [← h7]; exact Nat.le_mul_of_pos_right _ hm0
  have h7 : x.den ≤ D.natAbs := by rw [hm]; exact Nat.le_mul_of_pos_right _ hm0
  exact ⟨by omega, by omega, by omega⟩
theorem q1_mono {D B B' : Int} {x : Rat} (h : Q1 D B x) (hb : B ≤ B') : Q1 D B' x := by
  obtain ⟨K, k1, k2, e⟩ := h
  exact ⟨K, by omega, by omega, e⟩
theorem q1_add {D A B : Int} {x y : Rat} (h : Q1 D A x) (h' : Q1 D B y) : Q1 D (A + B) (x + y) := by
  obtain ⟨K, k1, k2, e⟩ := h
  obtain ⟨L, l1, l2, f⟩ := h'
  exact ⟨K + L, by omega, by omega, by rw [Rat.intCast_add, ← e, ← f]; grind⟩
theorem q1_neg {D A : Int} {x : Rat} (h : Q1 D A x) : Q1 D A (-x) := by
  obtain ⟨K, k1, k2, e⟩ := h
  exact ⟨-K, by omega, by omega, by rw [Rat.intCast_neg, ← e]; grind⟩
theorem q1_neg0 {D A : Int} {x : Rat} (h : Q1 D A x) : Q1 D A (0 + -x) := by
  have e : (0 : Rat) + -x = -x := by grind
  rw [e]; exact q1_neg h
theorem abs_mul {a b A B : Int} (h : -A ≤ a ∧ a ≤ A) (h' : -B ≤ b ∧ b ≤ B) : -(A * B) ≤ a * b ∧ a * b ≤ A * B := by
  have h1 : a.natAbs * b.natAbs ≤ A.natAbs * B.natAbs := Nat.mul_le_mul (by omega) (by omega)
  have h2 : (a * b).natAbs = a.natAbs * b.natAbs := Int.natAbs_mul a b
  have h3 : (A * B).natAbs = A.natAbs * B.natAbs := Int.natAbs_mul A B
  have h4 : 0 ≤ A * B := Int.mul_nonneg (by omega) (by omega)
  omega
theorem q1_int {D d : Int} {z Z : Int} (hD : -d ≤ D ∧ D ≤ d) (hz : -Z ≤ z ∧ z ≤ Z) : Q1 D (Z * d) (z : Rat) := by
  obtain ⟨h1, h2⟩ := abs_mul hz hD
  exact ⟨z * D, h1, h2, by rw [Rat.intCast_mul]⟩
theorem q1_zero (D : Int) {B : Int} (hB : 0 ≤ B) : Q1 D B 0 := ⟨0, by omega, by omega, by show (0 : Rat) * _ = 0; rw [Rat.zero_mul]⟩
theorem q1_mul {D E A B : Int} {x y : Rat} (h : Q1 D A x) (h' : Q1 E B y) : Q1 (D * E) (A * B) (x * y) := by
  obtain ⟨K, k1, k2, e⟩ := h
  obtain ⟨L, l1, l2, f⟩ := h'
  obtain ⟨h1, h2⟩ := abs_mul ⟨k1, k2⟩ ⟨l1, l2⟩
  exact ⟨K * L, h1, h2, by rw [Rat.intCast_mul, Rat.intCast_mul, ← e, ← f]; grind⟩
theorem q1_mulz {D A Z : Int} {x : Rat} {z : Int} (h : Q1 D A x) (hz : -Z ≤ z ∧ z ≤ Z) : Q1 D (A * Z) (x * (z : Rat)) := by
  obtain ⟨K, k1, k2, e⟩ := h
  obtain ⟨h1, h2⟩ := abs_mul ⟨k1, k2⟩ hz
  exact ⟨K * z, h1, h2, by rw [Rat.intCast_mul, ← e]; grind⟩
theorem q1_up {D E A e : Int} {x : Rat} (h : Q1 D A x) (hE : -e ≤ E ∧ E ≤ e) : Q1 (D * E) (A * e) x := by
  obtain ⟨K, k1, k2, f⟩ := h
  obtain ⟨h1, h2⟩ := abs_mul ⟨k1, k2⟩ hE
  exact ⟨K * E, h1, h2, by rw [Rat.intCast_mul, Rat.intCast_mul, ← f]; grind⟩
theorem q1_div {D A K : Int} {x y : Rat} (h : Q1 D A x) (hy : y * (D : Rat) = (K : Rat)) (h0 : y ≠ 0) : Q1 K A (x / y) := by
  obtain ⟨L, l1, l2, e⟩ := h
  refine ⟨L, l1, l2, ?_⟩
  rw [← hy, ← e]
  grind
theorem q1_sm {D B : Int} {f : Nat → Rat} : ∀ {n : Nat}, (∀ k, k < n → Q1 D B (f k)) → Q1 D ((n : Int) * B) (sm f n)
  | 0, _ => by
    rw [show ((0 : Nat) : Int) * B = 0 by omega]
    exact q1_zero D (Int.le_refl _)
  | n + 1, h => by
    have h1 := q1_add (q1_sm (n := n) fun k hk => h k (by omega)) (h n (by omega))
    rw [show ((n + 1 : Nat) : Int) * B = (n : Int) * B + B by rw [Int.natCast_add, Int.add_mul]; omega]
    exact h1

/-! ### three equations -/
theorem det_ex {M : Nat} (hM : M ≤ 3) {C : Nat → Nat → Rat} {P : Nat → Nat → Int} (hP : ∀ r i, -10 ≤ P r i ∧ P r i ≤ 10) (h : ∀ i i', i < M → i' < M → sm (fun r => C i r * ((P r i' : Int) : Rat)) M = if i = i' then -1 else 0) :
    ∃ D : Int, D ≠ 0 ∧ (-6000 ≤ D ∧ D ≤ 6000) ∧ ∀ i r, i < M → r < M → Q1 D 200 (C i r) := by
  have b2 : ∀ a b c d, -100 ≤ P a b * P c d ∧ P a b * P c d ≤ 100 := fun a b c d => abs_mul (A := 10) (B := 10) (hP a b) (hP c d)
  match M, hM with
  | 0, _ => exact ⟨1, by decide, by decide, fun i r hi => by omega⟩
  | 1, _ =>
    have e := h 0 0 (by omega) (by omega)
    have e' : C 0 0 * ((P 0 0 : Int) : Rat) = -1 := by
      have : (0 : Rat) + C 0 0 * ((P 0 0 : Int) : Rat) = -1 := e
      grind
    have hb := hP 0 0
    refine ⟨P 0 0, fun h0 => ?_, by omega, fun i r hi hr => ?_⟩
    · rw [h0] at e'
      have : C 0 0 * ((0 : Int) : Rat) = 0 := by show C 0 0 * (0 : Rat) = 0; grind
      rw [this] at e'
      exact absurd e' (by decide)
    · obtain rfl : i = 0 := by omega
      obtain rfl : r = 0 := by omega
      exact ⟨-1, by decide, by decide, e'⟩
  | 2, _ =>
    have key : ∀ i i', i < 2 → i' < 2 → C i 0 * ((P 0 i' : Int) : Rat) + C i 1 * ((P 1 i' : Int) : Rat) = if i = i' then -1 else 0 := fun i i' hi hi' => by
      have : (0 : Rat) + C i 0 * ((P 0 i' : Int) : Rat) + C i 1 * ((P 1 i' : Int) : Rat) = if i = i' then -1 else 0 := h i i' hi hi'
      grind
    have k00 := key 0 0 (by omega) (by omega)
    have k01 := key 0 1 (by omega) (by omega)
    have k10 := key 1 0 (by omega) (by omega)
    have k11 := key 1 1 (by omega) (by omega)
    simp only [if_true, show ¬ (0 : Nat) = 1 by omega, show ¬ (1 : Nat) = 0 by omega, if_false] at k00 k01 k10 k11
    have c1 := b2 0 0 1 1
    have c2 := b2 0 1 1 0
    have hD : ((P 0 0 * P 1 1 - P 0 1 * P 1 0 : Int) : Rat) = (P 0 0 : Rat) * (P 1 1 : Rat) - (P 0 1 : Rat) * (P 1 0 : Rat) := by rw [Rat.intCast_sub, Rat.intCast_mul, Rat.intCast_mul]
    have g00 : C 0 0 * ((P 0 0 * P 1 1 - P 0 1 * P 1 0 : Int) : Rat) = ((-P 1 1 : Int) : Rat) := by rw [hD, Rat.intCast_neg]; grind
    have g01 : C 0 1 * ((P 0 0 * P 1 1 - P 0 1 * P 1 0 : Int) : Rat) = ((P 0 1 : Int) : Rat) := by rw [hD]; grind
    have g10 : C 1 0 * ((P 0 0 * P 1 1 - P 0 1 * P 1 0 : Int) : Rat) = ((P 1 0 : Int) : Rat) := by rw [hD]; grind
    have g11 : C 1 1 * ((P 0 0 * P 1 1 - P 0 1 * P 1 0 : Int) : Rat) = ((-P 0 0 : Int) : Rat) := by rw [hD, Rat.intCast_neg]; grind
    have q00 := hP 0 0
    have q01 := hP 0 1
    have q10 := hP 1 0
    have q11 := hP 1 1
    refine ⟨P 0 0 * P 1 1 - P 0 1 * P 1 0, fun h0 => ?_, by omega, fun i r hi hr => ?_⟩
    · rw [h0] at g00 g01 g10 g11
      have z : ∀ x : Rat, x * ((0 : Int) : Rat) = 0 := fun x => by show x * (0 : Rat) = 0; grind
      rw [z] at g00 g01 g10 g11
      have p00 : ((P 0 0 : Int) : Rat) = 0 := by rw [Rat.intCast_neg] at g11; grind
      rw [p00, ← g10] at k00
      have : (0 : Rat) = -1 := by grind
      exact absurd this (by decide)
    · match i, r, hi, hr with
      | 0, 0, _, _ => exact ⟨_, by omega, by omega, g00⟩
      | 0, 1, _, _ => exact ⟨_, by omega, by omega, g01⟩
      | 1, 0, _, _ => exact ⟨_, by omega, by omega, g10⟩
      | 1, 1, _, _ => exact ⟨_, by omega, by omega, g11⟩
      | i + 2, _, hi, _ => omega
      | 0, r + 2, _, hr => omega
      | 1, r + 2, _, hr => omega
  | 3, _ =>
    have key : ∀ i i', i < 3 → i' < 3 → C i 0 * ((P 0 i' : Int) : Rat) + C i 1 * ((P 1 i' : Int) : Rat) + C i 2 * ((P 2 i' : Int) : Rat) = if i = i' then -1 else 0 := fun i i' hi hi' => by
      have : (0 : Rat) + C i 0 * ((P 0 i' : Int) : Rat) + C i 1 * ((P 1 i' : Int) : Rat) + C i 2 * ((P 2 i' : Int) : Rat) = if i = i' then -1 else 0 := h i i' hi hi'
      grind
    -- cofactors
    let m : Nat → Nat → Nat → Nat → Int := fun r r' i i' => P r i * P r' i' - P r i' * P r' i
    have mb : ∀ r r' i i', -200 ≤ m r r' i i' ∧ m r r' i i' ≤ 200 := fun r r' i i' => by
      have h1 := b2 r i r' i'
      have h2 := b2 r i' r' i
      show -200 ≤ P r i * P r' i' - P r i' * P r' i ∧ P r i * P r' i' - P r i' * P r' i ≤ 200
      omega
    have mc : ∀ r r' i i', ((m r r' i i' : Int) : Rat) = (P r i : Rat) * (P r' i' : Rat) - (P r i' : Rat) * (P r' i : Rat) := fun r r' i i' => by
      show ((P r i * P r' i' - P r i' * P r' i : Int) : Rat) = _
      rw [Rat.intCast_sub, Rat.intCast_mul, Rat.intCast_mul]
    have t0 := abs_mul (hP 0 0) (mb 1 2 1 2)
    have t1 := abs_mul (hP 0 1) (mb 1 2 0 2)
    have t2 := abs_mul (hP 0 2) (mb 1 2 0 1)
    have hD : ((P 0 0 * m 1 2 1 2 - P 0 1 * m 1 2 0 2 + P 0 2 * m 1 2 0 1 : Int) : Rat) = (P 0 0 : Rat) * ((P 1 1 : Rat) * (P 2 2 : Rat) - (P 1 2 : Rat) * (P 2 1 : Rat)) - (P 0 1 : Rat) * ((P 1 0 : Rat) * (P 2 2 : Rat) - (P 1 2 : Rat) * (P 2 0 : Rat)) + (P 0 2 : Rat) * ((P 1 0 : Rat) * (P 2 1 : Rat) - (P 1 1 : Rat) * (P 2 0 : Rat)) := by
      rw [Rat.intCast_add, Rat.intCast_sub, Rat.intCast_mul, Rat.intCast_mul, Rat.intCast_mul, mc, mc, mc]
    generalize hdd : P 0 0 * m 1 2 1 2 - P 0 1 * m 1 2 0 2 + P 0 2 * m 1 2 0 1 = D at hD
    have col : ∀ i, i < 3 → ∀ e0 e1 e2 : Rat, C i 0 * ((P 0 0 : Int) : Rat) + C i 1 * ((P 1 0 : Int) : Rat) + C i 2 * ((P 2 0 : Int) : Rat) = e0 → C i 0 * ((P 0 1 : Int) : Rat) + C i 1 * ((P 1 1 : Int) : Rat) + C i 2 * ((P 2 1 : Int) : Rat) = e1 → C i 0 * ((P 0 2 : Int) : Rat) + C i 1 * ((P 1 2 : Int) : Rat) + C i 2 * ((P 2 2 : Int) : Rat) = e2 →
        C i 0 * (D : Rat) = e0 * (m 1 2 1 2 : Rat) - e1 * (m 1 2 0 2 : Rat) + e2 * (m 1 2 0 1 : Rat) ∧
        C i 1 * (D : Rat) = -(e0 * (m 0 2 1 2 : Rat)) + e1 * (m 0 2 0 2 : Rat) - e2 * (m 0 2 0 1 : Rat) ∧
        C i 2 * (D : Rat) = e0 * (m 0 1 1 2 : Rat) - e1 * (m 0 1 0 2 : Rat) + e2 * (m 0 1 0 1 : Rat) := by
      intro i _ e0 e1 e2 h0 h1 h2
      rw [hD]
      simp only [mc]
      subst h0 h1 h2
      generalize ((P 0 0 : Int) : Rat) = p00, ((P 0 1 : Int) : Rat) = p01, ((P 0 2 : Int) : Rat) = p02, ((P 1 0 : Int) : Rat) = p10, ((P 1 1 : Int) : Rat) = p11, ((P 1 2 : Int) : Rat) = p12, ((P 2 0 : Int) : Rat) = p20, ((P 2 1 : Int) : Rat) = p21, ((P 2 2 : Int) : Rat) = p22
      generalize C i 0 = c0, C i 1 = c1, C i 2 = c2
      refine ⟨?_, ?_, ?_⟩ <;> grind
    have c0 := col 0 (by omega) _ _ _ (key 0 0 (by omega) (by omega)) (key 0 1 (by omega) (by omega)) (key 0 2 (by omega) (by omega))
    have c1 := col 1 (by omega) _ _ _ (key 1 0 (by omega) (by omega)) (key 1 1 (by omega) (by omega)) (key 1 2 (by omega) (by omega))
    have c2 := col 2 (by omega) _ _ _ (key 2 0 (by omega) (by omega)) (key 2 1 (by omega) (by omega)) (key 2 2 (by omega) (by omega))
    have n01 : ¬ (0 : Nat) = 1 := by omega
    have n02 : ¬ (0 : Nat) = 2 := by omega
    have n10 : ¬ (1 : Nat) = 0 := by omega
    have n12 : ¬ (1 : Nat) = 2 := by omega
    have n20 : ¬ (2 : Nat) = 0 := by omega
    have n21 : ¬ (2 : Nat) = 1 := by omega
    simp only [if_true, n01, n02, n10, n12, n20, n21, if_false] at c0 c1 c2
    have neg : ∀ z : Int, ((-z : Int) : Rat) = -(z : Rat) := fun z => Rat.intCast_neg z
    have g00 : C 0 0 * (D : Rat) = ((-(m 1 2 1 2) : Int) : Rat) := by rw [c0.1, neg]; grind
    have g01 : C 0 1 * (D : Rat) = ((m 0 2 1 2 : Int) : Rat) := by rw [c0.2.1]; grind
    have g02 : C 0 2 * (D : Rat) = ((-(m 0 1 1 2) : Int) : Rat) := by rw [c0.2.2, neg]; grind
    have g10 : C 1 0 * (D : Rat) = ((m 1 2 0 2 : Int) : Rat) := by rw [c1.1]; grind
    have g11 : C 1 1 * (D : Rat) = ((-(m 0 2 0 2) : Int) : Rat) := by rw [c1.2.1, neg]; grind
    have g12 : C 1 2 * (D : Rat) = ((m 0 1 0 2 : Int) : Rat) := by rw [c1.2.2]; grind
    have g20 : C 2 0 * (D : Rat) = ((-(m 1 2 0 1) : Int) : Rat) := by rw [c2.1, neg]; grind
    have g21 : C 2 1 * (D : Rat) = ((m 0 2 0 1 : Int) : Rat) := by rw [c2.2.1]; grind
    have g22 : C 2 2 * (D : Rat) = ((-(m 0 1 0 1) : Int) : Rat) := by rw [c2.2.2, neg]; grind
    refine ⟨D, fun h0 => ?_, by omega, fun i r hi hr => ?_⟩
    · rw [h0] at g20 g21 g22
      have z : ∀ x : Rat, x * ((0 : Int) : Rat) = 0 := fun x => by show x * (0 : Rat) = 0; grind
      rw [z] at g20 g21 g22
      rw [neg, mc] at g20 g22
      rw [mc] at g21
      have k00 := key 0 0 (by omega) (by omega)
      have k01 := key 0 1 (by omega) (by omega)
      have k10 := key 1 0 (by omega) (by omega)
      have k11 := key 1 1 (by omega) (by omega)
      simp only [if_true, n01, n10, if_false] at k00 k01 k10 k11
      have id : (C 0 0 * ((P 0 0 : Int) : Rat) + C 0 1 * ((P 1 0 : Int) : Rat) + C 0 2 * ((P 2 0 : Int) : Rat)) * (C 1 0 * ((P 0 1 : Int) : Rat) + C 1 1 * ((P 1 1 : Int) : Rat) + C 1 2 * ((P 2 1 : Int) : Rat)) - (C 0 0 * ((P 0 1 : Int) : Rat) + C 0 1 * ((P 1 1 : Int) : Rat) + C 0 2 * ((P 2 1 : Int) : Rat)) * (C 1 0 * ((P 0 0 : Int) : Rat) + C 1 1 * ((P 1 0 : Int) : Rat) + C 1 2 * ((P 2 0 : Int) : Rat))
          = (C 0 0 * C 1 1 - C 0 1 * C 1 0) * ((P 0 0 : Rat) * (P 1 1 : Rat) - (P 0 1 : Rat) * (P 1 0 : Rat)) + (C 0 0 * C 1 2 - C 0 2 * C 1 0) * ((P 0 0 : Rat) * (P 2 1 : Rat) - (P 0 1 : Rat) * (P 2 0 : Rat)) + (C 0 1 * C 1 2 - C 0 2 * C 1 1) * ((P 1 0 : Rat) * (P 2 1 : Rat) - (P 1 1 : Rat) * (P 2 0 : Rat)) := by
        generalize ((P 0 0 : Int) : Rat) = p00, ((P 0 1 : Int) : Rat) = p01, ((P 1 0 : Int) : Rat) = p10, ((P 1 1 : Int) : Rat) = p11, ((P 2 0 : Int) : Rat) = p20, ((P 2 1 : Int) : Rat) = p21
        generalize C 0 0 = a0, C 0 1 = a1, C 0 2 = a2, C 1 0 = b0, C 1 1 = b1, C 1 2 = b2
        grind
      rw [k00, k01, k10, k11, ← g21] at id
      have e1 : (P 0 0 : Rat) * (P 1 1 : Rat) - (P 0 1 : Rat) * (P 1 0 : Rat) = 0 := by grind
      have e2 : (P 1 0 : Rat) * (P 2 1 : Rat) - (P 1 1 : Rat) * (P 2 0 : Rat) = 0 := by grind
      rw [e1, e2] at id
      have : (1 : Rat) = 0 := by grind
      exact absurd this (by decide)
    · have u : ∀ r r' i i', -200 ≤ -(m r r' i i') ∧ -(m r r' i i') ≤ 200 := fun r r' i i' => by have := mb r r' i i'; omega
      match i, r, hi, hr with
      | 0, 0, _, _ => exact ⟨_, (u _ _ _ _).1, (u _ _ _ _).2, g00⟩
      | 0, 1, _, _ => exact ⟨_, (mb _ _ _ _).1, (mb _ _ _ _).2, g01⟩
      | 0, 2, _, _ => exact ⟨_, (u _ _ _ _).1, (u _ _ _ _).2, g02⟩
      | 1, 0, _, _ => exact ⟨_, (mb _ _ _ _).1, (mb _ _ _ _).2, g10⟩
      | 1, 1, _, _ => exact ⟨_, (u _ _ _ _).1, (u _ _ _ _).2, g11⟩
      | 1, 2, _, _ => exact ⟨_, (mb _ _ _ _).1, (mb _ _ _ _).2, g12⟩
      | 2, 0, _, _ => exact ⟨_, (u _ _ _ _).1, (u _ _ _ _).2, g20⟩
      | 2, 1, _, _ => exact ⟨_, (mb _ _ _ _).1, (mb _ _ _ _).2, g21⟩
      | 2, 2, _, _ => exact ⟨_, (u _ _ _ _).1, (u _ _ _ _).2, g22⟩
      | i + 3, _, hi, _ => omega
      | 0, r + 3, _, hr => omega
      | 1, r + 3, _, hr => omega
      | 2, r + 3, _, hr => omega
end Go.Proofs.Ytajpdnphamomjaa

/- Plain law: a small system is never given up. -/



namespace Go.Proofs.Ytajpdnphamomjaa
open Go.RowKit Go.Q Go.Q.Num Go.V

theorem sm_split (f : Nat → Rat) (n : Nat) : ∀ m, sm f (n + m) = sm f n + sm (fun k => f (n + k)) m
  | 0 => by show sm f n = sm f n + 0; grind
  | m + 1 => by
    show sm f (n + m) + f (n + m) = sm f n + (sm (fun k => f (n + k)) m + f (n + m))
    rw [sm_split f n m]; grind
def Ax (T : List (List Int)) (n r j : Nat) : Int := if j < n then (T.getD r []).getD j 0 else if j = n + r then -1 else 0
def Cx (n : Nat) (B : Tb) (i r : Nat) : Rat := (if B.b i = n + r then 1 else 0) + -(B.a i (n + r))
theorem cast_ite {p : Prop} [Decidable p] (a b : Int) : (((if p then a else b) : Int) : Rat) = if p then (a : Rat) else (b : Rat) := by split <;> rfl
theorem tb_ext {T : List (List Int)} {n M : Nat} {T0 B : Tb} (I : TbI (n + M) M T0.a T0.b B) (ha : ∀ r j, r < M → j < n + M → T0.a r j = if j < n then (((T.getD r []).getD j 0 : Int) : Rat) else 0) (hb : ∀ r, r < M → T0.b r = n + r) {i j : Nat} (hi : i < M) (hj : j < n + M) :
    B.a i j = (if B.b i = j then 1 else 0) + sm (fun r => Cx n B i r * ((Ax T n r j : Int) : Rat)) M := by
  by_cases hjn : j < n
  · let y : Nat → Rat := fun q => if q < n then (if q = j then 1 else 0) else ((Ax T n (q - n) j : Int) : Rat)
    have y1 : ∀ q, q < n → y q = if q = j then 1 else 0 := fun q h => if_pos h
    have y2 : ∀ r, y (n + r) = ((Ax T n r j : Int) : Rat) := fun r => by
      show (if n + r < n then _ else _) = _
      rw [if_neg (by omega), Nat.add_sub_cancel_left]
    have hs0 : Sat (n + M) M T0.a T0.b y := by
      intro r hr
      rw [hb r hr, y2]
      have e : ∀ q, q < n + M → T0.a r q * y q = if q = j then (((T.getD r []).getD j 0 : Int) : Rat) else 0 := fun q hq => by
        rw [ha r q hr hq]
        by_cases h : q < n
        · rw [if_pos h, y1 q h]
          by_cases h2 : q = j
          · subst h2; rw [if_pos rfl, if_pos rfl]; grind
          · rw [if_neg h2, if_neg h2]; grind
        · rw [if_neg h, if_neg (by omega)]; grind
      rw [sm_congr e, sm_single (f := fun _ => (((T.getD r []).getD j 0 : Int) : Rat)) hj]
      unfold Ax; rw [if_pos hjn]
    have hsB := (I.eqv y).2 hs0 i hi
    rw [sm_split] at hsB
    have e1 : ∀ q, q < n → B.a i q * y q = if q = j then B.a i q else 0 := fun q hq => by
      rw [y1 q hq]
      by_cases h2 : q = j
      · rw [if_pos h2, if_pos h2]; grind
      · rw [if_neg h2, if_neg h2]; grind
    have e2 : ∀ r, r < M → B.a i (n + r) * y (n + r) = B.a i (n + r) * ((Ax T n r j : Int) : Rat) := fun r _ => by rw [y2]
    rw [sm_congr e1, sm_single (f := fun q => B.a i q) hjn, sm_congr e2] at hsB
    have e3 : ∀ r, r < M → Cx n B i r * ((Ax T n r j : Int) : Rat) = (if B.b i = n + r then ((Ax T n r j : Int) : Rat) else 0) + (B.a i (n + r) * ((Ax T n r j : Int) : Rat)) * (-1) := fun r _ => by
      unfold Cx
      by_cases h : B.b i = n + r
      · rw [if_pos h, if_pos h]; grind
      · rw [if_neg h, if_neg h]; grind
    rw [sm_congr e3, sm_add, sm_mul]
    have e4 : y (B.b i) = (if B.b i = j then 1 else 0) + sm (fun r => if B.b i = n + r then ((Ax T n r j : Int) : Rat) else 0) M := by
      by_cases h : B.b i < n
      · rw [y1 _ h, sm_zero fun r _ => if_neg (by omega)]; grind
      · have hlt := I.lt i hi
        obtain ⟨r0, hr0⟩ : ∃ r0, B.b i = n + r0 := ⟨B.b i - n, by omega⟩
        rw [hr0, y2, if_neg (by omega)]
        rw [sm_congr (g := fun r => if r = r0 then ((Ax T n r j : Int) : Rat) else 0) fun r _ => by
          by_cases h2 : r = r0
          · subst h2; rw [if_pos rfl, if_pos rfl]
          · rw [if_neg (by omega), if_neg h2]]
        rw [sm_single (f := fun r => ((Ax T n r j : Int) : Rat)) (by omega : r0 < M)]; grind
    rw [e4] at hsB
    grind
  · obtain ⟨r0, rfl⟩ : ∃ r0, j = n + r0 := ⟨j - n, by omega⟩
    rw [sm_congr (g := fun r => if r = r0 then -(Cx n B i r) else 0) fun r _ => by
      unfold Ax
      rw [if_neg (by omega)]
      by_cases h : r = r0
      · subst h; rw [if_pos rfl, if_pos rfl]; show _ * (-1 : Rat) = _; grind
      · rw [if_neg (by omega), if_neg h]; show _ * (0 : Rat) = _; grind]
    rw [sm_single (f := fun r => -(Cx n B i r)) (by omega : r0 < M)]
    unfold Cx
    grind

structure SmallS (up : List Int) (T : List (List Int)) (rt ls hs : List Int) : Prop where
  n : up.length ≤ 4
  m : T.length ≤ 3
  c : ∀ row ∈ T, ∀ x ∈ row, -10 ≤ x ∧ x ≤ 10
  r : ∀ x ∈ rt, -1000000 ≤ x ∧ x ≤ 1000000
  l : ∀ x ∈ ls, -1000000 ≤ x ∧ x ≤ 1000000
  h : ∀ x ∈ hs, -1000000 ≤ x ∧ x ≤ 1000000
  A : SysA up T rt
  ll : ls.length = up.length
  hl : hs.length = up.length
  le : ∀ (k : Nat) a b, ls[k]? = some a → hs[k]? = some b → a ≤ b
section
variable {up : List Int} {T : List (List Int)} {rt ls hs : List Int}
abbrev Tz (up : List Int) (T : List (List Int)) (rt ls hs : List Int) : Tb := tb0 up T rt ls hs T.length
theorem SmallS.lo (S : SmallS up T rt ls hs) {j : Nat} (hj : j < up.length + T.length) : ∃ z : Int, (-1000000 ≤ z ∧ z ≤ 1000000) ∧ (Tz up T rt ls hs).lo j = (z : Rat) := by
  rcases Nat.lt_or_ge j up.length with h | h
  · obtain ⟨x, hx⟩ : ∃ x, ls[j]? = some x := ⟨_, List.getElem?_eq_getElem (by have := S.ll; omega)⟩
    exact ⟨x, S.l x (mem_at hx), tb0_lo hx⟩
  · obtain ⟨y, hy⟩ : ∃ x, rt[j - up.length]? = some x := ⟨_, List.getElem?_eq_getElem (by have := S.A.1; omega)⟩
    have := tb0_lob (T := T) (hs := hs) S.ll S.A.1 hy
    rw [show up.length + (j - up.length) = j by omega] at this
    exact ⟨y, S.r y (mem_at hy), this⟩
theorem SmallS.hi (S : SmallS up T rt ls hs) {j : Nat} (hj : j < up.length + T.length) : ∃ z : Int, (-1000000 ≤ z ∧ z ≤ 1000000) ∧ (Tz up T rt ls hs).hi j = (z : Rat) := by
  rcases Nat.lt_or_ge j up.length with h | h
  · obtain ⟨x, hx⟩ : ∃ x, hs[j]? = some x := ⟨_, List.getElem?_eq_getElem (by have := S.hl; omega)⟩
    exact ⟨x, S.h x (mem_at hx), tb0_hi hx⟩
  · obtain ⟨y, hy⟩ : ∃ x, rt[j - up.length]? = some x := ⟨_, List.getElem?_eq_getElem (by have := S.A.1; omega)⟩
    have := tb0_hib (T := T) (ls := ls) S.hl S.A.1 hy
    rw [show up.length + (j - up.length) = j by omega] at this
    exact ⟨y, S.r y (mem_at hy), this⟩
theorem SmallS.lh (S : SmallS up T rt ls hs) : ∀ j, j < up.length + T.length → (Tz up T rt ls hs).lo j ≤ (Tz up T rt ls hs).hi j := fun j hj => by
  rcases Nat.lt_or_ge j up.length with h | h
  · obtain ⟨x, hx⟩ : ∃ x, ls[j]? = some x := ⟨_, List.getElem?_eq_getElem (by have := S.ll; omega)⟩
    obtain ⟨y, hy⟩ : ∃ x, hs[j]? = some x := ⟨_, List.getElem?_eq_getElem (by have := S.hl; omega)⟩
    rw [tb0_lo hx, tb0_hi hy]
    exact Rat.intCast_le_intCast.2 (S.le j x y hx hy)
  · obtain ⟨y, hy⟩ : ∃ x, rt[j - up.length]? = some x := ⟨_, List.getElem?_eq_getElem (by have := S.A.1; omega)⟩
    have e1 := tb0_lob (T := T) (hs := hs) S.ll S.A.1 hy
    have e2 := tb0_hib (T := T) (ls := ls) S.hl S.A.1 hy
    rw [show up.length + (j - up.length) = j by omega] at e1 e2
    rw [e1, e2]; exact Rat.le_refl
theorem SmallS.at0 (S : SmallS up T rt ls hs) : ∀ j, j < up.length + T.length → (∀ i, i < T.length → (Tz up T rt ls hs).b i ≠ j) → (Tz up T rt ls hs).v j = (Tz up T rt ls hs).lo j ∨ (Tz up T rt ls hs).v j = (Tz up T rt ls hs).hi j := fun j hj hn => by
  rcases Nat.lt_or_ge j up.length with h | h
  · obtain ⟨x, hx⟩ : ∃ x, ls[j]? = some x := ⟨_, List.getElem?_eq_getElem (by have := S.ll; omega)⟩
    left; rw [tb0_lo hx, tb0_v hx]
  · exact absurd (by rw [tb0_b (by omega)]; omega) (hn (j - up.length) (by omega))
theorem getD_mem0 {l : List Int} {P : Int → Prop} (h : ∀ x ∈ l, P x) (h0 : P 0) (k : Nat) : P (l.getD k 0) := by
  rw [List.getD_eq_getElem?_getD]
  cases hk : l[k]? with
  | none => exact h0
  | some x => exact h x (mem_at hk)
theorem SmallS.ax (S : SmallS up T rt ls hs) (r j : Nat) : -10 ≤ Ax T up.length r j ∧ Ax T up.length r j ≤ 10 := by
  unfold Ax
  split
  · refine getD_mem0 (P := fun x => -10 ≤ x ∧ x ≤ 10) (fun x hx => ?_) (by omega) j
    rw [List.getD_eq_getElem?_getD] at hx
    cases hr : T[r]? with
    | none => rw [hr] at hx; simp at hx
    | some row => rw [hr] at hx; exact S.c row (mem_at hr) x hx
  · split <;> omega
theorem SmallS.inv (S : SmallS up T rt ls hs) {c : Nat} {B : Tb} (hR : Rch (up.length + T.length) T.length (Tz up T rt ls hs) c B) : TbI (up.length + T.length) T.length (Tz up T rt ls hs).a (Tz up T rt ls hs).b B ∧ B.lo = (Tz up T rt ls hs).lo ∧ B.hi = (Tz up T rt ls hs).hi := by
  obtain ⟨I, e1, e2⟩ := Rch.inv (tb0_I S.A S.ll S.hl S.le) S.lh hR
  exact ⟨I, by funext j; unfold Tb.lo; rw [e1], by funext j; unfold Tb.hi; rw [e2]⟩
theorem SmallS.ext (S : SmallS up T rt ls hs) {B : Tb} (I : TbI (up.length + T.length) T.length (Tz up T rt ls hs).a (Tz up T rt ls hs).b B) {i j : Nat} (hi : i < T.length) (hj : j < up.length + T.length) :
    B.a i j = (if B.b i = j then 1 else 0) + sm (fun r => Cx up.length B i r * ((Ax T up.length r j : Int) : Rat)) T.length :=
  tb_ext I (fun r j hr hj => by
    have hrow : T[r]? = some (T.getD r []) := by rw [List.getD_eq_getElem?_getD, List.getElem?_eq_getElem hr]; rfl
    have hrl : (T.getD r []).length = up.length := S.A.2 _ (mem_at hrow)
    rw [tb0_a hrow (by omega)]
    by_cases h : j < up.length
    · rw [if_pos h]
    · rw [if_neg h, List.getD_eq_getElem?_getD (l := T.getD r []), List.getElem?_eq_none (by omega)]; rfl) (fun r hr => tb0_b hr) hi hj
structure Nums (n M : Nat) (B : Tb) (D : Int) : Prop where
  nz : D ≠ 0
  b : -6000 ≤ D ∧ D ≤ 6000
  c : ∀ i r, i < M → r < M → Q1 D 200 (Cx n B i r)
  a : ∀ i j, i < M → j < n + M → Q1 D 12000 (B.a i j)
  z : ∀ j, j < n + M → (∀ i, i < M → B.b i ≠ j) → ∃ z : Int, (-1000000 ≤ z ∧ z ≤ 1000000) ∧ B.v j = (z : Rat)
  v : ∀ j, j < n + M → Q1 D 84000000000 (B.v j)
theorem SmallS.nums (S : SmallS up T rt ls hs) {c : Nat} {B : Tb} (hR : Rch (up.length + T.length) T.length (Tz up T rt ls hs) c B) : ∃ D, Nums up.length T.length B D := by
  obtain ⟨I, _, _⟩ := S.inv hR
  have hn := S.n
  have hm := S.m
  obtain ⟨D, d1, d2, d3⟩ := det_ex S.m (C := Cx up.length B) (P := fun r i => Ax T up.length r (B.b i)) (fun r i => S.ax r _) (fun i i' hi hi' => by
    have h1 := S.ext I hi (I.lt i' hi')
    rw [I.z i i' hi hi'] at h1
    by_cases e : i = i'
    · subst e; rw [if_pos rfl] at h1 ⊢; grind
    · rw [if_neg (fun h => e (I.inj i i' hi hi' h))] at h1
      rw [if_neg e]; grind)
  have ha : ∀ i j, i < T.length → j < up.length + T.length → Q1 D 12000 (B.a i j) := fun i j hi hj => by
    rw [S.ext I hi hj]
    have h1 : Q1 D 6000 (if B.b i = j then (1 : Rat) else 0) := by
      have := q1_int (D := D) (d := 6000) (z := if B.b i = j then 1 else 0) (Z := 1) d2 (by split <;> omega)
      rw [cast_ite] at this
      exact q1_mono this (by omega)
    have h2 := q1_sm (D := D) (B := 200 * 10) (f := fun r => Cx up.length B i r * ((Ax T up.length r j : Int) : Rat)) (n := T.length) fun r hr => q1_mulz (d3 i r hi hr) (S.ax r j)
    exact q1_mono (q1_add h1 h2) (by omega)
  have hz : ∀ j, j < up.length + T.length → (∀ i, i < T.length → B.b i ≠ j) → ∃ z : Int, (-1000000 ≤ z ∧ z ≤ 1000000) ∧ B.v j = (z : Rat) := fun j hj hnb => by
    rcases hR.atb (tb0_I S.A S.ll S.hl S.le) S.lh S.at0 j hj hnb with h | h
    · rw [h]; exact S.lo hj
    · rw [h]; exact S.hi hj
  refine ⟨D, d1, d2, d3, ha, hz, fun j hj => ?_⟩
  by_cases hb : ∃ i, i < T.length ∧ B.b i = j
  · obtain ⟨i, hi, rfl⟩ := hb
    rw [I.sat i hi]
    have h1 := q1_sm (D := D) (B := 12000 * 1000000) (f := fun j => B.a i j * B.v j) (n := up.length + T.length) fun q hq => by
      by_cases hqb : ∃ i', i' < T.length ∧ B.b i' = q
      · obtain ⟨i', hi', rfl⟩ := hqb
        rw [I.z i i' hi hi', Rat.zero_mul]
        exact q1_zero D (by omega)
      · obtain ⟨z, z1, z2⟩ := hz q hq fun i' hi' e => hqb ⟨i', hi', e⟩
        rw [z2]; exact q1_mulz (ha i q hi hq) z1
    exact q1_mono h1 (by omega)
  · obtain ⟨z, z1, z2⟩ := hz j hj fun i hi e => hb ⟨i, hi, e⟩
    rw [z2]
    exact q1_mono (q1_int d2 z1) (by omega)
theorem SmallS.mv (S : SmallS up T rt ls hs) {c : Nat} {B : Tb} (hR : Rch (up.length + T.length) T.length (Tz up T rt ls hs) c B) (ok : TbOk (up.length + T.length) T.length B) {row k : Nat} {below : Bool} (hs' : Stp (up.length + T.length) T.length B row below k) :
    MvFit (up.length + T.length) T.length B row k (goal B row below) := by
  obtain ⟨I, elo, ehi⟩ := S.inv hR
  obtain ⟨D, U⟩ := S.nums hR
  obtain ⟨hw, hk, hcan, _⟩ := hs'
  have hr := wr_lt hw
  dsimp only at hr
  have hnz := hcan.1
  have hkb : ∀ i, i < T.length → B.b i ≠ k := fun i hi e => hnz (by rw [← e]; exact I.z row i hr hi)
  have hb := I.lt row hr
  have D0 := U.nz
  have Db := U.b
  obtain ⟨K, K1, K2, hK⟩ := U.a row k hr hk
  have K0 : K ≠ 0 := by
    intro h
    rw [h] at hK
    have h1 : B.a row k * (D : Rat) = 0 := hK
    have h2 : (D : Rat) ≠ 0 := fun e => D0 (by exact_mod_cast e)
    rcases Rat.mul_eq_zero.1 h1 with q | q
    · exact hnz q
    · exact h2 q
  have hDK : D * K ≠ 0 := Int.mul_ne_zero D0 K0
  have bDK := abs_mul Db ⟨K1, K2⟩
  obtain ⟨zg, g1, g2⟩ : ∃ z : Int, (-1000000 ≤ z ∧ z ≤ 1000000) ∧ goal B row below = (z : Rat) := by
    unfold goal
    rw [elo, ehi]
    split
    · exact S.lo hb
    · exact S.hi hb
  obtain ⟨zk, zk1, zk2⟩ := U.z k hk hkb
  have q1' : Q1 D 90000000000 (goal B row below + -(B.v (B.b row))) := by
    rw [g2]; exact q1_mono (q1_add (q1_int Db g1) (q1_neg (U.v _ hb))) (by omega)
  have qby : Q1 K 90000000000 (B.by row k (goal B row below)) := q1_div q1' hK hnz
  have f2 : ∀ {E A : Int} {x : Rat}, E = K ∨ E = D → Q1 E A x → A ≤ 100000000000000000 → Fits x := fun {E A x} hE h hA => by
    rcases hE with rfl | rfl
    · exact q1_fits h K0 (by omega) hA
    · exact q1_fits h D0 (by omega) hA
  have f3 : ∀ {A : Int} {x : Rat}, Q1 (D * K) A x → A ≤ 100000000000000000 → Fits x := fun {A x} h hA => q1_fits h hDK (by omega) hA
  have hone : Q1 D 6000 (1 : Rat) := q1_int (z := 1) (Z := 1) Db (by omega)
  have hnr : ∀ j, j < up.length + T.length → Q1 K 12000 ((B.nr row k).getD j 0) := fun j hj => by
    rw [nr_val ok hr hj]
    unfold nrow
    split
    · exact q1_mono (q1_div hone hK hnz) (by omega)
    · split
      · exact q1_zero K (by omega)
      · exact q1_neg0 (q1_div (U.a row j hr hj) hK hnz)
  refine ⟨f2 (.inr rfl) q1' (by omega), f2 (.inl rfl) qby (by omega), ?_, fun i hi hir _ => ?_, fun j hj _ => ?_, ?_, fun i hi hir _ j hj _ => ?_⟩
  · rw [zk2]
    exact f2 (.inl rfl) (q1_add (q1_int (d := 12000) ⟨K1, K2⟩ zk1) qby) (by omega)
  · have e : (B.vN row k (goal B row below) i).getD (B.b i) 0 = B.v (B.b i) := by
      rw [vN_other fun i' h1 _ e => by have := I.inj i' i (by omega) hi e; omega, v0_val ok (ok.b_lt hi), if_neg (fun e => hkb i hi e.symm), if_neg (fun e => hir (I.inj row i hr hi e).symm)]
    have h1 := q1_mul (U.a i k hi hk) qby
    refine ⟨f3 h1 (by omega), ?_⟩
    rw [e]
    exact f3 (q1_add (q1_up (e := 12000) (U.v _ (I.lt i hi)) ⟨K1, K2⟩) h1) (by omega)
  · have h1 := q1_div (U.a row j hr hj) hK hnz
    exact ⟨f2 (.inl rfl) h1 (by omega), f2 (.inl rfl) (q1_neg0 h1) (by omega)⟩
  · exact f2 (.inl rfl) (q1_div hone hK hnz) (by omega)
  · have h1 := q1_mul (U.a i k hi hk) (hnr j hj)
    refine ⟨f3 h1 (by omega), ?_⟩
    have hl := ok.row_len hi
    rw [addN_val (by rw [List.length_set, hl]; exact hj), if_neg (by omega), getD_set_in (by rw [hl]; exact hj)]
    have h2 : Q1 D 12000 (if k = j then 0 else (B.rows.getD i []).getD j 0) := by
      split
      · exact q1_zero D (by omega)
      · exact U.a i j hi hj
    exact f3 (q1_add (q1_up (e := 12000) h2 ⟨K1, K2⟩) h1) (by omega)
theorem sumQ_zero (row : List Int) (n : Nat) : ∀ k, sumQ row (List.replicate n 0) k = 0
  | 0 => rfl
  | k + 1 => by
    have h0 : (List.replicate n (0 : Int)).getD k 0 = 0 := getD_mem0 (P := fun x => x = 0) (fun x hx => (List.mem_replicate.1 hx).2) rfl k
    unfold sumQ
    rw [sumQ_zero row n k, h0]
    split
    · show (0 : Rat) + _ * (0 : Rat) = 0; grind
    · rfl
theorem bg_zero (n m : Nat) (T : List (List Int)) : BgFit m T (List.replicate n 0) := by
  intro row _ k _ _
  have h0 : (List.replicate n (0 : Int)).getD k 0 = 0 := getD_mem0 (P := fun x => x = 0) (fun x hx => (List.mem_replicate.1 hx).2) rfl k
  rw [sumQ_zero, h0]
  have e1 : ((row.getD k 0 : Int) : Rat) * ((0 : Int) : Rat) = ((0 : Int) : Rat) := by show _ * (0 : Rat) = (0 : Rat); grind
  rw [e1]
  have e2 : (0 : Rat) + ((0 : Int) : Rat) = ((0 : Int) : Rat) := by show (0 : Rat) + 0 = 0; grind
  rw [e2]
  exact ⟨fits_of_int (by omega), fits_of_int (by omega)⟩
theorem dead {N M : Nat} {B : Tb} {a0 : Nat → Nat → Rat} {b0 : Nat → Nat} (I : TbI N M a0 b0 B) {row : Nat} {below : Bool} (hr : row < M) (hv : if below = true then B.v (B.b row) < B.lo (B.b row) else B.hi (B.b row) < B.v (B.b row)) (hd : ∀ k, k < N → ¬ B.can row below k)
    (y : Nat → Rat) (hy : ∀ j, j < N → B.lo j ≤ y j ∧ y j ≤ B.hi j) : if below = true then sm (fun j => B.a row j * y j) N < y (B.b row) else y (B.b row) < sm (fun j => B.a row j * y j) N := by
  have hb := hy _ (I.lt row hr)
  have hsat := I.sat row hr
  have each : ∀ j, j < N → B.a row j = 0 ∨ (¬ (if decide (0 < B.a row j) = below then B.v j < B.hi j else B.lo j < B.v j)) := fun j hj => by
    by_cases hz : B.a row j = 0
    · exact .inl hz
    · refine .inr fun h => hd j hj ⟨hz, fun e => hz (by rw [e]; exact I.z row row hr hr), h⟩
  cases below with
  | true =>
    rw [if_pos rfl] at hv ⊢
    have : sm (fun j => B.a row j * y j) N ≤ sm (fun j => B.a row j * B.v j) N := sm_le fun j hj => by
      rcases each j hj with h | h
      · rw [h]; grind
      · have hyj := hy j hj
        by_cases hp : 0 < B.a row j
        · rw [if_pos (by simp [hp])] at h
          exact Rat.mul_le_mul_of_nonneg_left (Rat.le_trans hyj.2 (Rat.not_lt.1 h)) (Rat.le_of_lt hp)
        · rw [if_neg (by simp [hp])] at h
          have := Rat.mul_le_mul_of_nonneg_left (Rat.le_trans (Rat.not_lt.1 h) hyj.1) (show 0 ≤ -(B.a row j) by grind)
          grind
    rw [← hsat] at this
    grind
  | false =>
    simp only [Bool.false_eq_true, if_false] at hv ⊢
    have : sm (fun j => B.a row j * B.v j) N ≤ sm (fun j => B.a row j * y j) N := sm_le fun j hj => by
      rcases each j hj with h | h
      · rw [h]; grind
      · have hyj := hy j hj
        by_cases hp : 0 < B.a row j
        · rw [if_neg (by simp [hp])] at h
          exact Rat.mul_le_mul_of_nonneg_left (Rat.le_trans (Rat.not_lt.1 h) hyj.1) (Rat.le_of_lt hp)
        · rw [if_pos (by simp [hp])] at h
          have := Rat.mul_le_mul_of_nonneg_left (Rat.le_trans hyj.2 (Rat.not_lt.1 h)) (show 0 ≤ -(B.a row j) by grind)
          grind
    rw [← hsat] at this
    grind
theorem low_sm (T : List (List Int)) (M : List (Int × Int)) (lo hi : List Int) : ∀ n, lowN T M lo hi n = sm (fun k => colQ T M k * ((pickB (colQ T M k) lo hi k : Int) : Rat)) n
  | 0 => rfl
  | n + 1 => by show lowN T M lo hi n + _ = sm _ n + _; rw [low_sm T M lo hi n]
theorem mults_get {B : Tb} (I : TbI (up.length + T.length) T.length (Tz up T rt ls hs).a (Tz up T rt ls hs).b B) {row r : Nat} (hr : row < T.length) (hrM : r < T.length) : (mults up.length T.length B row)[r]? = some (Cx up.length B row r) := by
  unfold mults
  rw [List.getElem?_map, List.getElem?_range hrM]
  show some _ = some _
  congr 1
  dsimp only
  unfold Cx
  by_cases h : B.b row = up.length + r
  · rw [if_pos h, if_pos h]
    have := I.z row row hr hr
    rw [h] at this
    rw [this]; grind
  · rw [if_neg h, if_neg h]
theorem SmallS.bnd (S : SmallS up T rt ls hs) (hok : sysE up T rt = 0) {c : Nat} {B : Tb} (hR : Rch (up.length + T.length) T.length (Tz up T rt ls hs) c B) {row : Nat} {below : Bool} (hw : B.wr T.length = some (row, below)) (hd : ∀ k, k < up.length + T.length → ¬ B.can row below k) :
    BndP up T rt ls hs ((mults up.length T.length B row).map prQ) := by
  obtain ⟨I, elo, ehi⟩ := S.inv hR
  obtain ⟨D, U⟩ := S.nums hR
  obtain ⟨hr, hv1, hv2, _⟩ := wr_spec hw
  dsimp only at hr hv1 hv2
  have hA := S.A
  have hn := S.n
  have hm := S.m
  have hget : ∀ r, r < T.length → ((mults up.length T.length B row).map prQ)[r]? = some (prQ (Cx up.length B row r)) := fun r h => by rw [List.getElem?_map, mults_get I hr h]; rfl
  have hcfit : ∀ r, r < T.length → Fits (Cx up.length B row r) := fun r h => q1_fits (U.c row r hr h) U.nz (by have := U.b; omega) (by omega)
  have hcol : ∀ k, k < up.length → colQ T ((mults up.length T.length B row).map prQ) k = sm (fun r => Cx up.length B row r * ((Ax T up.length r k : Int) : Rat)) T.length := fun k hk => by
    unfold colQ
    rw [dotN_sm']
    refine sm_congr fun r h => ?_
    have hrow : T[r]? = some (T.getD r []) := by rw [List.getD_eq_getElem?_getD, List.getElem?_eq_getElem h]; rfl
    have hrl : (T.getD r []).length = up.length := hA.2 _ (mem_at hrow)
    rw [dotT_at (c := (T.getD r []).getD k 0) (colI_get hrow (by rw [List.getD_eq_getElem?_getD (l := T.getD r []), List.getElem?_eq_getElem (by omega)]; rfl)) (hget r h), ratv_fits]
    unfold Ax
    rw [if_pos hk]
  have hrhs : rhsQ T rt ((mults up.length T.length B row).map prQ) = sm (fun r => Cx up.length B row r * ((rt.getD r 0 : Int) : Rat)) T.length := by
    unfold rhsQ
    rw [dotN_sm']
    refine sm_congr fun r h => ?_
    rw [dotT_at (c := rt.getD r 0) (by rw [List.getD_eq_getElem?_getD, List.getElem?_eq_getElem (by have := hA.1; omega)]; rfl) (hget r h), ratv_fits]
  have hcolQ : ∀ k, k < up.length → Q1 D 6000 (colQ T ((mults up.length T.length B row).map prQ) k) := fun k hk => by
    rw [hcol k hk]
    exact q1_mono (q1_sm (B := 200 * 10) fun r h => q1_mulz (U.c row r hr h) (S.ax r k)) (by omega)
  have hrhsQ : Q1 D 600000000 (rhsQ T rt ((mults up.length T.length B row).map prQ)) := by
    rw [hrhs]
    exact q1_mono (q1_sm (B := 200 * 1000000) fun r h => q1_mulz (U.c row r hr h) (getD_mem0 (P := fun x => -1000000 ≤ x ∧ x ≤ 1000000) S.r (by omega) r)) (by omega)
  have Db := U.b
  refine ⟨combE_0 hok (by simp [mults]) (fun p hp => ?_) ⟨fun k hk => q1_fits (hcolQ k hk) U.nz (by omega) (by omega), q1_fits hrhsQ U.nz (by omega) (by omega)⟩, S.ll, S.hl, fun x hx => ?_, fun x hx => ?_, ?_⟩
  · obtain ⟨r, hr'⟩ := List.getElem?_of_mem hp
    have hrM : r < T.length := by have := (List.getElem?_eq_some_iff.1 hr').1; simpa [mults] using this
    rw [hget r hrM] at hr'
    cases hr'
    exact frac_fits (hcfit r hrM)
  · have := S.l x hx; exact ⟨by omega, by omega⟩
  · have := S.h x hx; exact ⟨by omega, by omega⟩
  -- a point of the box
  have point : ∀ z : Nat → Int, (∀ k, k < up.length → ls.getD k 0 ≤ z k ∧ z k ≤ hs.getD k 0) → (if below = true then sm (fun k => colQ T ((mults up.length T.length B row).map prQ) k * ((z k : Int) : Rat)) up.length < rhsQ T rt ((mults up.length T.length B row).map prQ) else rhsQ T rt ((mults up.length T.length B row).map prQ) < sm (fun k => colQ T ((mults up.length T.length B row).map prQ) k * ((z k : Int) : Rat)) up.length) := fun z hz => by
    let y : Nat → Rat := fun j => if j < up.length then ((z j : Int) : Rat) else ((rt.getD (j - up.length) 0 : Int) : Rat)
    have y1 : ∀ j, j < up.length → y j = ((z j : Int) : Rat) := fun j h => if_pos h
    have y2 : ∀ r, y (up.length + r) = ((rt.getD r 0 : Int) : Rat) := fun r => by
      show (if up.length + r < up.length then _ else _) = _
      rw [if_neg (by omega), Nat.add_sub_cancel_left]
    have hyb : ∀ j, j < up.length + T.length → B.lo j ≤ y j ∧ y j ≤ B.hi j := fun j hj => by
      rw [elo, ehi]
      rcases Nat.lt_or_ge j up.length with h | h
      · obtain ⟨a, ha⟩ : ∃ x, ls[j]? = some x := ⟨_, List.getElem?_eq_getElem (by have := S.ll; omega)⟩
        obtain ⟨b, hb⟩ : ∃ x, hs[j]? = some x := ⟨_, List.getElem?_eq_getElem (by have := S.hl; omega)⟩
        have := hz j h
        rw [getD_some ha, getD_some hb] at this
        rw [y1 j h, tb0_lo ha, tb0_hi hb]
        exact ⟨Rat.intCast_le_intCast.2 this.1, Rat.intCast_le_intCast.2 this.2⟩
      · obtain ⟨r, rfl⟩ : ∃ r, j = up.length + r := ⟨j - up.length, by omega⟩
        obtain ⟨x, hx⟩ : ∃ x, rt[r]? = some x := ⟨_, List.getElem?_eq_getElem (by have := hA.1; omega)⟩
        rw [y2, getD_some hx, tb0_lob S.ll hA.1 hx, tb0_hib S.hl hA.1 hx]
        exact ⟨Rat.le_refl, Rat.le_refl⟩
    have hdd := dead I hr (by
      rw [hv2]
      by_cases h : B.v (B.b row) < B.lo (B.b row)
      · rw [if_pos (by simpa using h)]; exact h
      · rw [if_neg (by simpa using h)]; exact hv1.resolve_left h) hd y hyb
    -- the row is a combination of the first rows
    have e1 : sm (fun j => B.a row j * y j) (up.length + T.length) = y (B.b row) + (sm (fun k => colQ T ((mults up.length T.length B row).map prQ) k * ((z k : Int) : Rat)) up.length + -(rhsQ T rt ((mults up.length T.length B row).map prQ))) := by
      have e2 : ∀ j, j < up.length + T.length → B.a row j * y j = (if j = B.b row then y j else 0) + sm (fun r => Cx up.length B row r * ((Ax T up.length r j : Int) : Rat)) T.length * y j := fun j hj => by
        rw [S.ext I hr hj]
        by_cases h : B.b row = j
        · rw [if_pos h, if_pos h.symm]; grind
        · rw [if_neg h, if_neg (fun e => h e.symm)]; grind
      rw [sm_congr e2, sm_add, sm_single (I.lt row hr), sm_split]
      congr 1
      congr 1
      · exact sm_congr fun k hk => by rw [y1 k hk, hcol k hk]
      · rw [hrhs]
        have e3 : ∀ r, r < T.length → sm (fun r' => Cx up.length B row r' * ((Ax T up.length r' (up.length + r) : Int) : Rat)) T.length * y (up.length + r) = Cx up.length B row r * ((rt.getD r 0 : Int) : Rat) * (-1) := fun r h => by
          rw [sm_congr (g := fun r' => if r' = r then -(Cx up.length B row r') else 0) fun r' _ => by
            unfold Ax
            rw [if_neg (by omega)]
            by_cases h : r' = r
            · subst h; rw [if_pos rfl, if_pos rfl]; show _ * (-1 : Rat) = _; grind
            · rw [if_neg (by omega), if_neg h]; show _ * (0 : Rat) = _; grind]
          rw [sm_single (f := fun r' => -(Cx up.length B row r')) h, y2]
          grind
        rw [sm_congr e3, sm_mul]
        grind
    rw [e1] at hdd
    cases below with
    | true => rw [if_pos rfl] at hdd ⊢; grind
    | false => simp only [Bool.false_eq_true, if_false] at hdd ⊢; grind
  have pk : ∀ k, k < up.length → ∃ a b, ls[k]? = some a ∧ hs[k]? = some b ∧ a ≤ b ∧ ls.getD k 0 = a ∧ hs.getD k 0 = b := fun k hk => by
    obtain ⟨a, ha⟩ : ∃ x, ls[k]? = some x := ⟨_, List.getElem?_eq_getElem (by have := S.ll; omega)⟩
    obtain ⟨b, hb⟩ : ∃ x, hs[k]? = some x := ⟨_, List.getElem?_eq_getElem (by have := S.hl; omega)⟩
    exact ⟨a, b, ha, hb, S.le k a b ha hb, getD_some ha, getD_some hb⟩
  right
  cases hbl : below with
  | true =>
    right
    rw [low_sm]
    have := point (fun k => pickB (colQ T ((mults up.length T.length B row).map prQ) k) hs ls k) fun k hk => by
      obtain ⟨a, b, ha, hb, hab, e1, e2⟩ := pk k hk
      rw [pick_at hb ha, e1, e2]
      split <;> omega
    rw [hbl, if_pos rfl] at this
    exact this
  | false =>
    left
    rw [low_sm]
    have := point (fun k => pickB (colQ T ((mults up.length T.length B row).map prQ) k) ls hs k) fun k hk => by
      obtain ⟨a, b, ha, hb, hab, e1, e2⟩ := pk k hk
      rw [pick_at ha hb, e1, e2]
      split <;> omega
    rw [hbl] at this
    simpa using this
theorem small_never (S : SmallS up T rt (List.replicate up.length 0) up) (hok : sysE up T rt = 0) : ¬ RlxC up T rt (List.replicate up.length 0) up 2000 := by
  rintro (h | ⟨c, B, hR, ok, h⟩)
  · exact h (bg_zero _ _ _)
  · rcases h with h | ⟨row, below, k, h1, h2⟩ | ⟨row, below, h1, h2, h3⟩
    · have := rch_short S.A S.ll S.hl S.le S.n S.m hR
      omega
    · exact h2 (S.mv hR ok h1)
    · exact h3 (S.bnd hok hR h1 h2)
end
end Go.Proofs.Ytajpdnphamomjaa

/- The conditions of functions, printed by our tool; each is checked against the code by the kernel. -/



namespace Go.Proofs
open Go Go.V Go.RowKit
end Go.Proofs

/- LinearSolves. -/



namespace Go.Proofs.Ytajpdnphamomjaa
open Go.RowKit Go.Q Go.Q.Num Go.V

theorem SmallS.of {up : List Int} {T : List (List Int)} {rt : List Int} (hok : sysE up T rt = 0) (hn : up.length ≤ 4) (hm : T.length ≤ 3) (hc : ∀ row ∈ T, ∀ x ∈ row, -10 ≤ x ∧ x ≤ 10) (hr : ∀ x ∈ rt, -1000000 ≤ x ∧ x ≤ 1000000) (hu : ∀ x ∈ up, 0 ≤ x ∧ x ≤ 1000000) : SmallS up T rt (List.replicate up.length 0) up := by
  obtain ⟨_, _, _, hA⟩ := sysE_ok hok
  refine ⟨hn, hm, hc, hr, fun x hx => by rw [(List.mem_replicate.1 hx).2]; omega, fun x hx => by have := hu x hx; omega, hA, by simp, rfl, fun k a b ha hb => ?_⟩
  have h0 := (List.mem_replicate.1 (mem_at ha)).2
  have := hu b (mem_at hb)
  omega
end Go.Proofs.Ytajpdnphamomjaa

/- The conditions of functions, printed by our tool; each is checked against the code by the kernel. -/



namespace Go.Proofs
open Go Go.V Go.RowKit
def S12 (l_a : Option Addr) (l_n : Nat) (l_c : Nat) (m_a : Option Addr) (m_n : Nat) (m_c : Nat) (w0 : World) (R : Value → World → Prop) : Prop :=
 br (decide (((m_n : Nat) : Int) > 12)) (R (.bool true) w0)
 (wr Try.prog (Instr.box 50 (.agg #[(.slice l_a l_n l_c), (.int .i64 0)])) (.one .addr) w0 fun (x1 : Addr) w2 =>
 call Try.prog 34 [(.pointer (some x1)), (.int .i64 4), (.int .i64 0), (.int .i64 20)] (.one (.agg [.slice, .slice, .slice])) w2 fun (x3 : (Hd3 × Hd3 × Hd3 × Unit)) w4 =>
 wr Try.prog (Instr.alloc 43 true (.tuple #[])) (.one .addr) w4 fun (x5 : Addr) w6 =>
 wu Try.prog (Instr.storeAt 43 (.pointer (some x5)) (.agg #[(.slice x3.1.1 x3.1.2.1 x3.1.2.2), (.slice x3.2.1.1 x3.2.1.2.1 x3.2.1.2.2), (.slice x3.2.2.1.1 x3.2.2.1.2.1 x3.2.2.1.2.2)])) w6 fun w7 =>
 rd Try.prog (Instr.loadAt 40 (.pointer (some x5))) (.one .slice) w7 fun (x8 : Hd3) =>
 wr Try.prog (Instr.makeSlice 33 (.int .i64 ((x8.2.1 : Nat) : Int)) (.int .i64 ((x8.2.1 : Nat) : Int))) (.one .slice) w7 fun (x9 : Hd3) w10 =>
 loop (T := (Int × Unit)) (0, ()) w10 fun (again11 : (Int × Unit) → World → Prop) (s12 : (Int × Unit)) w13 => ∀ _ : Nat → Value,
 br (decide (s12.1 < ((x9.2.1 : Nat) : Int))) (rd Try.prog (Instr.loadAt 40 (.pointer (some x5))) (.one .slice) w13 fun (x14 : Hd3) =>
 rdp Try.prog (Instr.indexAt 40 (.slice x14.1 x14.2.1 x14.2.2) (.int .i64 s12.1)) (.one .addr) fun (x15 : Addr) =>
 rd Try.prog (Instr.loadAt 2 (.pointer (some x15))) (.one (.int .i64)) w13 fun (x16 : Int) =>
 z (IntKind.wrap .i64 (x16 + 1)) fun (z17 : Int) =>
 call Try.prog 35 [(.pointer (some x1)), (.int .i64 z17)] (.one (.one (.int .i64))) w13 fun (x18 : Int) w19 =>
 rdp Try.prog (Instr.indexAt 33 (.slice x9.1 x9.2.1 x9.2.2) (.int .i64 s12.1)) (.one .addr) fun (x20 : Addr) =>
 wu Try.prog (Instr.storeAt 23 (.pointer (some x20)) (.agg #[(.int .i64 x18), (.int .i64 1)])) w19 fun w21 =>
 z (IntKind.wrap .i64 (s12.1 + 1)) fun (z22 : Int) =>
 again11 (z22, ()) w21)
 (call Try.prog 35 [(.pointer (some x1)), (.int .i64 4)] (.one (.one (.int .i64))) w13 fun (x23 : Int) w24 =>
 loop (T := (Int × Unit)) (x23, ()) w24 fun (again25 : (Int × Unit) → World → Prop) (s26 : (Int × Unit)) w27 => ∀ _ : Nat → Value,
 br (decide (s26.1 > 0)) (wr Try.prog (Instr.makeSlice 40 (.int .i64 ((x9.2.1 : Nat) : Int)) (.int .i64 ((x9.2.1 : Nat) : Int))) (.one .slice) w27 fun (x28 : Hd3) w29 =>
 loop (T := (Int × Int × Unit)) (0, 0, ()) w29 fun (again30 : (Int × Int × Unit) → World → Prop) (s31 : (Int × Int × Unit)) w32 => ∀ _ : Nat → Value,
 br (decide (s31.2.1 < ((x9.2.1 : Nat) : Int))) (call Try.prog 35 [(.pointer (some x1)), (.int .i64 21)] (.one (.one (.int .i64))) w32 fun (x33 : Int) w34 =>
 z (IntKind.wrap .i64 (x33 - 10)) fun (z35 : Int) =>
 rdp Try.prog (Instr.indexAt 40 (.slice x28.1 x28.2.1 x28.2.2) (.int .i64 s31.2.1)) (.one .addr) fun (x36 : Addr) =>
 wu Try.prog (Instr.storeAt 2 (.pointer (some x36)) (.int .i64 z35)) w34 fun w37 =>
 drw w37 fun w38 =>
 rdp Try.prog (Instr.indexAt 40 (.slice x28.1 x28.2.1 x28.2.2) (.int .i64 s31.2.1)) (.one .addr) fun (x39 : Addr) =>
 rd Try.prog (Instr.loadAt 2 (.pointer (some x39))) (.one (.int .i64)) w38 fun (x40 : Int) =>
 rdp Try.prog (Instr.indexAt 33 (.slice x9.1 x9.2.1 x9.2.2) (.int .i64 s31.2.1)) (.one .addr) fun (x41 : Addr) =>
 rd Try.prog (Instr.loadAt 2 (.pointer (some x41))) (.one (.int .i64)) w38 fun (x42 : Int) =>
 z (IntKind.wrap .i64 (x40 * x42)) fun (z43 : Int) =>
 z (IntKind.wrap .i64 (s31.1 + z43)) fun (z44 : Int) =>
 z (IntKind.wrap .i64 (s31.2.1 + 1)) fun (z45 : Int) =>
 again30 (z44, z45, ()) w38)
 (drw w32 fun w46 => flExC w46 fun E49 G48 Y47 F50 =>
 rdE Try.prog (ER Y47 [4, 9, 11, 13] E49) (Instr.loadAt 41 (.pointer (some (Addr.add x5 1)))) (.one .slice) w46 fun (x51 : Hd3) =>
 flcC Y47 3 E49 w46 (fun _w53 => True) (fun (D54 : Nat → Bool) w52 =>
   wr Try.prog (Instr.buildSlice 41 1 #[(0, (.slice x28.1 x28.2.1 x28.2.2))]) (.one .slice) w52 fun (x55 : Hd3) w56 =>
 (E49 w52 w56 ∧ G48 3 w52 w56 ∧ Y47 (setD D54 3) w56 ∧ F50 3 [] (.slice x55.1 x55.2.1 x55.2.2) w56))
  fun (x57 : Hd3) =>
 flcC Y47 4 E49 w46 (fun w59 => F50 3 [] (.slice x57.1 x57.2.1 x57.2.2) w59 ∧ True) (fun (D60 : Nat → Bool) w58 =>
   wr Try.prog (Builtin.append_ #[41, 41] 41 #[(.slice x51.1 x51.2.1 x51.2.2), (.slice x57.1 x57.2.1 x57.2.2)]) (.one .slice) w58 fun (x61 : Hd3) w62 =>
 (E49 w58 w62 ∧ G48 4 w58 w62 ∧ Y47 (setD D60 4) w62 ∧ F50 4 [(.slice x51.1 x51.2.1 x51.2.2), (.slice x57.1 x57.2.1 x57.2.2)] (.slice x61.1 x61.2.1 x61.2.2) w62))
  fun (x63 : Hd3) =>
 rdE Try.prog (ER Y47 [9, 11, 13] E49) (Instr.loadAt 40 (.pointer (some (Addr.add x5 2)))) (.one .slice) w46 fun (x64 : Hd3) =>
 flcC Y47 8 E49 w46 (fun _w66 => True) (fun (D67 : Nat → Bool) w65 =>
   wr Try.prog (Instr.buildSlice 40 1 #[(0, (.int .i64 s31.1))]) (.one .slice) w65 fun (x68 : Hd3) w69 =>
 (E49 w65 w69 ∧ G48 8 w65 w69 ∧ Y47 (setD D67 8) w69 ∧ F50 8 [] (.slice x68.1 x68.2.1 x68.2.2) w69))
  fun (x70 : Hd3) =>
 flcC Y47 9 E49 w46 (fun w72 => F50 8 [] (.slice x70.1 x70.2.1 x70.2.2) w72 ∧ F50 4 [(.slice x51.1 x51.2.1 x51.2.2), (.slice x57.1 x57.2.1 x57.2.2)] (.slice x63.1 x63.2.1 x63.2.2) w72 ∧ F50 3 [] (.slice x57.1 x57.2.1 x57.2.2) w72 ∧ True) (fun (D73 : Nat → Bool) w71 =>
   wr Try.prog (Builtin.append_ #[40, 40] 40 #[(.slice x64.1 x64.2.1 x64.2.2), (.slice x70.1 x70.2.1 x70.2.2)]) (.one .slice) w71 fun (x74 : Hd3) w75 =>
 (E49 w71 w75 ∧ G48 9 w71 w75 ∧ Y47 (setD D73 9) w75 ∧ F50 9 [(.slice x64.1 x64.2.1 x64.2.2), (.slice x70.1 x70.2.1 x70.2.2)] (.slice x74.1 x74.2.1 x74.2.2) w75))
  fun (x76 : Hd3) =>
 flendC Y47 [9, 8, 4, 3] E49 w46 (fun w78 => F50 9 [(.slice x64.1 x64.2.1 x64.2.2), (.slice x70.1 x70.2.1 x70.2.2)] (.slice x76.1 x76.2.1 x76.2.2) w78 ∧ F50 8 [] (.slice x70.1 x70.2.1 x70.2.2) w78 ∧ F50 4 [(.slice x51.1 x51.2.1 x51.2.2), (.slice x57.1 x57.2.1 x57.2.2)] (.slice x63.1 x63.2.1 x63.2.2) w78 ∧ F50 3 [] (.slice x57.1 x57.2.1 x57.2.2) w78 ∧ True) fun w77 =>
 wu Try.prog (Instr.storeAt 41 (.pointer (some (Addr.add x5 1))) (.slice x63.1 x63.2.1 x63.2.2)) w77 fun w79 =>
 wu Try.prog (Instr.storeAt 40 (.pointer (some (Addr.add x5 2))) (.slice x76.1 x76.2.1 x76.2.2)) w79 fun w80 =>
 z (IntKind.wrap .i64 (s26.1 - 1)) fun (z81 : Int) =>
 again25 (z81, ()) w80))
 (rd Try.prog (Instr.loadAt 43 (.pointer (some x5))) (.agg [.slice, .slice, .slice]) w27 fun (x82 : (Hd3 × Hd3 × Hd3 × Unit)) =>
 call Try.prog 43 [(.agg #[(.slice x82.1.1 x82.1.2.1 x82.1.2.2), (.slice x82.2.1.1 x82.2.1.2.1 x82.2.1.2.2), (.slice x82.2.2.1.1 x82.2.2.1.2.1 x82.2.2.1.2.2)])] (.many [(.one .slice), (.one .slice), (.one (.int .i64))]) w27 fun (x83 : (Hd3 × Hd3 × Int × Unit)) w84 =>
 drw w84 fun w85 => flEx fun F86 =>
 rd Try.prog (Instr.loadAt 43 (.pointer (some x5))) (.agg [.slice, .slice, .slice]) w85 fun (x87 : (Hd3 × Hd3 × Hd3 × Unit)) =>
 flc bel w85 (fun _w89 => True) (fun w88 =>
   call Try.prog 32 [(.agg #[(.slice x87.1.1 x87.1.2.1 x87.1.2.2), (.slice x87.2.1.1 x87.2.1.2.1 x87.2.1.2.2), (.slice x87.2.2.1.1 x87.2.2.1.2.1 x87.2.2.1.2.2)]), (.slice x9.1 x9.2.1 x9.2.2)] (.one (.one .bool)) w88 fun (x90 : Bool) w91 =>
 (bel w88 w91 ∧ F86 2 [(.agg #[(.slice x87.1.1 x87.1.2.1 x87.1.2.2), (.slice x87.2.1.1 x87.2.1.2.1 x87.2.1.2.2), (.slice x87.2.2.1.1 x87.2.2.1.2.1 x87.2.2.1.2.2)]), (.slice x9.1 x9.2.1 x9.2.2)] (.bool x90) w91))
  fun (x92 : Bool) =>
 br x92 (br (x83.2.2.1 == 0) (br (((x83.2.1.2.1 : Nat) : Int) == 0) (rd Try.prog (Instr.loadAt 43 (.pointer (some x5))) (.agg [.slice, .slice, .slice]) w85 fun (x93 : (Hd3 × Hd3 × Hd3 × Unit)) =>
 flc bel w85 (fun w95 => F86 2 [(.agg #[(.slice x87.1.1 x87.1.2.1 x87.1.2.2), (.slice x87.2.1.1 x87.2.1.2.1 x87.2.1.2.2), (.slice x87.2.2.1.1 x87.2.2.1.2.1 x87.2.2.1.2.2)]), (.slice x9.1 x9.2.1 x9.2.2)] (.bool x92) w95 ∧ True) (fun w94 =>
   call Try.prog 33 [(.agg #[(.slice x93.1.1 x93.1.2.1 x93.1.2.2), (.slice x93.2.1.1 x93.2.1.2.1 x93.2.1.2.2), (.slice x93.2.2.1.1 x93.2.2.1.2.1 x93.2.2.1.2.2)]), (.slice x83.1.1 x83.1.2.1 x83.1.2.2)] (.one (.one .bool)) w94 fun (x96 : Bool) w97 =>
 (bel w94 w97 ∧ F86 15 [(.agg #[(.slice x93.1.1 x93.1.2.1 x93.1.2.2), (.slice x93.2.1.1 x93.2.1.2.1 x93.2.1.2.2), (.slice x93.2.2.1.1 x93.2.2.1.2.1 x93.2.2.1.2.2)]), (.slice x83.1.1 x83.1.2.1 x83.1.2.2)] (.bool x96) w97))
  fun (x98 : Bool) =>
 br x98 (rd Try.prog (Instr.loadAt 43 (.pointer (some x5))) (.agg [.slice, .slice, .slice]) w85 fun (x99 : (Hd3 × Hd3 × Hd3 × Unit)) =>
 flc bel w85 (fun w101 => F86 15 [(.agg #[(.slice x93.1.1 x93.1.2.1 x93.1.2.2), (.slice x93.2.1.1 x93.2.1.2.1 x93.2.1.2.2), (.slice x93.2.2.1.1 x93.2.2.1.2.1 x93.2.2.1.2.2)]), (.slice x83.1.1 x83.1.2.1 x83.1.2.2)] (.bool x98) w101 ∧ F86 2 [(.agg #[(.slice x87.1.1 x87.1.2.1 x87.1.2.2), (.slice x87.2.1.1 x87.2.1.2.1 x87.2.1.2.2), (.slice x87.2.2.1.1 x87.2.2.1.2.1 x87.2.2.1.2.2)]), (.slice x9.1 x9.2.1 x9.2.2)] (.bool x92) w101 ∧ True) (fun w100 =>
   wr Try.prog (Instr.makeSlice 40 (.int .i64 ((x9.2.1 : Nat) : Int)) (.int .i64 ((x9.2.1 : Nat) : Int))) (.one .slice) w100 fun (x102 : Hd3) w103 =>
 (bel w100 w103 ∧ F86 21 [] (.slice x102.1 x102.2.1 x102.2.2) w103))
  fun (x104 : Hd3) =>
 rd Try.prog (Instr.loadAt 40 (.pointer (some x5))) (.one .slice) w85 fun (x105 : Hd3) =>
 flc bel w85 (fun w107 => F86 21 [] (.slice x104.1 x104.2.1 x104.2.2) w107 ∧ F86 15 [(.agg #[(.slice x93.1.1 x93.1.2.1 x93.1.2.2), (.slice x93.2.1.1 x93.2.1.2.1 x93.2.1.2.2), (.slice x93.2.2.1.1 x93.2.2.1.2.1 x93.2.2.1.2.2)]), (.slice x83.1.1 x83.1.2.1 x83.1.2.2)] (.bool x98) w107 ∧ F86 2 [(.agg #[(.slice x87.1.1 x87.1.2.1 x87.1.2.2), (.slice x87.2.1.1 x87.2.1.2.1 x87.2.1.2.2), (.slice x87.2.2.1.1 x87.2.2.1.2.1 x87.2.2.1.2.2)]), (.slice x9.1 x9.2.1 x9.2.2)] (.bool x92) w107 ∧ True) (fun w106 =>
   call Try.prog 41 [(.agg #[(.slice x99.1.1 x99.1.2.1 x99.1.2.2), (.slice x99.2.1.1 x99.2.1.2.1 x99.2.1.2.2), (.slice x99.2.2.1.1 x99.2.2.1.2.1 x99.2.2.1.2.2)]), (.slice x104.1 x104.2.1 x104.2.2), (.slice x105.1 x105.2.1 x105.2.2), (.slice m_a m_n m_c)] (.one (.one .bool)) w106 fun (x108 : Bool) w109 =>
 (bel w106 w109 ∧ F86 25 [(.agg #[(.slice x99.1.1 x99.1.2.1 x99.1.2.2), (.slice x99.2.1.1 x99.2.1.2.1 x99.2.1.2.2), (.slice x99.2.2.1.1 x99.2.2.1.2.1 x99.2.2.1.2.2)]), (.slice x104.1 x104.2.1 x104.2.2), (.slice x105.1 x105.2.1 x105.2.2), (.slice m_a m_n m_c)] (.bool x108) w109))
  fun (x110 : Bool) =>
 br (!x110) (rd Try.prog (Instr.loadAt 43 (.pointer (some x5))) (.agg [.slice, .slice, .slice]) w85 fun (x111 : (Hd3 × Hd3 × Hd3 × Unit)) =>
 flend bel w85 (fun w113 => F86 25 [(.agg #[(.slice x99.1.1 x99.1.2.1 x99.1.2.2), (.slice x99.2.1.1 x99.2.1.2.1 x99.2.1.2.2), (.slice x99.2.2.1.1 x99.2.2.1.2.1 x99.2.2.1.2.2)]), (.slice x104.1 x104.2.1 x104.2.2), (.slice x105.1 x105.2.1 x105.2.2), (.slice m_a m_n m_c)] (.bool x110) w113 ∧ F86 21 [] (.slice x104.1 x104.2.1 x104.2.2) w113 ∧ F86 15 [(.agg #[(.slice x93.1.1 x93.1.2.1 x93.1.2.2), (.slice x93.2.1.1 x93.2.1.2.1 x93.2.1.2.2), (.slice x93.2.2.1.1 x93.2.2.1.2.1 x93.2.2.1.2.2)]), (.slice x83.1.1 x83.1.2.1 x83.1.2.2)] (.bool x98) w113 ∧ F86 2 [(.agg #[(.slice x87.1.1 x87.1.2.1 x87.1.2.2), (.slice x87.2.1.1 x87.2.1.2.1 x87.2.1.2.2), (.slice x87.2.2.1.1 x87.2.2.1.2.1 x87.2.2.1.2.2)]), (.slice x9.1 x9.2.1 x9.2.2)] (.bool x92) w113 ∧ True) fun w112 =>
 call Try.prog 39 [(.agg #[(.slice x111.1.1 x111.1.2.1 x111.1.2.2), (.slice x111.2.1.1 x111.2.1.2.1 x111.2.1.2.2), (.slice x111.2.2.1.1 x111.2.2.1.2.1 x111.2.2.1.2.2)]), (.slice m_a m_n m_c)] (.one (.one .bool)) w112 fun (x114 : Bool) w115 =>
 R (.bool (!x114)) w115)
 (flend bel w85 (fun w117 => F86 25 [(.agg #[(.slice x99.1.1 x99.1.2.1 x99.1.2.2), (.slice x99.2.1.1 x99.2.1.2.1 x99.2.1.2.2), (.slice x99.2.2.1.1 x99.2.2.1.2.1 x99.2.2.1.2.2)]), (.slice x104.1 x104.2.1 x104.2.2), (.slice x105.1 x105.2.1 x105.2.2), (.slice m_a m_n m_c)] (.bool x110) w117 ∧ F86 21 [] (.slice x104.1 x104.2.1 x104.2.2) w117 ∧ F86 15 [(.agg #[(.slice x93.1.1 x93.1.2.1 x93.1.2.2), (.slice x93.2.1.1 x93.2.1.2.1 x93.2.1.2.2), (.slice x93.2.2.1.1 x93.2.2.1.2.1 x93.2.2.1.2.2)]), (.slice x83.1.1 x83.1.2.1 x83.1.2.2)] (.bool x98) w117 ∧ F86 2 [(.agg #[(.slice x87.1.1 x87.1.2.1 x87.1.2.2), (.slice x87.2.1.1 x87.2.1.2.1 x87.2.1.2.2), (.slice x87.2.2.1.1 x87.2.2.1.2.1 x87.2.2.1.2.2)]), (.slice x9.1 x9.2.1 x9.2.2)] (.bool x92) w117 ∧ True) fun w116 =>
 R (.bool false) w116))
 (flend bel w85 (fun w119 => F86 15 [(.agg #[(.slice x93.1.1 x93.1.2.1 x93.1.2.2), (.slice x93.2.1.1 x93.2.1.2.1 x93.2.1.2.2), (.slice x93.2.2.1.1 x93.2.2.1.2.1 x93.2.2.1.2.2)]), (.slice x83.1.1 x83.1.2.1 x83.1.2.2)] (.bool x98) w119 ∧ F86 2 [(.agg #[(.slice x87.1.1 x87.1.2.1 x87.1.2.2), (.slice x87.2.1.1 x87.2.1.2.1 x87.2.1.2.2), (.slice x87.2.2.1.1 x87.2.2.1.2.1 x87.2.2.1.2.2)]), (.slice x9.1 x9.2.1 x9.2.2)] (.bool x92) w119 ∧ True) fun w118 =>
 R (.bool false) w118))
 (flend bel w85 (fun w121 => F86 2 [(.agg #[(.slice x87.1.1 x87.1.2.1 x87.1.2.2), (.slice x87.2.1.1 x87.2.1.2.1 x87.2.1.2.2), (.slice x87.2.2.1.1 x87.2.2.1.2.1 x87.2.2.1.2.2)]), (.slice x9.1 x9.2.1 x9.2.2)] (.bool x92) w121 ∧ True) fun w120 =>
 R (.bool false) w120))
 (flend bel w85 (fun w123 => F86 2 [(.agg #[(.slice x87.1.1 x87.1.2.1 x87.1.2.2), (.slice x87.2.1.1 x87.2.1.2.1 x87.2.1.2.2), (.slice x87.2.2.1.1 x87.2.2.1.2.1 x87.2.2.1.2.2)]), (.slice x9.1 x9.2.1 x9.2.2)] (.bool x92) w123 ∧ True) fun w122 =>
 R (.bool false) w122))
 (flend bel w85 (fun w125 => F86 2 [(.agg #[(.slice x87.1.1 x87.1.2.1 x87.1.2.2), (.slice x87.2.1.1 x87.2.1.2.1 x87.2.1.2.2), (.slice x87.2.2.1.1 x87.2.2.1.2.1 x87.2.2.1.2.2)]), (.slice x9.1 x9.2.1 x9.2.2)] (.bool x92) w125 ∧ True) fun w124 =>
 R (.bool false) w124))))
def H12 : Hints := ⟨[(2, 0, [(8, (.one (.int .i64)))]), (2, 2, [(9, (.one (.int .i64)))]), (2, 4, [(11, (.one (.int .i64))), (12, (.one (.int .i64)))])], [(19, 10), (20, 11), (22, 31)], [], [1000020]⟩
set_option maxRecDepth 100000 in
theorem S12_eq (l_a : Option Addr) (l_n : Nat) (l_c : Nat) (m_a : Option Addr) (m_n : Nat) (m_c : Nat) (w0 : World) (R : Value → World → Prop) : vcFn Try.prog H12 Try.f12 [(.slice l_a l_n l_c), (.slice m_a m_n m_c)] w0 R = S12 l_a l_n l_c m_a m_n m_c w0 R := by kernel_rfl
set_option maxRecDepth 100000 in
theorem S12_calls (l_a : Option Addr) (l_n : Nat) (l_c : Nat) (m_a : Option Addr) (m_n : Nat) (m_c : Nat) (w0 : World) (R : Value → World → Prop) (h : S12 l_a l_n l_c m_a m_n m_c w0 R) : Calls Try.prog 12 #[(.slice l_a l_n l_c), (.slice m_a m_n m_c)] w0 (ret R) := by
  rw [← S12_eq] at h; exact vcFn_sound follows_ Try.func12 h

end Go.Proofs

/- The conditions of functions, printed by our tool; each is checked against the code by the kernel. -/



namespace Go.Proofs
open Go Go.V Go.RowKit
end Go.Proofs

/- Proofs as trees: few, Size, depth. -/



namespace Go.Proofs.Ytajpdnphamomjaa
open Go.RowKit Go.Q Go.Q.Num Go.V

end Go.Proofs.Ytajpdnphamomjaa

/- Size and depth of proofs. -/

namespace Go.Proofs.Ytajpdnphamomjaa
open Go.RowKit Go.Q Go.Q.Num Go.V

end Go.Proofs.Ytajpdnphamomjaa

/- right, of both. -/

namespace Go.Proofs.Ytajpdnphamomjaa
open Go.RowKit Go.Q Go.Q.Num Go.V

end Go.Proofs.Ytajpdnphamomjaa

/- Plain law: a right proof refutes all points; unit multipliers. -/


namespace Go.Proofs.Ytajpdnphamomjaa
open Go.RowKit Go.Q Go.Q.Num Go.V

theorem dotN_sm (r : List Int) (L : List (Int × Int)) : ∀ n, dotN r L n = sm (dotT r L) n
  | 0 => rfl
  | n + 1 => by show dotN r L n + dotT r L n = sm (dotT r L) n + dotT r L n; rw [dotN_sm r L n]
theorem dotI_sm (r xs : List Int) : ∀ n, ((dotI r xs n : Int) : Rat) = sm (fun k => ((dotJ r xs k : Int) : Rat)) n
  | 0 => rfl
  | n + 1 => by
    show ((dotI r xs n + dotJ r xs n : Int) : Rat) = sm (fun k => ((dotJ r xs k : Int) : Rat)) n + ((dotJ r xs n : Int) : Rat)
    rw [← dotI_sm r xs n]; exact Rat.intCast_add _ _

/-! ### points -/
structure Pt (T : List (List Int)) (rt lo hi xs : List Int) : Prop where
  llo : lo.length = xs.length
  lhi : hi.length = xs.length
  each : ∀ (k : Nat) a b x, lo[k]? = some a → hi[k]? = some b → xs[k]? = some x → a ≤ x ∧ x ≤ b
  rows : ∀ (i : Nat) r b, T[i]? = some r → rt[i]? = some b → dotI r xs xs.length = b
section
variable {up : List Int} {T : List (List Int)} {rt lo hi xs : List Int} {M : List (Int × Int)}
theorem comb_pt (hA : SysA up T rt) (hM : M.length = T.length) (hx : xs.length = up.length) (hr : ∀ (i : Nat) r b, T[i]? = some r → rt[i]? = some b → dotI r xs xs.length = b) :
    sm (fun k => colQ T M k * ((xs.getD k 0 : Int) : Rat)) up.length = rhsQ T rt M := by
  have h1 : sm (fun k => colQ T M k * ((xs.getD k 0 : Int) : Rat)) up.length = sm (fun k => sm (fun i => dotT (colI T k) M i * ((xs.getD k 0 : Int) : Rat)) T.length) up.length :=
    sm_congr fun k _ => by rw [sm_mul, ← dotN_sm]; rfl
  rw [h1, sm_comm (fun i k => dotT (colI T k) M i * ((xs.getD k 0 : Int) : Rat))]
  show _ = dotN rt M T.length
  rw [dotN_sm]
  refine sm_congr fun i hi => ?_
  obtain ⟨row, hrow⟩ : ∃ row, T[i]? = some row := ⟨_, List.getElem?_eq_getElem hi⟩
  obtain ⟨p, hp⟩ : ∃ p, M[i]? = some p := ⟨_, List.getElem?_eq_getElem (by omega)⟩
  obtain ⟨b, hb⟩ : ∃ b, rt[i]? = some b := ⟨_, List.getElem?_eq_getElem (by rw [hA.1]; exact hi)⟩
  have hl : row.length = up.length := hA.2 row (List.mem_of_getElem? hrow)
  rw [dotT_at hb hp, ← hr i row b hrow hb, hx, dotI_sm, Rat.mul_comm, ← sm_mul]
  refine sm_congr fun k hk => ?_
  obtain ⟨c, hc⟩ : ∃ c, row[k]? = some c := ⟨_, List.getElem?_eq_getElem (by omega)⟩
  obtain ⟨x, hx'⟩ : ∃ x, xs[k]? = some x := ⟨_, List.getElem?_eq_getElem (by omega)⟩
  rw [dotT_at (colI_get hrow hc) hp, List.getD_eq_getElem?_getD, hx']
  have : dotJ row xs k = c * x := by unfold dotJ; rw [hc, hx']
  rw [this, Rat.intCast_mul]
  show ratv p.1 p.2 * (c : Rat) * (x : Rat) = (c : Rat) * (x : Rat) * ratv p.1 p.2
  grind
theorem lowN_sm (T : List (List Int)) (M : List (Int × Int)) (lo hi : List Int) : ∀ n, lowN T M lo hi n = sm (fun k => colQ T M k * ((pickB (colQ T M k) lo hi k : Int) : Rat)) n
  | 0 => rfl
  | n + 1 => by
    show lowN T M lo hi n + _ = sm _ n + _
    rw [lowN_sm T M lo hi n]
theorem mul_mono {c : Rat} {x y : Int} (h : 0 ≤ c) (hxy : x ≤ y) : c * (x : Rat) ≤ c * (y : Rat) := Rat.mul_le_mul_of_nonneg_left (Rat.intCast_le_intCast.2 hxy) h
theorem mul_anti {c : Rat} {x y : Int} (h : c < 0) (hxy : x ≤ y) : c * (y : Rat) ≤ c * (x : Rat) := by
  have h1 : -c * (x : Rat) ≤ -c * (y : Rat) := mul_mono (by grind) hxy
  grind
theorem bnd_sound (h : BndP up T rt lo hi M) (hx : Pt T rt lo hi xs) : False := by
  obtain ⟨h1, h2, h3, h4, h5, h6⟩ := h
  obtain ⟨c1, c2, c3, c4, c5⟩ := combE_ok h1
  obtain ⟨_, _, _, hA⟩ := sysE_ok c1
  have hxl : xs.length = up.length := by rw [← hx.llo, h2]
  have hc := comb_pt hA c2 hxl hx.rows
  have get : ∀ k, k < up.length → ∃ a b x, lo[k]? = some a ∧ hi[k]? = some b ∧ xs[k]? = some x ∧ a ≤ x ∧ x ≤ b := fun k hk => by
    obtain ⟨a, ha⟩ : ∃ a, lo[k]? = some a := ⟨_, List.getElem?_eq_getElem (by omega)⟩
    obtain ⟨b, hb⟩ : ∃ b, hi[k]? = some b := ⟨_, List.getElem?_eq_getElem (by omega)⟩
    obtain ⟨x, hx'⟩ : ∃ x, xs[k]? = some x := ⟨_, List.getElem?_eq_getElem (by omega)⟩
    exact ⟨a, b, x, ha, hb, hx', hx.each k a b x ha hb hx'⟩
  have hlow : lowN T M lo hi up.length ≤ rhsQ T rt M := by
    rw [lowN_sm, ← hc]
    refine sm_le fun k hk => ?_
    obtain ⟨a, b, x, ha, hb, hx', hax, hxb⟩ := get k hk
    rw [pick_at ha hb, List.getD_eq_getElem?_getD, hx']
    show _ ≤ colQ T M k * (x : Rat)
    split
    · rename_i hn; exact mul_anti hn hxb
    · rename_i hn; exact mul_mono (by grind) hax
  have hhigh : rhsQ T rt M ≤ lowN T M hi lo up.length := by
    rw [lowN_sm, ← hc]
    refine sm_le fun k hk => ?_
    obtain ⟨a, b, x, ha, hb, hx', hax, hxb⟩ := get k hk
    rw [pick_at hb ha, List.getD_eq_getElem?_getD, hx']
    show colQ T M k * (x : Rat) ≤ _
    split
    · rename_i hn; exact mul_anti hn hax
    · rename_i hn; exact mul_mono (by grind) hxb
  rcases h6 with ⟨k, a, b, ha, hb, hab⟩ | h6 | h6
  · have hk : k < xs.length := by have := (List.getElem?_eq_some_iff.1 ha).1; have := hx.llo; omega
    obtain ⟨x, hx'⟩ : ∃ x, xs[k]? = some x := ⟨_, List.getElem?_eq_getElem hk⟩
    have := hx.each k a b x ha hb hx'
    omega
  · grind
  · grind
theorem sm_whole {f : Nat → Rat} : ∀ {n : Nat}, (∀ k, k < n → ∃ z : Int, f k = (z : Rat)) → ∃ z : Int, sm f n = (z : Rat)
  | 0, _ => ⟨0, rfl⟩
  | n + 1, h => by
    obtain ⟨a, ha⟩ := sm_whole (n := n) fun k hk => h k (by omega)
    obtain ⟨b, hb⟩ := h n (by omega)
    exact ⟨a + b, by show sm f n + f n = _; rw [ha, hb]; exact (Rat.intCast_add _ _).symm⟩
theorem den_one {q : Rat} (h : q.den = 1) : q = (q.num : Rat) := by
  apply Rat.ext
  · rfl
  · rw [h]; rfl
theorem lat_sound (h : LatP up T rt M) (hx : Pt T rt lo hi xs) (hl : xs.length = up.length) : False := by
  obtain ⟨h1, h2, h3⟩ := h
  obtain ⟨c1, c2, c3, c4, c5⟩ := combE_ok h1
  obtain ⟨_, _, _, hA⟩ := sysE_ok c1
  have hc := comb_pt hA c2 hl hx.rows
  obtain ⟨z, hz⟩ := sm_whole (n := up.length) (f := fun k => colQ T M k * ((xs.getD k 0 : Int) : Rat)) fun k hk => by
    have hd := h2 _ (List.mem_of_getElem? (cols_get (up := up) (T := T) (M := M) hk))
    have hd' : (colQ T M k).den = 1 := by
      have : (((colQ T M k).den : Nat) : Int) = 1 := hd
      omega
    refine ⟨(colQ T M k).num * xs.getD k 0, ?_⟩
    rw [Rat.intCast_mul, ← den_one hd']
  rw [hc] at hz
  refine h3 ?_
  rw [hz]; rfl
end

/-! ### unit multipliers -/
end Go.Proofs.Ytajpdnphamomjaa
