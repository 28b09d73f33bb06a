import Derived.Test.YtcglflifaniolaaPH
import Derived.KernelRfl
import Derived.Maps.Views
import Derived.Test.YtcglflifaniolaaPF
import Derived.Test.YtcglflifaniolaaPG
import Derived.Test.YtcglflifaniolaaOpen
import Derived.Test.YtcglflifaniolaaPackScheduleWrites2

/- A run of transactions: is a read stale; the end by abort. -/

namespace Go.Proofs.Ytcglflifaniolaa
open Go.RowKit Go.Q Go.V Go.Proofs.Sc

theorem reg_row {P : Program} {f : FuncId} {args ags : List Value} {j m : Nat} {w0 : World} {p : Addr} {cs : List Value} {hh : Hdr} {b : Option Nat} {t : TypeId} {Q : Hdr → World → Prop} {K : Hdr → Hdr → World → Prop} (ht : scal P t = true) (X : Box w0 p cs) (hi : cs[3]? = some (hv hh)) (hb : b ≠ some p.block)
    (hcall : ∀ w', bel w0 w' → call P f args (.one (.one .slice)) w' fun (x : Hdr) w'' => w'.grownBy w'' b ∧ Q x w'') (hK : ∀ x w', w0.grownBy w' b → Q x w' → K hh x w') :
    flExC w0 fun E G Y F => nn (some p) fun a15 => rdE P (ER Y [m] E) (Instr.loadAt t (.pointer (some (a15.add 3)))) (.one .slice) w0 fun (x16 : Hdr) =>
      flcC Y j E w0 (fun _ => True) (fun D w17 => call P f args (.one (.one .slice)) w17 fun (x20 : Hdr) w21 => (E w17 w21 ∧ G j w17 w21 ∧ Y (setD D j) w21 ∧ F j ags (.slice x20.1 x20.2.1 x20.2.2) w21)) fun (x22 : Hdr) =>
      flendC Y [j] E w0 (fun w24 => F j ags (.slice x22.1 x22.2.1 x22.2.2) w24 ∧ True) fun w23 => K x16 x22 w23 := by
  refine flExC_mk (fun w w' => w.grownBy w' b) (fun i _ _ => i = j) (fun D w' => D j = false → bel w0 w') (fun i _ v w' => i = j → ∀ x : Hdr, v = .slice x.1 x.2.1 x.2.2 → Q x w')
    (fun w => grown_refl w _) (fun _ _ _ a b => grown_trans a b) (fun i i' ags v w w' h1 h2 h3 h4 e => absurd (e.trans h4.symm) h1) (fun _ => bel.refl _) ?_
  refine nn_mk rfl ?_
  refine rdE_box ht (fun w' hE => X.grown hE.1 (fun e => hb e.symm)) hi rfl ?_
  refine flcC_mk (fun D w17 hD hE hS _ => ?_) (fun x22 => ?_)
  · refine call_mono (hcall w17 (hS hD)) fun x w21 q => ?_
    refine ⟨q.1, rfl, (fun e => by rw [setD_self] at e; cases e), fun _ y hy => ?_⟩
    have : x = y := by
      obtain ⟨a1, a2, a3⟩ := x; obtain ⟨b1, b2, b3⟩ := y
      simp only [Value.slice.injEq] at hy
      obtain ⟨rfl, rfl, rfl⟩ := hy; rfl
    rw [← this]; exact q.2
  · exact flendC_mk fun w23 hE _ hF => hK x22 w23 hE (hF.1 rfl x22 rfl)

section
variable {lev n K : Nat} {hs : Hdr} {start : List Int} {r : Addr} {w w' : World} {ρ ρ' : Rho} {H : RHd} {s : St}
theorem RunAt.ver' (A : RunAt lev n K hs start r w ρ H s) {ver : Nat → List Wr} (h : ∀ k, k < K → ver k = s.ver k) : RunAt lev n K hs start r w ρ H { s with ver := ver } :=
  { A with row := fun k x hx => (by
            have hk : k < K := by have := (List.getElem?_eq_some_iff.1 hx).1; rw [A.vl] at this; exact this
            show PartO w ρ (8 + 4 * k) _ 3 x ((ver k).flatMap encW)
            rw [h k hk]; exact A.row k x hx) }

/-! ### is a read stale -/
theorem isO_d (x : Wr) (t : Nat) (cap : Addr) (w : World) (C : Box w cap [.int .i64 ((t : Nat) : Int)]) :
    call Try.prog 52 [.agg #[.int .i64 x.v, .int .i64 ((x.t : Nat) : Int), .int .i64 ((x.c : Nat) : Int)], .pointer (some cap)] (.one (.one .bool)) w (fun (b : Bool) w' => b = (x.t == t) ∧ bel w w') := by
  refine call_of (S52_calls x.v x.t x.c cap w _ ?_)
  unfold S52
  refine wr_box fun x1 w2 X1 h2 _ _ => ?_
  replace X1 : Box w2 x1 (encW x) := X1
  refine rd_box (by kernel_rfl) X1 (i := 1) rfl rfl ?_
  refine rd_box0 (by kernel_rfl) (C.up h2) rfl rfl ?_
  refine ⟨_, rfl, ?_, h2⟩
  rw [Bool.eq_iff_iff, beq_iff_eq, beq_iff_eq]
  omega
theorem isN_e (A : RunAt lev n K hs start r w ρ H s) (x : Wr) (t : Nat) (ht : t < n) (cap cap' : Addr) (C : Box w cap [.int .i64 ((t : Nat) : Int)]) (C' : Box w cap' [.pointer (some r)]) :
    call Try.prog 53 [.agg #[.int .i64 x.v, .int .i64 ((x.t : Nat) : Int), .int .i64 ((x.c : Nat) : Int)], .pointer (some cap), .pointer (some cap')] (.one (.one .bool)) w (fun (b : Bool) w' => b = (x.t != t && decide ((s.tx t).snap < x.c)) ∧ bel w w') := by
  refine call_of (S53_calls x.v x.t x.c cap cap' w _ ?_)
  unfold S53
  obtain ⟨p, hp⟩ := A.ps_get ht
  refine wr_box fun x1 w2 X1 h2 _ _ => ?_
  replace X1 : Box w2 x1 (encW x) := X1
  refine drw_mk fun w3 h3 _ => ?_
  have b3 := h2.trans h3
  have A3 := A.up b3
  refine rd_box (by kernel_rfl) (X1.up h3) (i := 1) rfl rfl ?_
  refine rd_box0 (by kernel_rfl) (C.up b3) rfl rfl ?_
  refine br_ne (fun e => ?_) (fun e => ?_)
  · refine rd_box (by kernel_rfl) (X1.up h3) (i := 2) rfl rfl ?_
    refine rd_box0 (by kernel_rfl) (C'.up b3) rfl rfl ?_
    refine nn_mk rfl ?_
    refine rd_box (by kernel_rfl) A3.box.box (i := 2) rfl rfl ?_
    refine rd_box0 (by kernel_rfl) (C.up b3) rfl rfl ?_
    refine at_mk tyT (by kernel_rfl) A3.txs.own.sl (j := t) (s := .ptr) rfl (ptrs_get hp) rfl ?_
    refine nn_mk rfl ?_
    refine rd_box (by kernel_rfl) (A3.txb t p hp).box (i := 4) rfl rfl ?_
    refine ⟨_, rfl, ?_, b3⟩
    have h1 : (x.t != t) = true := by simpa using fun q => e (by omega)
    rw [h1, Bool.true_and]
    rw [decide_eq_decide]; omega
  · refine ⟨_, rfl, ?_, b3⟩
    have h1 : (x.t != t) = false := by simpa using (show x.t = t by omega)
    rw [h1, Bool.false_and]
theorem hasO (h : Hdr) (L : List Wr) (t : Nat) (cap : Addr) (w : World) (S : Sl w h.1 h.2.1 h.2.2 3 (L.flatMap encW)) (C : Box w cap [.int .i64 ((t : Nat) : Int)]) :
    call Try.prog 51 [.slice h.1 h.2.1 h.2.2, .func (.func 52) #[] #[.pointer (some cap)]] (.one (.one .bool)) w (fun (b : Bool) w' => b = L.any (fun x : Wr => x.t == t) ∧ bel w w') := by
  refine call_of (S51d_calls h.1 h.2.1 h.2.2 cap w _ ?_)
  unfold S51d
  refine call_mono (r := .one (.one (.int .i64))) (Q := fun (k : Int) w' => k = idxI (fun x : Wr => x.t == t) L ∧ bel w w') (call_of (S56d_calls h.1 h.2.1 h.2.2 cap w _ ?_)) fun k w2 ⟨en, b2⟩ => ⟨_, rfl, ?_, b2⟩
  · unfold S56d
    exact idx_aggs tyW (by kernel_rfl) encW_len (by omega) (l := [.int .i64, .int .i64, .int .i64]) (dec := fun p : Wr => (p.v, ((p.t : Nat) : Int), ((p.c : Nat) : Int), ())) (fun a => rfl) (fargs := fun x => [.agg #[.int .i64 x.1, .int .i64 x.2.1, .int .i64 x.2.2.1], .pointer (some cap)]) S (fun x : Wr => x.t == t) fun j x _ w' hb => isO_d x t cap w' (C.up hb)
  · subst en
    exact idxI_any _ _
theorem hasN (A : RunAt lev n K hs start r w ρ H s) (h : Hdr) (L : List Wr) (t : Nat) (ht : t < n) (cap cap' : Addr) (S : Sl w h.1 h.2.1 h.2.2 3 (L.flatMap encW)) (C : Box w cap [.int .i64 ((t : Nat) : Int)]) (C' : Box w cap' [.pointer (some r)]) :
    call Try.prog 51 [.slice h.1 h.2.1 h.2.2, .func (.func 53) #[] #[.pointer (some cap), .pointer (some cap')]] (.one (.one .bool)) w (fun (b : Bool) w' => b = L.any (fun x : Wr => x.t != t && decide ((s.tx t).snap < x.c)) ∧ bel w w') := by
  refine call_of (S51e_calls h.1 h.2.1 h.2.2 cap cap' w _ ?_)
  unfold S51e
  refine call_mono (r := .one (.one (.int .i64))) (Q := fun (k : Int) w' => k = idxI (fun x : Wr => x.t != t && decide ((s.tx t).snap < x.c)) L ∧ bel w w') (call_of (S56e_calls h.1 h.2.1 h.2.2 cap cap' w _ ?_)) fun k w2 ⟨en, b2⟩ => ⟨_, rfl, ?_, b2⟩
  · unfold S56e
    exact idx_aggs tyW (by kernel_rfl) encW_len (by omega) (l := [.int .i64, .int .i64, .int .i64]) (dec := fun p : Wr => (p.v, ((p.t : Nat) : Int), ((p.c : Nat) : Int), ())) (fun a => rfl) (fargs := fun x => [.agg #[.int .i64 x.1, .int .i64 x.2.1, .int .i64 x.2.2.1], .pointer (some cap), .pointer (some cap')]) S (fun x : Wr => x.t != t && decide ((s.tx t).snap < x.c)) fun j x _ w' hb => isN_e (A.up hb) x t ht cap cap' (C.up hb) (C'.up hb)
  · subst en
    exact idxI_any _ _
theorem any_snoc (f : Nat → Bool) (i : Nat) : (List.range (i + 1)).any f = ((List.range i).any f || f i) := by rw [List.range_succ, List.any_append]; simp
theorem conflF (A : RunAt lev n K hs start r w ρ H s) (t : Nat) (ht : t < n) :
    call Try.prog 45 [.pointer (some r), .int .i64 (t : Int)] (.one (.one .bool)) w (fun (b : Bool) w' => b = confl K s t ∧ bel w w') := by
  refine call_of (S45_calls (some r) t w _ ?_)
  unfold S45
  refine wr_box fun x1 w2 X1 h2 _ _ => ?_
  replace X1 : Box w2 x1 [.pointer (some r)] := X1
  refine wr_box fun x3 w4 X3 h4 _ _ => ?_
  replace X3 : Box w4 x3 [.int .i64 ((t : Nat) : Int)] := X3
  replace X1 := X1.up h4
  have b4 := h2.trans h4
  have A4 := A.up b4
  refine rd_box0 (by kernel_rfl) X1 rfl rfl ?_
  refine nn_mk rfl ?_
  refine rd_box (by kernel_rfl) A4.box.box (i := 3) rfl rfl ?_
  have hvl := A.vers.own.1
  rw [List.length_map, A.vl, Nat.mul_one] at hvl
  have hvm := A.vers.own.le
  let f : Nat → Bool := fun k => (s.ver k).any (fun w => w.t == t) && (s.ver k).any (fun w => w.t != t && decide ((s.tx t).snap < w.c))
  refine loop_up K (fun i w' => bel w4 w' ∧ (List.range i).any f = false) ⟨bel.refl _, rfl⟩ ?_
  rintro i w10 hi ⟨hb, hf⟩ again hag _
  have A10 := A4.up hb
  refine br_dec (fun e => ?_) (fun e => ?_)
  · dsimp only at e
    have hik : i < K := by omega
    obtain ⟨x, hx⟩ := A.vh_get hik
    refine join_mk (fun _ w' => bel w4 w' ∧ (List.range (i + 1)).any f = false) (fun K11 hK => ?_) (fun _ w' q => ?_)
    case refine_2 =>
      intro _
      refine z_i64 (by dsimp only; omega) ?_
      exact hag w' hik q
    refine at_hdr tyV (by kernel_rfl) A10.vers.own.sl (j := i) rfl (by omega) fun y hy => ?_
    obtain rfl : x = y := by rw [hx] at hy; injection hy
    refine call_mono (hasO x (s.ver i) t x3 w10 (A10.row i x hx).own.sl (X3.up hb)) ?_
    rintro (b1 : Bool) w18 ⟨hb1, h18⟩
    have A18 := A10.up h18
    have b18 := hb.trans h18
    refine br_mk (fun e1 => ?_) (fun e1 => ?_)
    · refine call_mono (hasN A18 x (s.ver i) t ht x3 x1 (A18.row i x hx).own.sl (X3.up b18) (X1.up b18)) ?_
      rintro (b2 : Bool) w20 ⟨hb2, h20⟩
      have hfi : f i = b2 := by show (_ && _) = _; rw [← hb1, ← hb2, e1, Bool.true_and]
      refine br_mk (fun e2 => ?_) (fun e2 => ?_)
      · refine ⟨true, rfl, ?_, (b4.trans b18).trans h20⟩
        symm
        unfold confl
        rw [List.any_eq_true]
        exact ⟨i, List.mem_range.2 hik, hfi.trans e2⟩
      · refine hK _ _ ⟨b18.trans h20, ?_⟩
        rw [any_snoc, hf, hfi, e2]; rfl
    · refine hK _ _ ⟨b18, ?_⟩
      have hfi : f i = false := by show (_ && _) = _; rw [← hb1, e1, Bool.false_and]
      rw [any_snoc, hf, hfi]; rfl
  · dsimp only at e
    have hik : i = K := by omega
    subst hik
    exact ⟨false, rfl, hf.symm, b4.trans hb⟩

/-! ### the end by abort -/
abbrev cutS (s : St) (f : List Wr → List Wr) (k : Nat) : St := { s with ver := fun j => if j < k then f (s.ver j) else s.ver j }
theorem cut_upd (s : St) (f : List Wr → List Wr) (k : Nat) : Sc.upd (cutS s f k).ver k (f (s.ver k)) = (cutS s f (k + 1)).ver := by
  funext j
  unfold Sc.upd
  show (if j = k then _ else if j < k then f (s.ver j) else s.ver j) = if j < k + 1 then f (s.ver j) else s.ver j
  by_cases h : j = k
  · subst h; rw [if_pos rfl, if_pos (by omega)]
  · rw [if_neg h]
    by_cases h2 : j < k
    · rw [if_pos h2, if_pos (by omega)]
    · rw [if_neg h2, if_neg (by omega)]
theorem cut_at (s : St) (f : List Wr → List Wr) (k : Nat) : (cutS s f k).ver k = s.ver k := by show (if k < k then _ else _) = _; rw [if_neg (Nat.lt_irrefl _)]
set_option maxHeartbeats 1600000 in
theorem abortF (A : RunAt lev n K hs start r w ρ H s) (t : Nat) (ht : t < n) (hev : s.ev.length ≤ 1000000) (hrl : ∀ k, k < K → (s.ver k).length ≤ 1000000) :
    call Try.prog 28 [.pointer (some r), .int .i64 (t : Int)] (.many []) w (fun _ w' => ∃ ρ', RA lev n K hs start r H.k w' ρ' (abortT s t) ∧ Kp w ρ w' ρ') := by
  refine call_of (S28_calls (some r) t w _ ?_)
  unfold S28
  refine wr_box fun x1 w2 X1 h2 hx1 _ => ?_
  replace X1 : Box w2 x1 [.int .i64 ((t : Nat) : Int)] := X1
  have hx0 : ρ x1.block = 0 := Classical.byContradiction fun h => by have := A.tag _ h; omega
  have A2 := A.up h2
  have K2 : Kp w ρ w2 ρ := Kp.bel h2
  refine nn_mk rfl ?_
  refine rd_box (by kernel_rfl) A2.box.box (i := 3) rfl rfl ?_
  have hvl := A.vers.own.1
  rw [List.length_map, A.vl, Nat.mul_one] at hvl
  have hvm := A.vers.own.le
  refine loop_up K (fun i w' => ∃ ρ' H', RunAt lev n K hs start r w' ρ' H' (cutS s (restR t) i) ∧ Kp w2 ρ w' ρ' ∧ H'.ver = H.ver ∧ H'.k = H.k) ⟨ρ, H, A2.ver' (fun k hk => by simp), Kp.refl _ _, rfl, rfl⟩ ?_
  rintro i w7 hi ⟨ρ7, H7, A7, K7, hH, hps⟩ again hag _
  obtain ⟨X7, hx7⟩ := K7.box X1 hx0
  refine br_dec (fun e => ?_) (fun e => ?_)
  · dsimp only at e
    have hik : i < K := by omega
    obtain ⟨x, hx⟩ := A7.vh_get hik
    have V7 := A7.vers.own
    rw [hH] at V7
    refine at_hdr tyV (by kernel_rfl) V7.sl (j := i) rfl (by omega) fun y hy => ?_
    obtain rfl : x = y := by rw [hx] at hy; injection hy
    refine drw_mk fun w10 h10 _ => ?_
    have A10 := A7.up h10
    have X10 := X7.up h10
    have R10 := (A10.row i x hx)
    rw [cut_at] at R10
    have hnc : blk x.1 ≠ some x1.block := fun q => by have := R10.tag _ q; rw [hx7] at this; omega
    have hnb : blk x.1 ≠ some r.block := fun q => by have := R10.tag _ q; rw [A10.box.tag] at this; omega
    refine reg_row (b := blk x.1) (hh := H7.ver) (Q := fun (y : Hdr) w' => y = (x.1, (restR t (s.ver i)).length, x.2.2) ∧ Own w' 0 89 3 x.1 (restR t (s.ver i)).length x.2.2 ((restR t (s.ver i)).flatMap encW)) (by kernel_rfl) A10.box.box rfl hnb (fun w' hb => ?_) (fun y w23 hg q => ?_)
    · exact call_mono (del_a x (s.ver i) t x1 w' (R10.own.kept hb) (X10.up hb) hnc (hrl i hik)) fun y w'' q => ⟨q.2.2, q.1, q.2.1⟩
    · obtain ⟨rfl, O23⟩ := q
      have V10 := A10.vers
      have V23 : Own w23 0 87 1 H7.ver.1 H7.ver.2.1 H7.ver.2.2 (H7.vh.map hv) := V10.own.keptBy hg (by
        cases hb : blk H7.ver.1 with
        | none => exact .inl rfl
        | some b => exact .inr fun q => absurd (V10.tag b hb) (by rw [R10.tag b q.symm]; omega))
      refine set_mk tyV V23 (j := i) rfl (by rw [hH]; omega) rfl fun w26 O26 hg26 _ => ?_
      refine z_i64 (by dsimp only; omega) ?_
      obtain ⟨A26, K26⟩ := A10.putRow (a' := x.1) (m := (restR t (s.ver i)).length) (c' := x.2.2) (l' := restR t (s.ver i)) hx O23 hg (.inl rfl) hg26 O26
      rw [cut_upd] at A26
      exact hag w26 hik ⟨_, _, A26, (K7.trans (Kp.bel h10)).trans K26, hH, hps⟩
  · dsimp only at e
    have hik : i = K := by omega
    subst hik
    obtain ⟨p, hp⟩ := A.ps_get ht
    refine drw_mk fun w28 h28 _ => ?_
    have A28 := A7.up h28
    refine nn_mk rfl ?_
    refine rd_box (by kernel_rfl) A28.box.box (i := 2) rfl rfl ?_
    refine rd_box0 (by kernel_rfl) (X7.up h28) rfl rfl ?_
    refine at_mk tyT (by kernel_rfl) A28.txs.own.sl (j := t) (s := .ptr) rfl (ptrs_get (by rw [k_ps hps]; exact hp)) rfl ?_
    refine nn_mk rfl ?_
    have PB := A28.txb t p (by rw [k_ps hps]; exact hp)
    refine wu_boxi PB.box (by kernel_rfl) (by show 3 < 8; omega) rfl fun w35 X hg _ => ?_
    obtain ⟨A35, K35⟩ := A28.putTx (x' := { s.tx t with ended := true }) (h' := H7.th t) (by rw [k_ps hps]; exact hp) hg X rfl rfl rfl rfl rfl rfl ((A28.wp t ht).keep hg (fun b h q => by injection h with h; have := PB.tag; rw [h, q] at this; omega) fun _ _ => rfl)
    have X35 := (X7.up h28).grown hg (fun q => by injection q with q; have := PB.tag; rw [← q, hx7] at this; omega)
    refine rd_box0 (by kernel_rfl) X35 rfl rfl ?_
    refine call_mono (noteF A35 ⟨4, t, 0, 0, 0⟩ hev) ?_
    rintro (_ : Unit) w38 ⟨ρ', ⟨H', hp38, A38⟩, K38⟩
    refine ⟨(), rfl, ρ', ⟨H', hp38.trans hps, ?_⟩, ((K2.trans K7).trans ((Kp.bel h28).trans K35)).trans K38⟩
    have := A38.ver' (ver := fun k => restR t (s.ver k)) (fun k hk => by show _ = if k < _ then _ else _; rw [if_pos hk])
    exact this
end
end Go.Proofs.Ytcglflifaniolaa

/- A run of transactions: slices.Insert; the end by commit. -/

namespace Go.Proofs.Ytcglflifaniolaa
open Go.RowKit Go.Q Go.V Go.Proofs.Sc

theorem encW_all (L : List Wr) : plainV (L.flatMap encW) = true := by
  unfold plainV
  rw [List.all_eq_true]
  intro x hx
  obtain ⟨y, _, hy⟩ := List.mem_flatMap.1 hx
  simp only [encW, List.mem_cons, List.not_mem_nil, or_false] at hy
  rcases hy with rfl | rfl | rfl <;> rfl
theorem take_flat {α : Type} {enc : α → List Value} {sz : Nat} (he : ∀ a, (enc a).length = sz) (L : List α) (i : Nat) : (L.flatMap enc).take (i * sz) = (L.take i).flatMap enc := by
  rcases Nat.le_total i L.length with h | h
  · conv => lhs; rw [← List.take_append_drop i L, List.flatMap_append]
    rw [List.take_append_of_le_length (by rw [flat_len he, List.length_take, Nat.min_eq_left h]; exact Nat.le_refl _), List.take_of_length_le (by rw [flat_len he, List.length_take, Nat.min_eq_left h]; exact Nat.le_refl _)]
  · rw [List.take_of_length_le (by rw [flat_len he]; exact Nat.mul_le_mul_right _ h), List.take_of_length_le h]
theorem drop_flat {α : Type} {enc : α → List Value} {sz : Nat} (he : ∀ a, (enc a).length = sz) (L : List α) (i : Nat) : (L.flatMap enc).drop (i * sz) = (L.drop i).flatMap enc := by
  have h := List.take_append_drop (i * sz) (L.flatMap enc)
  rw [take_flat he] at h
  conv at h => rhs; rw [← List.take_append_drop i L, List.flatMap_append]
  exact List.append_cancel_left h
theorem putAt_end (xs vs : List Value) (i : Nat) (h : i + vs.length = xs.length) : putAt xs i vs = xs.take i ++ vs := by
  rw [putAt_take _ _ _ (Nat.le_of_eq h), List.drop_of_length_le (Nat.le_of_eq h.symm), List.append_nil]
set_option maxHeartbeats 800000 in
theorem insF (h v : Hdr) (L V : List Wr) (i : Nat) (w : World) {B B' : Nat} (O : Own w B 89 3 h.1 h.2.1 h.2.2 (L.flatMap encW)) (OV : Own w B' 89 3 v.1 v.2.1 v.2.2 (V.flatMap encW)) (hi : i ≤ L.length) (hne : ∀ b, blk h.1 = some b → blk v.1 ≠ some b) (hcap : i < L.length → L.length + V.length ≤ h.2.2) (hB : B ≤ w.heap.size) (hl : L.length + V.length ≤ 2000000) :
    call Try.prog 55 [.slice h.1 h.2.1 h.2.2, .int .i64 (i : Int), .slice v.1 v.2.1 v.2.2] (.one (.one .slice)) w
      (fun (x : Hdr) w' => w.grownBy w' (blk h.1) ∧ Own w' B 89 3 x.1 x.2.1 x.2.2 ((L.take i ++ V ++ L.drop i).flatMap encW) ∧ (blk x.1 = blk h.1 ∨ ∀ b, blk x.1 = some b → w.heap.size ≤ b)) := by
  refine call_of (S55_calls h.1 h.2.1 h.2.2 i v.1 v.2.1 v.2.2 w _ ?_)
  unfold S55
  have ol := O.1
  rw [flat_len encW_len] at ol
  have vl := OV.1
  rw [flat_len encW_len] at vl
  have hn : L.length = h.2.1 := by omega
  have hm : V.length = v.2.1 := by omega
  refine sl_from tyW (m := i) rfl (by omega) ?_
  refine br_eq (fun e => ?_) (fun e => ?_)
  · have : V = [] := List.eq_nil_of_length_eq_zero (by omega)
    subst this
    refine ⟨h, rfl, grown_refl _ _, ?_, .inl rfl⟩
    rw [List.append_nil, List.take_append_drop]; exact O
  have hv1 : ∃ va, v.1 = some va := by
    cases hv : v.1 with
    | none => have := (OV.sl.nil' hv).1; omega
    | some a => exact ⟨a, rfl⟩
  obtain ⟨va, hva⟩ := hv1
  refine br_eq (fun e2 => ?_) (fun e2 => ?_)
  · have hiL : i = L.length := by omega
    subst hiL
    have SV := OV.sl
    rw [hva] at SV ⊢
    refine wr_app tyW O SV hB rfl (by omega) (encW_all V) (by omega) (by unfold maxLen; omega) fun a' c' w' O' hg hn' _ => ?_
    refine ⟨(a', h.2.1 + v.2.1, c'), rfl, hg, ?_, hn'⟩
    rw [List.take_length, List.drop_length, List.append_nil, List.flatMap_append]; exact O'
  · have hiL : i < L.length := by omega
    have hc := hcap hiL
    obtain ⟨ha, ha1⟩ : ∃ a, h.1 = some a := by
      cases hv : h.1 with
      | none => have := (O.sl.nil' hv).1; omega
      | some a => exact ⟨a, rfl⟩
    refine z_i64 (by omega) ?_
    refine br_dec (fun e3 => absurd e3 (by omega)) (fun _ => ?_)
    rw [ha1] at O hne ⊢
    rw [hva] at OV hne ⊢
    refine z_i64 (by omega) ?_
    refine sl_to tyW (m := h.2.1 + v.2.1) (by omega) (by omega) ?_
    dsimp only
    refine z_i64 (by omega) ?_
    refine sl_from tyW (m := i + v.2.1) (by omega) (by omega) ?_
    obtain ⟨ys, hys, OX⟩ := O.extend (m := h.2.1 + v.2.1) (by omega) (by omega)
    have hab : va.block ≠ ha.block := fun q => hne ha.block rfl (by show some va.block = _; rw [q])
    refine ext_overlaps tyW (tR := 4) Try.func57 (by kernel_rfl) (by kernel_rfl) (by kernel_rfl) (by kernel_rfl) OV OX hab (by omega) (by omega) ?_
    refine br_not (fun _ => ?_) (fun q => by cases q)
    refine drw_mk fun w25 h25 _ => ?_
    replace OX : Own w25 B _ _ _ _ _ _ := OX.kept h25
    replace OV : Own w25 B' _ _ _ _ _ _ := OV.kept h25
    refine z_i64 (by omega) ?_
    refine sl_from tyW (m := i + v.2.1) (by omega) (by omega) ?_
    refine sl_from tyW (m := i) rfl (by omega) ?_
    have e1 : h.2.1 + v.2.1 - (i + v.2.1) = L.length - i := by omega
    have hXl : (L.flatMap encW).length = L.length * 3 := flat_len encW_len L
    have src : ((L.flatMap encW ++ ys).drop (i * 3)).take ((h.2.1 + v.2.1 - (i + v.2.1)) * 3) = (L.drop i).flatMap encW := by
      rw [e1, List.drop_append_of_le_length (by omega), drop_flat encW_len]
      rw [List.take_append_of_le_length (by rw [flat_len encW_len, List.length_drop]; exact Nat.le_refl _), List.take_of_length_le (by rw [flat_len encW_len, List.length_drop]; exact Nat.le_refl _)]
    refine wr_copyFrom tyW OX (d := i + v.2.1) (by omega) (OX.dropSl (m := i) (by omega)) (by rw [src]; exact encW_all _) fun _ w30 O30 hg30 _ => ?_
    rw [src] at O30
    have hdl : ((L.drop i).flatMap encW).length = (L.length - i) * 3 := by rw [flat_len encW_len, List.length_drop]
    rw [putAt_end _ _ _ (by rw [List.length_append, hdl]; omega)] at O30
    have V30 : Own w30 B' _ _ _ _ _ _ := OV.keptBy hg30 (.inr fun q => hab (by injection q))
    refine sl_from tyW (m := i) rfl (by omega) ?_
    have vt : (V.flatMap encW).take ((h.2.1 + v.2.1 - i) * 3) = V.flatMap encW := List.take_of_length_le (by rw [flat_len encW_len]; omega)
    refine wr_copyFrom tyW O30 (d := i) (by omega) V30.sl (by rw [vt]; exact encW_all _) fun _ w33 O33 hg33 _ => ?_
    rw [vt] at O33
    have hvl : (V.flatMap encW).length = V.length * 3 := flat_len encW_len V
    have htl : ((L.flatMap encW ++ ys).take ((i + v.2.1) * 3)).length = (i + v.2.1) * 3 := by rw [List.length_take, List.length_append]; omega
    have hfin : putAt ((L.flatMap encW ++ ys).take ((i + v.2.1) * 3) ++ (L.drop i).flatMap encW) (i * 3) (V.flatMap encW) = (L.take i ++ V ++ L.drop i).flatMap encW := by
      rw [putAt_take _ _ _ (by rw [List.length_append, htl, hdl, hvl]; omega), List.flatMap_append, List.flatMap_append]
      congr 1
      · congr 1
        rw [List.take_append_of_le_length (by omega), List.take_take, Nat.min_eq_left (by omega), List.take_append_of_le_length (by omega), take_flat encW_len]
      · rw [hvl, List.drop_append, List.drop_of_length_le (by omega), List.nil_append, htl, show i * 3 + V.length * 3 - (i + v.2.1) * 3 = 0 by omega, List.drop_zero]
    rw [hfin] at O33
    exact ⟨(some ha, h.2.1 + v.2.1, h.2.2), rfl, ((grown_of_bel h25 _).trans hg30).trans hg33, O33, .inl rfl⟩
theorem takeWhile_all {α : Type} {p : α → Bool} : ∀ {l : List α}, (∀ x ∈ l, p x = true) → ∀ m : List α, (l ++ m).takeWhile p = l ++ m.takeWhile p
  | [], _, m => rfl
  | a :: l, h, m => by
    rw [List.cons_append, List.takeWhile_cons_of_pos (h a (by simp)), takeWhile_all (fun x hx => h x (by simp [hx])) m]; rfl
theorem insAt_of {L : List Wr} {a : Nat} (ha : a ≤ L.length) (h1 : ∀ x ∈ L.drop a, x.c = 0) (h2 : a = 0 ∨ ∃ y, L[a - 1]? = some y ∧ y.c ≠ 0) : insAt L = a := by
  unfold insAt
  have e : L.reverse = (L.drop a).reverse ++ (L.take a).reverse := by rw [← List.reverse_append, List.take_append_drop]
  rw [e, takeWhile_all (fun x hx => by simpa using h1 x (by simpa using hx))]
  have e2 : ((L.take a).reverse).takeWhile (fun w : Wr => w.c == 0) = [] := by
    rcases h2 with rfl | ⟨y, hy, hc⟩
    · rw [List.take_zero]; rfl
    · cases a with
      | zero => rfl
      | succ a =>
        simp only [Nat.add_sub_cancel] at hy
        rw [List.take_add_one, hy]
        show List.takeWhile _ ((L.take a ++ [y]).reverse) = []
        rw [List.reverse_append]
        exact List.takeWhile_cons_of_neg (by simpa using hc)
  rw [e2, List.append_nil, List.length_reverse, List.length_drop]
  omega
theorem ownR_snoc (c t : Nat) (L : List Wr) (y : Wr) : ownR c t (L ++ [y]) = ownR c t L ++ (if y.t = t then [⟨y.v, y.t, c⟩] else []) := by
  unfold ownR
  rw [List.filter_append, List.map_append, filter_one]
  congr 1
  by_cases h : y.t = t <;> simp [h]
theorem ownR_len (c t : Nat) (L : List Wr) : (restR t L).length + (ownR c t L).length = L.length := by
  unfold restR ownR
  rw [List.length_map]
  induction L with
  | nil => rfl
  | cons x L ih =>
    by_cases h : x.t = t
    · rw [List.filter_cons_of_neg (by simpa using h), List.filter_cons_of_pos (by simpa using h)]; simp; omega
    · rw [List.filter_cons_of_pos (by simpa using h), List.filter_cons_of_neg (by simpa using h)]; simp; omega
section
variable {lev n K : Nat} {hs : Hdr} {start : List Int} {r : Addr} {w w' : World} {ρ ρ' : Rho} {H : RHd} {s : St}
set_option maxHeartbeats 3200000 in
theorem commitF (A : RunAt lev n K hs start r w ρ H s) (t : Nat) (ht : t < n) (hev : s.ev.length ≤ 1000000) (hrl : ∀ k, k < K → (s.ver k).length ≤ 1000000) :
    call Try.prog 46 [.pointer (some r), .int .i64 (t : Int)] (.many []) w (fun _ w' => ∃ ρ', RA lev n K hs start r H.k w' ρ' (commitT s t) ∧ Kp w ρ w' ρ') := by
  refine call_of (S46_calls (some r) t w _ ?_)
  unfold S46
  refine wr_box fun x1 w2 X1 h2 hx1 _ => ?_
  replace X1 : Box w2 x1 [.int .i64 ((t : Nat) : Int)] := X1
  have hx0 : ρ x1.block = 0 := Classical.byContradiction fun h => by have := A.tag _ h; omega
  have K2 : Kp w ρ w2 ρ := Kp.bel h2
  refine rd_box0 (by kernel_rfl) X1 rfl rfl ?_
  refine call_mono (noteF (A.up h2) ⟨3, t, 0, 0, 0⟩ hev) ?_
  rintro (_ : Unit) w5 ⟨ρ5, ⟨H5, hp5, A5⟩, K5⟩
  obtain ⟨X5, hx5⟩ := K5.box X1 hx0
  obtain ⟨p, hp⟩ := A5.ps_get ht
  refine drw_mk fun w6 h6 _ => ?_
  have A6 := A5.up h6
  refine nn_mk rfl ?_
  refine rd_box (by kernel_rfl) A6.box.box (i := 2) rfl rfl ?_
  refine rd_box0 (by kernel_rfl) (X5.up h6) rfl rfl ?_
  refine at_mk tyT (by kernel_rfl) A6.txs.own.sl (j := t) (s := .ptr) rfl (ptrs_get hp) rfl ?_
  refine nn_mk rfl ?_
  have PB := A6.txb t p hp
  refine wu_boxi PB.box (by kernel_rfl) (by show 3 < 8; omega) rfl fun w13 X hg13 _ => ?_
  obtain ⟨A13, K13⟩ := A6.putTx (x' := { s.tx t with ended := true }) (h' := H5.th t) hp hg13 X rfl rfl rfl rfl rfl rfl ((A6.wp t ht).keep hg13 (fun b h q => by injection h with h; have := PB.tag; rw [h, q] at this; omega) fun _ _ => rfl)
  have X13 := (X5.up h6).grown hg13 (fun q => by injection q with q; have := PB.tag; rw [← q, hx5] at this; omega)
  have K13' : Kp w ρ w13 ρ5 := ((K2.trans K5).trans (Kp.bel h6)).trans K13
  clear K2 K5 K13 X5 X1 A5 A6 PB X hg13 h6 h2 A
  generalize hS1 : setT (noteE s ⟨3, t, 0, 0, 0⟩) t { s.tx t with ended := true } = s1 at A13
  have hv1 : s1.ver = s.ver := by rw [← hS1]; rfl
  have he1 : s1.ev.length = s.ev.length + 1 := by rw [← hS1]; show (s.ev ++ [_]).length = _; simp
  have hfin : ({ s1 with ver := fun k => commitR (s.ev.length + 1) t (s.ver k) } : St) = commitT s t := by rw [← hS1]; rfl
  rw [← hv1] at hrl
  have hp6 : ({ H5 with th := Sc.upd H5.th t (H5.th t) } : RHd).k = H.k := hp5
  generalize hH6 : ({ H5 with th := Sc.upd H5.th t (H5.th t) } : RHd) = H6 at A13 hp6
  refine nn_mk rfl ?_
  refine rd_box (by kernel_rfl) A13.box.box (i := 3) rfl rfl ?_
  have hvl := A13.vers.own.1
  rw [List.length_map, A13.vl, Nat.mul_one] at hvl
  have hvm := A13.vers.own.le
  refine loop_up K (fun i w' => ∃ ρ' H', RunAt lev n K hs start r w' ρ' H' (cutS s1 (commitR (s.ev.length + 1) t) i) ∧ Kp w13 ρ5 w' ρ' ∧ H'.ver = H6.ver ∧ H'.k = H.k) ⟨ρ5, H6, A13.ver' (fun k hk => by simp), Kp.refl _ _, rfl, hp6⟩ ?_
  rintro i w18 hi ⟨ρ7, H7, A7, K7, hH, hps⟩ again hag _
  obtain ⟨X7, hx7⟩ := K7.box X13 hx5
  refine br_dec (fun e => ?_) (fun e => ?_)
  case refine_2 =>
    dsimp only at e
    have hik : i = K := by omega
    subst hik
    refine ⟨(), rfl, ρ7, ⟨H7, hps, ?_⟩, K13'.trans K7⟩
    have := A7.ver' (ver := fun k => commitR (s.ev.length + 1) t (s.ver k)) (fun k hk => by show _ = if k < _ then _ else _; rw [if_pos hk, hv1])
    rw [← hfin]
    exact this
  dsimp only at e
  have hik : i < K := by omega
  obtain ⟨x, hx⟩ := A7.vh_get hik
  have V7 := A7.vers.own
  rw [hH] at V7
  refine join_mk (fun _ w' => ∃ ρ' H', RunAt lev n K hs start r w' ρ' H' (cutS s1 (commitR (s.ev.length + 1) t) (i + 1)) ∧ Kp w13 ρ5 w' ρ' ∧ H'.ver = H6.ver ∧ H'.k = H.k) (fun K19 hK => ?_) (fun _ w' q => ?_)
  case refine_2 =>
    intro _
    refine z_i64 (by dsimp only; omega) ?_
    exact hag w' hik q
  refine at_hdr tyV (by kernel_rfl) V7.sl (j := i) rfl (by omega) fun y hy => ?_
  obtain rfl : x = y := by rw [hx] at hy; injection hy
  have R7 := A7.row i x hx
  rw [cut_at] at R7
  generalize hL : s1.ver i = L at R7
  have hLl : L.length ≤ 1000000 := by rw [← hL]; exact hrl i hik
  have rl := R7.own.1
  rw [flat_len encW_len] at rl
  -- the own ones
  refine loop_upA L.length (fun j (o : Hdr) w' => bel w18 w' ∧ Own w' w18.heap.size 89 3 o.1 o.2.1 o.2.2 ((ownR (s.ev.length + 1) t (L.take j)).flatMap encW)) ⟨bel.refl _, Own.nil _ _ _ _⟩ ?_
  rintro j ⟨o1, o2, o3⟩ w27 hj ⟨hb, O⟩ again2 hag2 _
  have s27 := hb.size
  have A27 := A7.up hb
  have X27 := X7.up hb
  have R27 := A27.row i x hx
  rw [cut_at, hL] at R27
  have oll := O.1
  rw [flat_len encW_len] at oll
  dsimp only at oll
  have owl := ownR_len (s.ev.length + 1) t (L.take j)
  rw [List.length_take] at owl
  refine br_dec (fun e2 => ?_) (fun e2 => ?_)
  · dsimp only at e2
    have hjL : j < L.length := by omega
    obtain ⟨y, hy⟩ : ∃ y, L[j]? = some y := ⟨_, List.getElem?_eq_getElem hjL⟩
    have hst : ownR (s.ev.length + 1) t (L.take (j + 1)) = ownR (s.ev.length + 1) t (L.take j) ++ (if y.t = t then [⟨y.v, y.t, s.ev.length + 1⟩] else []) := by rw [List.take_add_one, hy]; exact ownR_snoc _ t _ y
    refine join_mk (fun (z : Hdr × Unit) w' => bel w18 w' ∧ Own w' w18.heap.size 89 3 z.1.1 z.1.2.1 z.1.2.2 ((ownR (s.ev.length + 1) t (L.take (j + 1))).flatMap encW)) (fun K28 hK28 => ?_) (fun z w' q => ?_)
    case refine_2 =>
      intro _
      refine z_i64 (by dsimp only; omega) ?_
      exact hag2 z.1 w' hjL q
    refine at_agg tyW (by kernel_rfl) encW_len (by omega) R27.own.sl (j := j) rfl hy rfl ?_
    refine wr_alloc (z := .agg #[.int .i64 0, .int .i64 0, .int .i64 0]) (by kernel_rfl) fun x34 w35 X34 h35 hx34 _ => ?_
    refine wu_box X34 (by kernel_rfl) (Nat.le_refl 3) rfl fun w36 X34 hg36 _ => ?_
    replace X34 : Box w36 x34 (encW y) := X34
    have b36 : bel w27 w36 := h35.grownAt hg36 (by omega)
    refine rd_box (by kernel_rfl) X34 (i := 1) rfl rfl ?_
    refine rd_box0 (by kernel_rfl) (X27.up b36) rfl rfl ?_
    refine br_eq (fun e3 => ?_) (fun e3 => ?_)
    · have hyt : y.t = t := by omega
      refine nn_mk rfl ?_
      refine rd_box (by kernel_rfl) (A27.up b36).box.box (i := 4) rfl rfl ?_
      have el := A7.ev.own.1
      rw [flat_len encE_len] at el
      change s1.ev.length * 5 = _ at el
      refine wu_boxi X34 (by kernel_rfl) (by show 2 < 3; omega) rfl fun w41 X41 hg41 _ => ?_
      replace X41 : Box w41 x34 (encW ⟨y.v, y.t, H7.ev.2.1⟩) := X41
      have b41 : bel w27 w41 := b36.grownAt hg41 (by omega)
      have he41 : H7.ev.2.1 = s.ev.length + 1 := by omega
      rw [he41] at X41
      refine rd_boxN X41 (by kernel_rfl) rfl ?_
      have O41 : Own w41 w18.heap.size _ _ _ _ _ _ := O.kept b41
      refine wr_app1 tyW O41 (by have := b41.size; omega) rfl (by omega) (by omega) rfl rfl (by dsimp only; omega) (by unfold maxLen; dsimp only; omega) fun a' c' w' O' hg _ _ => ?_
      refine hK28 _ _ ⟨(hb.trans b41).own O41 hg (Nat.le_refl _), ?_⟩
      rw [hst, if_pos hyt, List.flatMap_append]; exact O'
    · have hyt : y.t ≠ t := by omega
      refine hK28 _ _ ⟨hb.trans b36, ?_⟩
      rw [hst, if_neg hyt, List.append_nil]; exact O.kept b36
  dsimp only at e2
  have hjL : j = L.length := by omega
  subst hjL
  rw [List.take_length] at O owl
  clear hag2 again2
  have hnc : blk x.1 ≠ some x1.block := fun q => absurd (R7.tag _ q) (by rw [hx7]; omega)
  have hnb : blk x.1 ≠ some r.block := fun q => absurd (R7.tag _ q) (by rw [A7.box.tag]; omega)
  have hold : ∀ b, blk x.1 = some b → b < w18.heap.size := fun b hb => (R7.own.lt b hb).2
  have hon : ∀ b, blk o1 = some b → w18.heap.size ≤ b := fun b hb => (O.lt b hb).1
  refine call_mono (del_c x L t x1 w27 R27.own X27 hnc hLl) ?_
  rintro (x47 : Hdr) w48 ⟨rfl, OR, hg48⟩
  have O48 : Own w48 w18.heap.size _ _ _ _ _ _ := O.keptBy hg48 (by
    cases hb : blk o1 with
    | none => exact .inl rfl
    | some b => exact .inr fun q => absurd (hold b q.symm) (by have := hon b hb; omega))
  have rcap := R7.own.capn
  generalize hRR : restR t L = RR at OR owl
  have rrl : RR.length ≤ L.length := by omega
  refine join_mk (fun (z : Int × Unit) w' => w' = w48 ∧ z.1 = ((insAt RR : Nat) : Int)) (fun K49 hK49 => ?_) (fun z w' q => ?_)
  · refine loop_gh (G := Nat) (fun a s' w' => s' = ((a : Int), ()) ∧ w' = w48 ∧ a ≤ RR.length ∧ ∀ y ∈ RR.drop a, y.c = 0) (fun a => a) RR.length ⟨rfl, rfl, Nat.le_refl _, fun y hy => by rw [List.drop_length] at hy; cases hy⟩ ?_
    rintro a _ _ ⟨rfl, rfl, ha, hz⟩ again3 hag3 _
    refine br_dec (fun e4 => ?_) (fun e4 => ?_)
    · dsimp only at e4
      refine z_i64 (by dsimp only; omega) ?_
      obtain ⟨y, hy⟩ : ∃ y, RR[a - 1]? = some y := ⟨_, List.getElem?_eq_getElem (by omega)⟩
      refine idx_agg tyW encW_len (by omega) OR.sl (j := a - 1) (by dsimp only; omega) hy fun ad had => ?_
      refine rd_cell (by kernel_rfl) (had 2 _ rfl) rfl ?_
      refine br_eq (fun e5 => ?_) (fun e5 => ?_)
      · refine z_i64 (by dsimp only; omega) ?_
        have e6 : ((a : Int) - 1) = ((a - 1 : Nat) : Int) := by omega
        refine hag3 (a - 1) _ _ ⟨by rw [← e6], rfl, by omega, fun q hq => ?_⟩ (by omega)
        rw [List.drop_eq_getElem_cons (by omega)] at hq
        rcases List.mem_cons.1 hq with rfl | hq
        · rw [List.getElem?_eq_getElem (by omega)] at hy
          injection hy with hy
          rw [hy]; omega
        · rw [show a - 1 + 1 = a by omega] at hq
          exact hz q hq
      · refine hK49 _ _ ⟨rfl, ?_⟩
        rw [insAt_of ha hz (.inr ⟨y, hy, fun q => e5 (by omega)⟩)]
    · dsimp only at e4
      refine hK49 _ _ ⟨rfl, ?_⟩
      rw [insAt_of ha hz (.inl (by omega))]
  · obtain ⟨z1, _⟩ := z
    obtain ⟨rfl, hz1⟩ := q
    dsimp only at hz1
    subst hz1
    intro _
    refine drw_mk fun w52 h52 _ => ?_
    have hgA : w27.grownBy w52 (blk x.1) := hg48.trans (grown_of_bel h52 _)
    have X52 := A27.box.box.grown hgA (fun q => hnb q.symm)
    have hia : insAt RR ≤ RR.length := by unfold insAt; omega
    have hcm : commitR (s.ev.length + 1) t L = RR.take (insAt RR) ++ ownR (s.ev.length + 1) t L ++ RR.drop (insAt RR) := by unfold commitR; rw [hRR]
    refine reg_row (b := blk x.1) (hh := H7.ver) (Q := fun (y : Hdr) w' => Own w' 0 89 3 y.1 y.2.1 y.2.2 ((commitR (s.ev.length + 1) t L).flatMap encW) ∧ (blk y.1 = blk x.1 ∨ ∀ b, blk y.1 = some b → w27.heap.size ≤ b)) (by kernel_rfl) X52 rfl hnb (fun w' hb' => ?_) (fun y w65 hg65 q => ?_)
    · refine call_mono (insF (x.1, RR.length, x.2.2) (o1, o2, o3) RR (ownR (s.ev.length + 1) t L) (insAt RR) w' ((OR.kept h52).kept hb') ((O48.kept h52).kept hb') hia (fun b hb1 hb2 => ?_) (fun _ => by dsimp only; omega) (Nat.zero_le _) (by omega)) fun y w'' q => ⟨q.1, by rw [hcm]; exact q.2.1, ?_⟩
      · have := hold b hb1; have := hon b hb2; omega
      · rcases q.2.2 with q1 | q1
        · exact .inl q1
        · exact .inr fun b hb1 => by have := q1 b hb1; have := hgA.size; have := hb'.size; omega
    · obtain ⟨O65, hn65⟩ := q
      have V27 := A27.vers
      have hgB : w27.grownBy w65 (blk x.1) := hgA.trans hg65
      have V65 : Own w65 0 87 1 H7.ver.1 H7.ver.2.1 H7.ver.2.2 (H7.vh.map hv) := V27.own.keptBy hgB (by
        cases hb : blk H7.ver.1 with
        | none => exact .inl rfl
        | some b => exact .inr fun q => absurd (V27.tag b hb) (by rw [R27.tag b q.symm]; omega))
      refine set_mk tyV V65 (j := i) rfl (by rw [hH]; omega) rfl fun w68 O68 hg68 _ => ?_
      obtain ⟨A68, K68⟩ := A27.putRow (a' := y.1) (m := y.2.1) (c' := y.2.2) (l' := commitR (s.ev.length + 1) t L) hx O65 hgB hn65 hg68 O68
      rw [← hL, cut_upd] at A68
      exact hK _ _ ⟨_, _, A68, (K7.trans (Kp.bel hb)).trans K68, hH, hps⟩
end
end Go.Proofs.Ytcglflifaniolaa

/- A run of transactions: a turn. -/


namespace Go.Proofs.Ytcglflifaniolaa
open Go.RowKit Go.Q Go.V Go.Proofs.Sc

theorem clampF (x : Int) (w : World) : call Try.prog 32 [.int .i64 x] (.one (.one (.int .i64))) w (fun (y : Int) w' => y = clm x ∧ w' = w) := by
  refine call_of (S32_calls x w _ ?_)
  unfold S32
  refine ⟨_, rfl, ?_, rfl⟩
  unfold clm
  split <;> split <;> omega
section
variable {lev n K : Nat} {hs : Hdr} {start : List Int} {r : Addr} {w w' : World} {ρ ρ' : Rho} {H : RHd} {s : St}
theorem RunAt.wpk (A : RunAt lev n K hs start r w ρ H s) {w' : World} {t i : Nat} {p : Addr} (ht : i < n) (hp : H.ps[t]? = some p) (hg : w.grownBy w' (some p.block)) : WP w' ρ (s.tx i).wants (H.th i).wp :=
  (A.wp i ht).keep hg (fun b h q => by injection h with h; have := (A.txb t p hp).tag; rw [h, q] at this; omega) fun _ _ => rfl

theorem beginW (A : RunAt lev n K hs start r w ρ H s) {t : Nat} {p : Addr} (ht : t < n) (hp : H.ps[t]? = some p) (hev : s.ev.length ≤ 900000) {K5 : Unit → World → Prop}
    (hK : ∀ x w', (∃ ρ', RA lev n K hs start r H.k w' ρ' (beginT s t) ∧ Kp w ρ w' ρ') → K5 x w') :
    nn (some p) fun a124 => rd Try.prog (Instr.loadAt 4 (.pointer (some (a124.add 2)))) (.one .bool) w fun (x125 : Bool) =>
      br (!x125) (nn (some p) fun a126 => wu Try.prog (Instr.storeAt 4 (.pointer (some (a126.add 2))) (.bool true)) w fun w127 =>
        call Try.prog 40 [.pointer (some r), .int .i64 5, .int .i64 (t : Int), .int .i64 0, .int .i64 0, .int .i64 0] (.many []) w127 fun (_ : Unit) w129 =>
        nn (some r) fun a130 => rd Try.prog (Instr.loadAt 28 (.pointer (some (a130.add 4)))) (.one .slice) w129 fun (x131 : Hdr) =>
        nn (some p) fun a132 => wu Try.prog (Instr.storeAt 3 (.pointer (some (a132.add 4))) (.int .i64 ((x131.2.1 : Nat) : Int))) w129 fun w133 => K5 () w133) (K5 () w) := by
  refine nn_mk rfl ?_
  refine rd_box (by kernel_rfl) (A.txb t p hp).box (i := 2) rfl rfl ?_
  refine br_not (fun hb => ?_) (fun hb => ?_)
  · refine nn_mk rfl ?_
    have PB := A.txb t p hp
    refine wu_boxi PB.box (by kernel_rfl) (by show 2 < 8; omega) rfl fun w127 X hg _ => ?_
    obtain ⟨A1, K1⟩ := A.putTx (x' := { s.tx t with begun := true }) (h' := H.th t) hp hg X rfl rfl rfl rfl rfl rfl (A.wpk ht hp hg)
    refine call_mono (noteF A1 ⟨5, t, 0, 0, 0⟩ (by show s.ev.length ≤ _; omega)) ?_
    rintro (_ : Unit) w129 ⟨ρ2, ⟨H2, hp2, A2⟩, K2⟩
    have hp2' : H2.ps[t]? = some p := by rw [k_ps hp2]; exact hp
    refine nn_mk rfl ?_
    refine rd_box (by kernel_rfl) A2.box.box (i := 4) rfl rfl ?_
    refine nn_mk rfl ?_
    have el := A2.ev.own.1
    rw [flat_len encE_len] at el
    change (s.ev ++ [_]).length * 5 = _ at el
    rw [List.length_append, List.length_singleton] at el
    have el' : H2.ev.2.1 = s.ev.length + 1 := by omega
    have PB2 := A2.txb t p hp2'
    refine wu_boxi PB2.box (by kernel_rfl) (by show 4 < 8; omega) rfl fun w133 X hg _ => ?_
    dsimp only at X
    rw [el'] at X
    obtain ⟨A3, K3⟩ := A2.putTx (x' := { s.tx t with begun := true, snap := s.ev.length + 1 }) (h' := H2.th t) hp2' hg (by
      have e : (noteE (setT s t { s.tx t with begun := true }) ⟨5, t, 0, 0, 0⟩).tx t = { s.tx t with begun := true } := upd_same _ _ _
      rw [e] at X; exact X) (by rfl) rfl rfl (by exact (congrArg Tx.steps (upd_same s.tx t { s.tx t with begun := true })).symm) (by exact (congrArg Tx.sh (upd_same s.tx t { s.tx t with begun := true })).symm) (by exact (congrArg Tx.ex (upd_same s.tx t { s.tx t with begun := true })).symm) (by
      have := A2.wpk ht hp2' hg
      have e : (noteE (setT s t { s.tx t with begun := true }) ⟨5, t, 0, 0, 0⟩).tx t = { s.tx t with begun := true } := upd_same _ _ _
      rw [e] at this; exact this)
    have e : setT (noteE (setT s t { s.tx t with begun := true }) ⟨5, t, 0, 0, 0⟩) t { s.tx t with begun := true, snap := s.ev.length + 1 } = beginT s t := by
      unfold beginT
      rw [hb, if_neg (by simp)]
      exact congrArg (fun f => ({ tx := f, ver := s.ver, ev := s.ev ++ [⟨5, t, 0, 0, 0⟩] } : St)) (congrArg St.tx (setT_setT s t { s.tx t with begun := true } { s.tx t with begun := true, snap := s.ev.length + 1 }))
    rw [e] at A3
    exact hK _ _ ⟨ρ2, ⟨{ H2 with th := Sc.upd H2.th t (H2.th t) }, hp2, A3⟩, (K1.trans K2).trans K3⟩
  · refine hK _ _ ⟨ρ, ⟨H, rfl, ?_⟩, Kp.refl _ _⟩
    unfold beginT
    rw [if_pos hb]; exact A

theorem putReg (A : RunAt lev n K hs start r w ρ H s) {x20 : Addr} {p : Sp} (X20 : Box w x20 (encS p)) (h20 : ρ x20.block = 0) (hk : p.key < K) (v : Int) (t : Nat) (hl : (s.ver p.key).length ≤ 1000000) {x : Hdr} (hx : H.vh[p.key]? = some x) {KK : Hdr → Int → Hdr → World → Prop}
    (hK : ∀ (y : Hdr) w', w.grownBy w' (blk x.1) → Own w' 0 89 3 y.1 y.2.1 y.2.2 ((s.ver p.key ++ [(⟨v, t, 0⟩ : Wr)]).flatMap encW) → (blk y.1 = blk x.1 ∨ ∀ b, blk y.1 = some b → w.heap.size ≤ b) → KK H.ver ((p.key : Nat) : Int) y w') :
    flExC w fun E G Y F => nn (some r) fun a45 =>
      rdE Try.prog (ER Y [20] E) (Instr.loadAt 60 (.pointer (some (a45.add 3)))) (.one .slice) w fun (x46 : Hdr) =>
      rdE Try.prog (ER Y [20] E) (Instr.loadAt 3 (.pointer (some (x20.add 1)))) (.one (.int .i64)) w fun (x47 : Int) =>
      nn (some r) fun a48 =>
      rdE Try.prog (ER Y [18, 20] E) (Instr.loadAt 60 (.pointer (some (a48.add 3)))) (.one .slice) w fun (x49 : Hdr) =>
      rdE Try.prog (ER Y [18, 20] E) (Instr.loadAt 3 (.pointer (some (x20.add 1)))) (.one (.int .i64)) w fun (x50 : Int) =>
      rdp Try.prog (Instr.indexAt 60 (.slice x49.1 x49.2.1 x49.2.2) (.int .i64 x50)) (.one .addr) fun (x51 : Addr) =>
      rdE Try.prog (ER Y [18, 20] E) (Instr.loadAt 87 (.pointer (some x51))) (.one .slice) w fun (x52 : Hdr) =>
      flcC Y 17 E w (fun _ => True) (fun D w53 => wr Try.prog (Instr.buildSlice 87 1 #[(0, .agg #[.int .i64 v, .int .i64 (t : Int), .int .i64 0])]) (.one .slice) w53 fun (x56 : Hdr) w57 => (E w53 w57 ∧ G 17 w53 w57 ∧ Y (setD D 17) w57 ∧ F 17 [.agg #[.int .i64 v, .int .i64 (t : Int), .int .i64 0]] (.slice x56.1 x56.2.1 x56.2.2) w57)) fun (x58 : Hdr) =>
      flcC Y 18 E w (fun w60 => F 17 [.agg #[.int .i64 v, .int .i64 (t : Int), .int .i64 0]] (.slice x58.1 x58.2.1 x58.2.2) w60 ∧ True) (fun D w59 => wr Try.prog (Builtin.append_ #[87, 87] 87 #[.slice x52.1 x52.2.1 x52.2.2, .slice x58.1 x58.2.1 x58.2.2]) (.one .slice) w59 fun (x62 : Hdr) w63 => (E w59 w63 ∧ G 18 w59 w63 ∧ Y (setD D 18) w63 ∧ F 18 [.slice x52.1 x52.2.1 x52.2.2, .slice x58.1 x58.2.1 x58.2.2] (.slice x62.1 x62.2.1 x62.2.2) w63)) fun (x64 : Hdr) =>
      flendC Y [18, 17] E w (fun w66 => F 18 [.slice x52.1 x52.2.1 x52.2.2, .slice x58.1 x58.2.1 x58.2.2] (.slice x64.1 x64.2.1 x64.2.2) w66 ∧ F 17 [.agg #[.int .i64 v, .int .i64 (t : Int), .int .i64 0]] (.slice x58.1 x58.2.1 x58.2.2) w66 ∧ True) fun w65 => KK x46 x47 x64 w65 := by
  have R := A.row p.key x hx
  have hvl := A.vers.own.1
  rw [List.length_map, A.vl, Nat.mul_one] at hvl
  have rl := R.own.1
  rw [flat_len encW_len] at rl
  have hold : ∀ b, blk x.1 = some b → b < w.heap.size := fun b hb => (R.own.lt b hb).2
  have hnr : ∀ {w'}, w.grownBy w' (blk x.1) → Box w' r (rnc lev hs H) := fun hg => A.box.box.grown hg (fun q => by have := R.tag _ q.symm; rw [A.box.tag] at this; omega)
  have hn20 : ∀ {w'}, w.grownBy w' (blk x.1) → Box w' x20 (encS p) := fun hg => X20.grown hg (fun q => by have := R.tag _ q.symm; omega)
  have hnv : ∀ {w'}, w.grownBy w' (blk x.1) → Sl w' H.ver.1 H.ver.2.1 H.ver.2.2 1 (H.vh.map hv) := fun hg => (A.vers.keep (ρ' := ρ) hg (fun b h q => by have := R.tag b h; omega) fun _ _ => rfl).own.sl
  refine flExC_mk (fun w1 w2 => w1.grownBy w2 (blk x.1)) (fun j w1 w2 => j ≠ 18 → bel w1 w2) (fun D w' => D 18 = false → bel w w')
    (fun i _ y w' => (i = 17 → ∃ ad : Addr, y = .slice (some ad) 1 1 ∧ Own w' w.heap.size 89 3 (some ad) 1 1 (encW ⟨v, t, 0⟩)) ∧ (i = 18 → ∃ h : Hdr, y = .slice h.1 h.2.1 h.2.2 ∧ Own w' 0 89 3 h.1 h.2.1 h.2.2 ((s.ver p.key ++ [(⟨v, t, 0⟩ : Wr)]).flatMap encW) ∧ (blk h.1 = blk x.1 ∨ ∀ b, blk h.1 = some b → w.heap.size ≤ b)))
    (fun w => grown_refl w _) (fun _ _ _ a b => grown_trans a b) (fun i j ags y w1 w2 hij hF hE hG => ⟨fun e => ?_, fun e => ?_⟩) (fun _ => bel.refl _) ?_
  · obtain ⟨ad, h1, h2⟩ := hF.1 e
    exact ⟨ad, h1, h2.keptBy hE (.inr fun q => by have := hold ad.block q.symm; have := (h2.lt ad.block rfl).1; omega)⟩
  · obtain ⟨h, h1, h2, h3⟩ := hF.2 e
    exact ⟨h, h1, h2.kept (hG (fun q => hij (e.trans q.symm))), h3⟩
  refine nn_mk rfl ?_
  refine rdE_box (by kernel_rfl) (fun w' hE => hnr hE.1) (i := 3) rfl rfl ?_
  refine rdE_box (by kernel_rfl) (fun w' hE => hn20 hE.1) (i := 1) rfl rfl ?_
  refine nn_mk rfl ?_
  refine rdE_box (by kernel_rfl) (fun w' hE => hnr hE.1) (i := 3) rfl rfl ?_
  refine rdE_box (by kernel_rfl) (fun w' hE => hn20 hE.1) (i := 1) rfl rfl ?_
  have hv' : (H.vh.map hv)[p.key]? = some (hv x) := by rw [List.getElem?_map, hx]; rfl
  obtain ⟨va, hva, _, _⟩ := (hnv (grown_refl w _)).at' p.key _ hv'
  refine idx_mk tyV rfl (by dsimp only; omega) hva ?_
  rw [Nat.mul_one]
  refine ⟨x, fun w' hE => ?_, ?_⟩
  · obtain ⟨ad', q1, q2, _⟩ := (hnv hE.1).at' p.key _ hv'
    have q3 := hva.symm.trans q1
    injection q3 with q3; subst q3
    rw [run_loadAt, run_loadVar1 (by kernel_rfl) q2]; rfl
  refine flcC_mk (fun D w53 hD hE hS _ => ?_) (fun x58 => ?_)
  · refine wr_lit tyW (Value.agg #[.int .i64 v, .int .i64 (t : Int), .int .i64 0]).cells (fill_one 3 _ _ rfl (by first | rfl | simp)) (by omega) (by omega) rfl (by unfold maxLen; omega) fun ad w57 OL h57 _ _ => ?_
    refine ⟨grown_of_bel h57 _, fun _ => h57, fun e => (hS (by rw [setD_ne (by omega)] at e; exact e)).trans h57, fun _ => ⟨ad, rfl, OL w.heap.size hE.size⟩, fun e => absurd e (by decide)⟩
  · refine flcC_mk (fun D w59 hD hE hS f => ?_) (fun x64 => ?_)
    · obtain ⟨ad, h1, h2⟩ := f.1.1 rfl
      have e58 : x58 = (some ad, 1, 1) := by
        obtain ⟨a1, a2, a3⟩ := x58
        simp only [Value.slice.injEq] at h1
        obtain ⟨rfl, rfl, rfl⟩ := h1; rfl
      subst e58
      have b59 := hS hD
      refine wr_app tyW (R.own.kept b59) h2.sl (Nat.zero_le _) rfl (by omega) rfl (by omega) (by unfold maxLen; omega) fun a' c' w63 O hg hn' _ => ?_
      refine ⟨hg, fun q => absurd rfl q, fun e => (by rw [setD_self] at e; cases e), fun e => absurd e (by decide), fun _ => ⟨(a', x.2.1 + 1, c'), rfl, ?_, ?_⟩⟩
      · rw [List.flatMap_append]; exact O
      · rcases hn' with q | q
        · exact .inl q
        · exact .inr fun b hb => by have := q b hb; have := b59.size; omega
    · refine flendC_mk fun w65 hE _ f => ?_
      obtain ⟨h, h1, h2, h3⟩ := f.1.2 rfl
      have e64 : x64 = h := by
        obtain ⟨a1, a2, a3⟩ := x64; obtain ⟨b1, b2, b3⟩ := h
        simp only [Value.slice.injEq] at h1
        obtain ⟨rfl, rfl, rfl⟩ := h1; rfl
      subst e64
      exact hK x64 w65 hE h2 h3
end
end Go.Proofs.Ytcglflifaniolaa

/- A run of transactions: a turn, whole. -/

namespace Go.Proofs.Ytcglflifaniolaa
open Go.RowKit Go.Q Go.V Go.Proofs.Sc
section
variable {lev n K : Nat} {hs : Hdr} {start : List Int} {r : Addr} {w w' : World} {ρ ρ' : Rho} {H : RHd} {s : St}

def Got (lev n : Nat) (s : St) (t : Nat) (p : Sp) (s2 : St) : Prop := (need lev p = none ∧ s2 = s) ∨ ∃ l, need lev p = some l ∧ others n s t l = [] ∧ s2 = takeL s t l
set_option maxHeartbeats 800000 in
theorem lockW (A : RunAt lev n K hs start r w ρ H s) {t m : Nat} {x20 : Addr} {p : Sp} (ht : t < n) (hn : n ≤ 1000) (X20 : Box w x20 (encS p)) (h20 : ρ x20.block = 0) (Bs : Bd n K m s) (hm : m ≤ 900000) (hp : SB K p) {K24 : Unit → World → Prop} {R : Value → World → Prop}
    (hK : ∀ x w', (∃ ρ' s2, Got lev n s t p s2 ∧ RA lev n K hs start r H.k w' ρ' s2 ∧ Kp w ρ w' ρ' ∧ Box w' x20 (encS p) ∧ ρ' x20.block = 0) → K24 x w')
    (hR : ∀ w', (∃ ρ' l, need lev p = some l ∧ ¬ others n s t l = [] ∧ RA lev n K hs start r H.k w' ρ' (if waits n (wantL s t l) t = true then abortT (wantL s t l) t else wantL s t l) ∧ Kp w ρ w' ρ') → R (.tuple #[]) w') :
    drw w fun w99 => flEx fun F100 => nn (some r) fun a101 =>
      rd Try.prog (Instr.loadAt 3 (.pointer (some a101))) (.one (.int .i64)) w99 fun (x102 : Int) =>
      rd Try.prog (Instr.loadAt 57 (.pointer (some x20))) (.agg [.int .i64, .int .i64, .int .i64]) w99 fun (x103 : Int × Int × Int × Unit) =>
      flc bel w99 (fun _ => True) (fun w104 => call Try.prog 41 [.int .i64 x102, .agg #[.int .i64 x103.1, .int .i64 x103.2.1, .int .i64 x103.2.2.1]] (.many [.agg [.int .i64, .bool], .one .bool]) w104 fun (x106 : (Int × Bool × Unit) × Bool × Unit) w107 =>
        (bel w104 w107 ∧ F100 5 [.int .i64 x102, .agg #[.int .i64 x103.1, .int .i64 x103.2.1, .int .i64 x103.2.2.1]] (.tuple #[.agg #[.int .i64 x106.1.1, .bool x106.1.2.1], .bool x106.2.1]) w107)) fun (x108 : (Int × Bool × Unit) × Bool × Unit) =>
      flc bel w99 (fun _ => True) (fun w109 => wr Try.prog (Instr.alloc 82 true (.tuple #[])) (.one .addr) w109 fun (x111 : Addr) w112 => (bel w109 w112 ∧ F100 9 [] (.pointer (some x111)) w112)) fun (x113 : Addr) =>
      flend bel w99 (fun w115 => F100 9 [] (.pointer (some x113)) w115 ∧ F100 5 [.int .i64 x102, .agg #[.int .i64 x103.1, .int .i64 x103.2.1, .int .i64 x103.2.2.1]] (.tuple #[.agg #[.int .i64 x108.1.1, .bool x108.1.2.1], .bool x108.2.1]) w115 ∧ True) fun w114 =>
      wu Try.prog (Instr.storeAt 82 (.pointer (some x113)) (.agg #[.int .i64 x108.1.1, .bool x108.1.2.1])) w114 fun w116 =>
      br x108.2.1 (rd Try.prog (Instr.loadAt 82 (.pointer (some x113))) (.agg [.int .i64, .bool]) w116 fun (x117 : Int × Bool × Unit) =>
        call Try.prog 42 [.pointer (some r), .int .i64 (t : Int), .agg #[.int .i64 x117.1, .bool x117.2.1]] (.one (.one .bool)) w116 fun (x118 : Bool) w119 =>
        br (!x118) (call Try.prog 43 [.pointer (some r), .int .i64 (t : Int)] (.one (.one .bool)) w119 fun (x120 : Bool) w121 =>
          br x120 (call Try.prog 28 [.pointer (some r), .int .i64 (t : Int)] (.many []) w121 fun (_ : Unit) w123 => R (.tuple #[]) w123) (R (.tuple #[]) w121)) (K24 () w119)) (K24 () w116) := by
  refine drw_mk fun w99 h99 _ => ?_
  have A99 := A.up h99
  have X99 := X20.up h99
  refine flEx_mk (fun i _ v w' => (i = 5 → ∃ x : (Int × Bool × Unit) × Bool × Unit, v = .tuple #[.agg #[.int .i64 x.1.1, .bool x.1.2.1], .bool x.2.1] ∧ (x.2.1 = true ↔ ∃ l, need lev p = some l) ∧ (∀ l, need lev p = some l → x.1 = (((l.k : Nat) : Int), l.x, ()))) ∧ (i = 9 → ∃ ad, v = .pointer (some ad) ∧ Box w' ad [.int .i64 0, .bool false] ∧ w99.heap.size ≤ ad.block))
    (fun i ags v w1 w2 hF hb => ⟨hF.1, fun e => by obtain ⟨ad, h1, h2, h3⟩ := hF.2 e; exact ⟨ad, h1, h2.up hb, h3⟩⟩) ?_
  refine nn_mk rfl ?_
  refine rd_box0 (by kernel_rfl) A99.box.box rfl rfl ?_
  refine rd_boxN X99 (by kernel_rfl) rfl ?_
  refine flc_mk (fun w104 _ _ => ?_) (fun x108 => flc_mk (fun w109 h109 _ => ?_) (fun x113 => flend_mk fun w114 h114 f => ?_))
  · exact call_mono (neededF lev p w104) fun x106 w107 q => ⟨q.2.2, fun _ => ⟨x106, rfl, q.1, q.2.1⟩, fun e => absurd e (by decide)⟩
  · exact wr_alloc (z := .agg #[.int .i64 0, .bool false]) (by kernel_rfl) fun ad w112 X h112 hx _ => ⟨h112, fun e => absurd e (by decide), fun _ => ⟨ad, rfl, X, by have := h109.size; omega⟩⟩
  · obtain ⟨ad, e1, X113, hx113⟩ := f.1.2 rfl
    obtain ⟨y, e2, hy1, hy2⟩ := f.2.1.1 rfl
    injection e1 with e1
    injection e1 with e1
    subst e1
    have e3 : x108 = y := by
      obtain ⟨⟨a1, a2, _⟩, a3, _⟩ := x108; obtain ⟨⟨b1, b2, _⟩, b3, _⟩ := y
      simp only [Value.tuple.injEq, Array.mk.injEq, List.cons.injEq, Value.agg.injEq, Value.int.injEq, Value.bool.injEq, true_and, and_true] at e2
      obtain ⟨⟨rfl, rfl⟩, rfl⟩ := e2; rfl
    subst e3
    have hs99 := h99.size
    have A114 := A99.up h114
    have X114 := X99.up h114
    refine wu_box X113 (by kernel_rfl) (Nat.le_refl 2) rfl fun w116 XL hg116 _ => ?_
    have b116 : bel w99 w116 := h114.grownAt hg116 hx113
    have A116 := A99.up b116
    have K116 : Kp w ρ w116 ρ := Kp.bel (h99.trans b116)
    refine br_mk (fun hy => ?_) (fun hy => ?_)
    · obtain ⟨l, hl⟩ := hy1.1 hy
      have e4 := hy2 l hl
      have hlk := need_key hp hl
      replace XL : Box w116 x113 [.int .i64 x108.1.1, .bool x108.1.2.1] := XL
      rw [e4] at XL
      refine rd_boxN XL (by kernel_rfl) rfl ?_
      refine call_mono (grantedF A116 t ht l hlk hn) ?_
      rintro (b : Bool) w119 ⟨hb, ρ1, ⟨H1, hp1, A1⟩, K1⟩
      refine br_not (fun hb0 => ?_) (fun hb0 => ?_)
      · have hno : ¬ others n s t l = [] := fun q => by rw [hb.2 q] at hb0; cases hb0
        rw [if_neg hno] at A1
        have B1 := Bs.want (t := t) hlk
        refine call_mono (waitsF A1 t ht hn B1.wants) ?_
        rintro (b2 : Bool) w121 ⟨hb2, h121⟩
        have A2 := A1.up h121
        have K2 := (K116.trans K1).trans (Kp.bel h121)
        refine br_mk (fun e => ?_) (fun e => ?_)
        · refine call_mono (abortF A2 t ht (by have := B1.ev; omega) fun k _ => by have := (B1.ver k).1; omega) ?_
          rintro (_ : Unit) w123 ⟨ρ3, ⟨H3, hp3, A3⟩, K3⟩
          refine hR _ ⟨ρ3, l, hl, hno, ⟨H3, hp3.trans hp1, ?_⟩, K2.trans K3⟩
          rw [if_pos (by rw [← hb2]; exact e)]; exact A3
        · refine hR _ ⟨ρ1, l, hl, hno, ⟨H1, hp1, ?_⟩, K2⟩
          rw [if_neg (by rw [← hb2, e]; simp)]; exact A2
      · have hyes := hb.1 hb0
        rw [if_pos hyes] at A1
        obtain ⟨X119, h0⟩ := (K116.trans K1).box X20 h20
        exact hK _ _ ⟨ρ1, _, .inr ⟨l, hl, hyes, rfl⟩, ⟨H1, hp1, A1⟩, K116.trans K1, X119, h0⟩
    · have hno : need lev p = none := by
        cases hn : need lev p with
        | none => rfl
        | some l => rw [hy1.2 ⟨l, hn⟩] at hy; cases hy
      obtain ⟨X119, h0⟩ := K116.box X20 h20
      exact hK _ _ ⟨ρ, s, .inl ⟨hno, rfl⟩, ⟨H, rfl, A116⟩, K116, X119, h0⟩

theorem RunAt.bmp (A : RunAt lev n K hs start r w ρ H s) {t : Nat} {p : Addr} (ht : t < n) (hp : H.ps[t]? = some p) {w' : World} (hg : w.grownBy w' (some p.block)) (X : Box w' p (txc { s.tx t with at_ := (s.tx t).at_ + 1 } (H.th t))) : RA lev n K hs start r H.k w' ρ (bump s t) ∧ Kp w ρ w' ρ := by
  obtain ⟨h1, h2⟩ := A.putTx (x' := { s.tx t with at_ := (s.tx t).at_ + 1 }) (h' := H.th t) hp hg X rfl rfl rfl rfl rfl rfl (A.wpk ht hp hg)
  exact ⟨⟨_, by rfl, h1⟩, h2⟩

def readP (lev : Nat) (start : Nat → Int) (s : St) (t : Nat) (p : Sp) : St := if p.kind = 1 ∨ p.kind = 3 then noteR lev start s t p.key else s
def valP (lev : Nat) (start : Nat → Int) (s : St) (t : Nat) (p : Sp) : Int := if p.kind = 1 ∨ p.kind = 3 then clm ((readV lev start s t p.key).1 + p.val) else p.val
theorem act_eq (lev K : Nat) (start : Nat → Int) (s : St) (t : Nat) (p : Sp) : actT lev K start s t p = if p.kind = 2 ∨ p.kind = 3 then putW (readP lev start s t p) t p.key (valP lev start s t p) else if p.kind = 4 then abortT s t else if p.kind = 5 then doneT lev K s t else if p.kind = 1 then noteR lev start s t p.key else s := by
  unfold actT readP valP
  by_cases h1 : p.kind = 1
  · simp [h1]
  · by_cases h2 : p.kind = 2
    · simp [h2]
    · by_cases h3 : p.kind = 3
      · simp [h3]
      · simp [h1, h2, h3]
set_option maxHeartbeats 3200000 in
theorem turnF (A : RunAt lev n K hs start r w ρ H s) {t m : Nat} (ht : t < n) (hn : n ≤ 1000) (Bs : Bd n K m s) (hm : m ≤ 800000) (hst : ∀ k, -1000000000 ≤ start.getD k 0 ∧ start.getD k 0 ≤ 1000000000) (hl : (s.tx t).at_ < (s.tx t).steps.length) (hll : (s.tx t).steps.length ≤ 1000000) :
    call Try.prog 27 [.pointer (some r), .int .i64 (t : Int)] (.many []) w (fun _ w' => ∃ ρ', RA lev n K hs start r H.k w' ρ' (turnT lev n K (fun k => start.getD k 0) s t) ∧ Kp w ρ w' ρ') := by
  refine call_of (S27_calls (some r) t w _ ?_)
  unfold S27
  obtain ⟨p0, hp⟩ := A.ps_get ht
  refine nn_mk rfl ?_
  refine rd_box (by kernel_rfl) A.box.box (i := 2) rfl rfl ?_
  refine at_mk tyT (by kernel_rfl) A.txs.own.sl (j := t) (s := .ptr) rfl (ptrs_get hp) rfl ?_
  refine join_mk (fun _ w' => ∃ ρ', RA lev n K hs start r H.k w' ρ' (beginT s t) ∧ Kp w ρ w' ρ') (fun K5 hK => beginW A ht hp (by have := Bs.ev; omega) hK) (fun _ w7 q => ?_)
  obtain ⟨ρ1, ⟨H1, hp1, A1⟩, K1⟩ := q
  have B1 := Bs.begin ht
  have hl1 : ((beginT s t).tx t).at_ < ((beginT s t).tx t).steps.length := by have := begin_same s t t; rw [this.1, this.2.1]; exact hl
  have hll1 : ((beginT s t).tx t).steps.length ≤ 1000000 := by have := begin_same s t t; rw [this.1]; exact hll
  unfold turnT
  generalize beginT s t = s1 at A1 B1 hl1 hll1
  clear A Bs hl hll
  intro _
  have hpH1 : H1.ps[t]? = some p0 := by rw [k_ps hp1]; exact hp
  have hp_st := B1.st t ht _ (step_mem hl1)
  have hgp : ((s1.tx t).steps)[(s1.tx t).at_]? = some (stepOf (s1.tx t)) := by
    unfold stepOf
    rw [List.getD_eq_getElem?_getD, List.getElem?_eq_getElem hl1]; rfl
  obtain ⟨p, hp0⟩ : ∃ p, stepOf (s1.tx t) = p := ⟨_, rfl⟩
  rw [hp0] at hp_st hgp
  refine drw_mk fun w8 h8 _ => ?_
  have A8 := A1.up h8
  refine flEx_mk (fun i _ v w' => i = 10 → ∃ ad, v = .pointer (some ad) ∧ Box w' ad [.int .i64 0, .int .i64 0, .int .i64 0] ∧ w8.heap.size ≤ ad.block) (fun i ags v w1 w2 hF hb e => by obtain ⟨ad, h1, h2, h3⟩ := hF e; exact ⟨ad, h1, h2.up hb, h3⟩) ?_
  refine nn_mk rfl ?_
  refine rd_box0 (by kernel_rfl) (A8.txb t p0 hpH1).box rfl rfl ?_
  refine nn_mk rfl ?_
  refine rd_box (by kernel_rfl) (A8.txb t p0 hpH1).box (i := 1) rfl rfl ?_
  refine at_agg tyS (by kernel_rfl) encS_len (by omega) (A8.stp t ht).sl (j := (s1.tx t).at_) rfl hgp rfl ?_
  refine flc_mk (fun w16 h16 _ => ?_) (fun x20 => flend_mk fun w21 h21 f => ?_)
  · exact wr_alloc (z := .agg #[.int .i64 0, .int .i64 0, .int .i64 0]) (by kernel_rfl) fun ad w19 X h19 hx _ => ⟨h19, fun _ => ⟨ad, rfl, X, by have := h16.size; omega⟩⟩
  obtain ⟨ad, e1, X20, hx20⟩ := f.1 rfl
  injection e1 with e1
  injection e1 with e1
  subst e1
  refine wu_box X20 (by kernel_rfl) (Nat.le_refl 3) rfl fun w23 X23 hg23 _ => ?_
  replace X23 : Box w23 x20 (encS p) := X23
  have b23 : bel w8 w23 := h21.grownAt hg23 hx20
  have A23 := A8.up b23
  have h20 : ρ1 x20.block = 0 := Classical.byContradiction fun h => by have := A8.tag _ h; omega
  have K23 : Kp w ρ w23 ρ1 := K1.trans (Kp.bel (h8.trans b23))
  clear X20 hg23 f hx20 b23 h21 A8 h8 K1 A1
  refine join_mk (fun _ w' => ∃ ρ' s2, Got lev n s1 t p s2 ∧ RA lev n K hs start r H1.k w' ρ' s2 ∧ Kp w23 ρ1 w' ρ' ∧ Box w' x20 (encS p) ∧ ρ' x20.block = 0) (fun K24 hK => lockW (R := fun v w' => ∃ x : (RS.many []).T, v = (RS.many []).val x ∧ ∃ ρ', RA lev n K hs start r H.k w' ρ' (tryT lev n K (fun k => start.getD k 0) s1 t) ∧ Kp w ρ w' ρ') A23 ht hn X23 h20 B1 (by omega) hp_st hK fun w' q => ?_) (fun _ w26 q => ?_)
  · obtain ⟨ρ', l, hl, hno, ⟨H', hp', A'⟩, K'⟩ := q
    refine ⟨(), rfl, ρ', ⟨H', hp'.trans hp1, ?_⟩, K23.trans K'⟩
    unfold tryT
    rw [hp0, hl]
    show RunAt lev n K hs start r w' ρ' H' (if others n s1 t l = [] then _ else _)
    rw [if_neg hno]; exact A'
  obtain ⟨ρ2, s2, hgot, ⟨H2, hp2, A2⟩, K2, X26, h26⟩ := q
  have K26 := K23.trans K2
  have B2 : Bd n K (m + 1) s2 := by
    rcases hgot with ⟨_, rfl⟩ | ⟨l, _, _, rfl⟩
    · exact B1
    · exact B1.take
  have htx : (s2.tx t).at_ = (s1.tx t).at_ ∧ (s2.tx t).steps = (s1.tx t).steps := by
    rcases hgot with ⟨_, rfl⟩ | ⟨l, _, _, rfl⟩
    · exact ⟨rfl, rfl⟩
    · have := take_tx s1 t l t; exact ⟨this.2.2.2, this.1⟩
  have hstep : stepOf (s2.tx t) = p := by unfold stepOf; rw [htx.1, htx.2]; exact hp0
  have hgoal : tryT lev n K (fun k => start.getD k 0) s1 t = actT lev K (fun k => start.getD k 0) (bump s2 t) t p := by
    unfold tryT
    rw [hp0]
    rcases hgot with ⟨hno, rfl⟩ | ⟨l, hl, ho, rfl⟩
    · rw [hno]
      show actT _ _ _ _ _ _ = _
      rw [hp0]
    · rw [hl]
      show (if others n s1 t l = [] then goT lev K (fun k => start.getD k 0) (takeL s1 t l) t else _) = _
      rw [if_pos ho]
      show actT _ _ _ _ _ _ = _
      rw [hstep]
  rw [hgoal]
  clear hgoal hgot K23 K2 A23 X23 h20
  intro _
  have hpH2 : H2.ps[t]? = some p0 := by rw [k_ps hp2]; exact hpH1
  refine nn_mk rfl ?_
  refine rd_box (by kernel_rfl) (A2.txb t p0 hpH2).box (i := 1) rfl rfl ?_
  refine z_i64 (by omega) ?_
  refine nn_mk rfl ?_
  have PB := A2.txb t p0 hpH2
  refine wu_boxi PB.box (by kernel_rfl) (by show 1 < 8; omega) rfl fun w31 X hg31 _ => ?_
  obtain ⟨⟨H3, hp3, A3⟩, K3⟩ := A2.bmp ht hpH2 hg31 X
  obtain ⟨X31, h31⟩ := K3.box X26 h26
  have K31 := K26.trans K3
  have B3 : Bd n K (m + 1) (bump s2 t) := B2.bump ht
  have hps : H3.k = H.k := hp3.trans (hp2.trans hp1)
  generalize bump s2 t = s3 at A3 B3
  clear A2 B2 PB X hg31 K3 K26 X26 h26 htx hstep
  rw [act_eq]
  refine rd_box (by kernel_rfl) X31 (i := 2) rfl rfl ?_
  -- what is read
  refine join_mk (fun (v : Int × Unit) w' => ∃ ρ', v.1 = valP lev (fun k => start.getD k 0) s3 t p ∧ RA lev n K hs start r H.k w' ρ' (readP lev (fun k => start.getD k 0) s3 t p) ∧ Kp w ρ w' ρ' ∧ Box w' x20 (encS p) ∧ ρ' x20.block = 0) (fun K33 hK33 => ?_) (fun v w35 q => ?_)
  · refine join_mk (fun (b : Bool × Unit) w' => (b.1 = true ↔ p.kind = 1 ∨ p.kind = 3) ∧ w' = w31) (fun K84 hK84 => ?_) (fun b w86 q => ?_)
    · refine rd_box0 (by kernel_rfl) X31 rfl rfl ?_
      refine br_eq (fun e => hK84 _ _ ⟨⟨fun _ => .inl (by omega), fun _ => rfl⟩, rfl⟩) (fun e => ?_)
      refine rd_box0 (by kernel_rfl) X31 rfl rfl ?_
      refine hK84 _ _ ⟨⟨fun h => .inr ?_, fun h => ?_⟩, rfl⟩
      · have : ((p.kind : Nat) : Int) = 3 := by simpa using h
        omega
      · rcases h with h | h
        · omega
        · simp [h]
    · obtain ⟨hb, rfl⟩ := q
      intro _
      refine br_mk (fun e => ?_) (fun e => ?_)
      · have hk13 := hb.1 e
        have hkK := hp_st.key (by omega)
        have hrd := B3.read (lev := lev) (start := fun k => start.getD k 0) hst t p.key
        have hpv := hp_st.val
        refine rd_box (by kernel_rfl) X31 (i := 1) rfl rfl ?_
        refine call_mono (readF A3 t p.key ht hkK (by have := (B3.ver p.key).1; omega)) ?_
        rintro (x88 : Int × Int × Unit) w89 ⟨rfl, h89⟩
        refine rd_box (by kernel_rfl) (X31.up h89) (i := 1) rfl rfl ?_
        refine call_mono (noteF (A3.up h89) ⟨1, t, p.key, _, _⟩ (by have := B3.ev; omega)) ?_
        rintro (_ : Unit) w92 ⟨ρ4, ⟨H4, hp4, A4⟩, K4⟩
        have K89 := (Kp.bel (ρ := ρ2) h89).trans K4
        obtain ⟨X92, h92⟩ := K89.box X31 h31
        refine rd_box (by kernel_rfl) X92 (i := 2) rfl rfl ?_
        refine z_i64 (by dsimp only; omega) ?_
        refine call_mono (clampF _ w92) ?_
        rintro (x95 : Int) w96 ⟨rfl, rfl⟩
        refine hK33 _ _ ⟨ρ4, ?_, ⟨H4, hp4.trans hps, ?_⟩, K31.trans K89, X92, h92⟩
        · unfold valP; rw [if_pos hk13]
        · unfold readP; rw [if_pos hk13]; exact A4
      · have hk13 : ¬ (p.kind = 1 ∨ p.kind = 3) := fun h => by rw [hb.2 h] at e; cases e
        refine hK33 _ _ ⟨ρ2, ?_, ⟨H3, hps, ?_⟩, K31, X31, h31⟩
        · unfold valP; rw [if_neg hk13]
        · unfold readP; rw [if_neg hk13]; exact A3
  obtain ⟨v, _⟩ := v
  obtain ⟨ρ4, hv, ⟨H4, hps4, A4⟩, K4, X35, h35⟩ := q
  dsimp only at hv
  subst hv
  have B4 : Bd n K (m + 2) (readP lev (fun k => start.getD k 0) s3 t p) := by
    unfold readP
    split
    · exact B3.note _
    · exact B3.mono (by omega)
  intro _
  refine rd_box0 (by kernel_rfl) X35 rfl rfl ?_
  refine join_mk (fun (b : Bool × Unit) w' => (b.1 = true ↔ p.kind = 2 ∨ p.kind = 3) ∧ w' = w35) (fun K37 hK37 => ?_) (fun b w39 q => ?_)
  · refine br_eq (fun e => hK37 _ _ ⟨⟨fun _ => .inl (by omega), fun _ => rfl⟩, rfl⟩) (fun e => ?_)
    refine hK37 _ _ ⟨⟨fun h => .inr ?_, fun h => ?_⟩, rfl⟩
    · have : ((p.kind : Nat) : Int) = 3 := by simpa using h
      omega
    · rcases h with h | h
      · omega
      · simp [h]
  obtain ⟨hb, rfl⟩ := q
  intro _
  refine br_mk (fun e => ?_) (fun e => ?_)
  · have hk23 := hb.1 e
    have hkK := hp_st.key (by omega)
    rw [if_pos hk23]
    refine drw_mk fun w40 h40 _ => ?_
    have A40 := A4.up h40
    obtain ⟨x, hx⟩ := A40.vh_get hkK
    refine putReg A40 (X35.up h40) h35 hkK (valP lev (fun k => start.getD k 0) s3 t p) t (by have := (B4.ver p.key).1; omega) hx fun y w65 hg65 O65 hn65 => ?_
    have V65 : Own w65 0 87 1 H4.ver.1 H4.ver.2.1 H4.ver.2.2 (H4.vh.map hv) := A40.vers.own.keptBy hg65 (by
      cases hb : blk H4.ver.1 with
      | none => exact .inl rfl
      | some b => exact .inr fun q => absurd (A40.vers.tag b hb) (by rw [(A40.row p.key x hx).tag b q.symm]; omega))
    have hvl := A40.vers.own.1
    rw [List.length_map, A40.vl, Nat.mul_one] at hvl
    refine set_mk tyV V65 (j := p.key) rfl (by omega) rfl fun w68 O68 hg68 _ => ?_
    obtain ⟨A68, K68⟩ := A40.putRow (a' := y.1) (m := y.2.1) (c' := y.2.2) hx O65 hg65 hn65 hg68 O68
    have K68' := (Kp.bel (ρ := ρ4) h40).trans K68
    obtain ⟨X68, h68⟩ := K68'.box X35 h35
    refine rd_box (by kernel_rfl) X68 (i := 1) rfl rfl ?_
    refine call_mono (noteF A68 ⟨2, t, p.key, valP lev (fun k => start.getD k 0) s3 t p, 0⟩ (Nat.le_trans B4.ev (by omega))) ?_
    rintro (_ : Unit) w71 ⟨ρ5, ⟨H5, hp5, A5⟩, K5⟩
    exact ⟨(), rfl, ρ5, ⟨H5, hp5.trans hps4, A5⟩, (K4.trans K68').trans K5⟩
  · have hk23 : ¬ (p.kind = 2 ∨ p.kind = 3) := fun h => by rw [hb.2 h] at e; cases e
    rw [if_neg hk23]
    have hev := B4.ev
    refine br_eq (fun e4 => ?_) (fun e4 => ?_)
    · have hk : p.kind = 4 := by omega
      rw [if_pos hk]
      have hrp : readP lev (fun k => start.getD k 0) s3 t p = s3 := by unfold readP; rw [if_neg (by omega)]
      rw [hrp] at A4 B4
      refine call_mono (abortF A4 t ht (by have := B4.ev; omega) fun k _ => by have := (B4.ver k).1; omega) ?_
      rintro (_ : Unit) w73 ⟨ρ5, ⟨H5, hp5, A5⟩, K5⟩
      exact ⟨(), rfl, ρ5, ⟨H5, hp5.trans hps4, A5⟩, K4.trans K5⟩
    rw [if_neg (by omega)]
    refine br_eq (fun e5 => ?_) (fun e5 => ?_)
    · have hk : p.kind = 5 := by omega
      rw [if_pos hk]
      have hrp : readP lev (fun k => start.getD k 0) s3 t p = s3 := by unfold readP; rw [if_neg (by omega)]
      rw [hrp] at A4 B4
      refine nn_mk rfl ?_
      refine rd_box0 (by kernel_rfl) A4.box.box rfl rfl ?_
      refine br_eq (fun e6 => ?_) (fun e6 => ?_)
      · refine call_mono (conflF A4 t ht) ?_
        rintro (b : Bool) w77 ⟨hb, h77⟩
        have A77 := A4.up h77
        have K77 := K4.trans (Kp.bel (ρ := ρ4) h77)
        refine br_mk (fun e7 => ?_) (fun e7 => ?_)
        · refine call_mono (abortF A77 t ht (by have := B4.ev; omega) fun k _ => by have := (B4.ver k).1; omega) ?_
          rintro (_ : Unit) w79 ⟨ρ5, ⟨H5, hp5, A5⟩, K5⟩
          refine ⟨(), rfl, ρ5, ⟨H5, hp5.trans hps4, ?_⟩, K77.trans K5⟩
          unfold doneT
          rw [if_pos ⟨by omega, by rw [← hb]; exact e7⟩]; exact A5
        · refine call_mono (commitF A77 t ht (by have := B4.ev; omega) fun k _ => by have := (B4.ver k).1; omega) ?_
          rintro (_ : Unit) w79 ⟨ρ5, ⟨H5, hp5, A5⟩, K5⟩
          refine ⟨(), rfl, ρ5, ⟨H5, hp5.trans hps4, ?_⟩, K77.trans K5⟩
          unfold doneT
          rw [if_neg (fun q => by rw [← hb, e7] at q; cases q.2)]; exact A5
      · refine call_mono (commitF A4 t ht (by have := B4.ev; omega) fun k _ => by have := (B4.ver k).1; omega) ?_
        rintro (_ : Unit) w79 ⟨ρ5, ⟨H5, hp5, A5⟩, K5⟩
        refine ⟨(), rfl, ρ5, ⟨H5, hp5.trans hps4, ?_⟩, K4.trans K5⟩
        unfold doneT
        rw [if_neg (fun q => e6 (by omega))]; exact A5
    · rw [if_neg (by omega)]
      refine ⟨(), rfl, ρ4, ⟨H4, hps4, ?_⟩, K4⟩
      unfold readP at A4
      by_cases h1 : p.kind = 1
      · rw [if_pos h1]; rw [if_pos (.inl h1)] at A4; exact A4
      · rw [if_neg h1]; rw [if_neg (by omega)] at A4; exact A4
end
end Go.Proofs.Ytcglflifaniolaa

/- Programs of transactions: are they valid; the copies; whole. -/

namespace Go.Proofs.Ytcglflifaniolaa
open Go.RowKit Go.Q Go.V Go.Proofs.Sc

theorem tyP : TyS Try.prog 26 54 (.slice none 0 0) 1 24 := ⟨by kernel_rfl, by kernel_rfl⟩
theorem encS_all (L : List Sp) : plainV (L.flatMap encS) = true := by
  unfold plainV
  rw [List.all_eq_true]
  intro x hx
  obtain ⟨y, _, hy⟩ := List.mem_flatMap.1 hx
  simp only [encS, List.mem_cons, List.not_mem_nil, or_false] at hy
  rcases hy with rfl | rfl | rfl <;> rfl
theorem ints_all (xs : List Int) : plainV (ints .i64 xs) = true := by
  induction xs with
  | nil => rfl
  | cons y ys ih => exact ih
structure ProgsAt (w : World) (h : Hdr) (P : List (List Sp)) (phs : List Hdr) : Prop where
  sl : Sl w h.1 h.2.1 h.2.2 1 (phs.map hv)
  len : phs.length = P.length
  row : ∀ (i : Nat) x p, phs[i]? = some x → P[i]? = some p → Sl w x.1 x.2.1 x.2.2 3 (p.flatMap encS)
theorem ProgsAt.up {w w' : World} {h : Hdr} {P : List (List Sp)} {phs : List Hdr} (H : ProgsAt w h P phs) (hb : bel w w') : ProgsAt w' h P phs := ⟨H.sl.up hb, H.len, fun i x p h1 h2 => (H.row i x p h1 h2).up hb⟩
theorem ProgsAt.hn {w : World} {h : Hdr} {P : List (List Sp)} {phs : List Hdr} (H : ProgsAt w h P phs) : P.length = h.2.1 := by
  have := H.sl.len
  rw [List.length_map, H.len] at this; omega
theorem ProgsAt.get {w : World} {h : Hdr} {P : List (List Sp)} {phs : List Hdr} (H : ProgsAt w h P phs) {i : Nat} (hi : i < P.length) : ∃ x p, phs[i]? = some x ∧ P[i]? = some p := ⟨_, _, List.getElem?_eq_getElem (by rw [H.len]; exact hi), List.getElem?_eq_getElem hi⟩
structure RightS (K : Nat) (x : Sp) (last : Prop) : Prop where
  lo : 1 ≤ x.kind
  hi : x.kind ≤ 5
  r : x.kind = 1 → x.key < K ∧ x.val = 0
  w : x.kind = 2 ∨ x.kind = 3 → x.key < K ∧ -1000000000 ≤ x.val ∧ x.val ≤ 1000000000
  e : x.kind = 4 ∨ x.kind = 5 → last ∧ x.key = 0 ∧ x.val = 0
structure VP (K : Nat) (p : List Sp) : Prop where
  len : p.length ≤ 8
  st : ∀ (i : Nat) x, p[i]? = some x → RightS K x (i + 1 = p.length)
structure VS' (start : List Int) (P : List (List Sp)) : Prop where
  pl : P.length ≤ 5
  sl : start.length ≤ 6
  sm : ∀ x ∈ start, -1000000000 ≤ x ∧ x ≤ 1000000000
  st : ∀ p ∈ P, VP start.length p
theorem VP.sb {K : Nat} {p : List Sp} (V : VP K p) : ∀ x ∈ p, SB K x := fun x hx => by
  obtain ⟨i, hi⟩ := List.getElem?_of_mem hx
  have R := V.st i x hi
  have hlo := R.lo
  refine ⟨R.hi, fun h => ?_, ?_⟩
  · by_cases h1 : x.kind = 1
    · exact (R.r h1).1
    · exact (R.w (by omega)).1
  · by_cases h1 : x.kind = 1
    · have := (R.r h1).2; omega
    · by_cases h2 : x.kind = 2 ∨ x.kind = 3
      · exact (R.w h2).2
      · have := (R.e (by have := R.hi; omega)).2.2; omega
theorem snoc_of {α : Type} {l : List α} (h : l ≠ []) : ∃ b x, l = b ++ [x] := ⟨l.dropLast, l.getLast h, (List.dropLast_concat_getLast h).symm⟩
theorem VP.made {K : Nat} {p : List Sp} (V : VP K p) : PMade K p := by
  by_cases h0 : p = []
  · subst h0; exact .inl fun x hx => by cases hx
  obtain ⟨b, x, rfl⟩ := snoc_of h0
  have hb : ∀ y ∈ b, 1 ≤ y.kind ∧ y.kind ≤ 3 ∧ y.key < K := fun y hy => by
    obtain ⟨i, hi⟩ := List.getElem?_of_mem hy
    have hil := (List.getElem?_eq_some_iff.1 hi).1
    have R := V.st i y (by rw [List.getElem?_append_left hil]; exact hi)
    have h3 : ¬ (y.kind = 4 ∨ y.kind = 5) := fun q => by
      have := (R.e q).1
      rw [List.length_append, List.length_singleton] at this; omega
    refine ⟨R.lo, by have := R.hi; omega, (V.sb y (by simp [hy])).key (by have := R.hi; omega)⟩
  have Rx := V.st b.length x (by rw [List.getElem?_append_right (Nat.le_refl _), Nat.sub_self]; rfl)
  by_cases h4 : x.kind = 4 ∨ x.kind = 5
  · exact .inr ⟨b, x, rfl, hb, h4⟩
  · refine .inl fun y hy => ?_
    rcases List.mem_append.1 hy with hy | hy
    · exact hb y hy
    · simp at hy; subst hy
      exact ⟨Rx.lo, by have := Rx.hi; omega, (V.sb y (by simp)).key (by have := Rx.hi; omega)⟩
theorem VP.whole {K : Nat} {p : List Sp} (V : VP K p) : (∀ x ∈ wholeP p, SB K x) ∧ (wholeP p).length ≤ 9 := by
  have c5 : SB K ⟨5, 0, 0⟩ := ⟨Nat.le_refl _, fun h => absurd h (by decide), by decide⟩
  have hl := V.len
  have h1 : (∀ x ∈ p ++ [(⟨5, 0, 0⟩ : Sp)], SB K x) ∧ (p ++ [(⟨5, 0, 0⟩ : Sp)]).length ≤ 9 := by
    refine ⟨fun x hx => ?_, by rw [List.length_append, List.length_singleton]; omega⟩
    rcases List.mem_append.1 hx with hx | hx
    · exact V.sb x hx
    · simp at hx; subst hx; exact c5
  unfold wholeP
  cases hg : p.getLast? with
  | none =>
    refine ⟨fun x hx => ?_, Nat.le_of_ble_eq_true rfl⟩
    have : x = ⟨5, 0, 0⟩ := by simpa using hx
    subst this; exact c5
  | some y =>
    dsimp only
    split
    · exact ⟨V.sb, by omega⟩
    · exact h1

/-! ### the copies -/
theorem cloneIF (s : Hdr) (xs : List Int) (w : World) (S : Sl w s.1 s.2.1 s.2.2 1 (ints .i64 xs)) (hn : s.2.1 ≤ 1000000) :
    call Try.prog 29 [.slice s.1 s.2.1 s.2.2] (.one (.one .slice)) w (fun (x : Hdr) w' => Own w' w.heap.size 3 1 x.1 x.2.1 x.2.2 (ints .i64 xs) ∧ bel w w') := by
  refine call_of (S29_calls s.1 s.2.1 s.2.2 w _ ?_)
  unfold S29
  have hl := S.int
  refine rd_nil tyI ?_
  obtain ⟨a, n, c⟩ := s
  dsimp only at hl hn S ⊢
  cases a with
  | none =>
    refine br_t rfl ?_
    have hn0 := (S.nil' rfl).1
    have : xs = [] := List.eq_nil_of_length_eq_zero (by omega)
    subst this
    exact ⟨((none, 0, 0) : Hdr), rfl, Own.nil _ _ _ _, bel.refl _⟩
  | some ad =>
    refine br_f rfl ?_
    refine wr_lit0 tyI fun b w3 O h3 _ _ => ?_
    refine wr_app tyI (O w.heap.size (Nat.le_refl _)) (S.up h3) h3.size rfl (by omega) (ints_all xs) (by omega) (by unfold maxLen; omega) fun a' c' w5 O5 hg _ _ => ?_
    refine ⟨((a', 0 + n, c') : Hdr), rfl, by simpa using O5, h3.grown hg fun k hk => ?_⟩
    have := (Own.lt (O w.heap.size (Nat.le_refl _)) k hk).1
    omega
theorem cloneSF (s : Hdr) (xs : List Sp) (w : World) (S : Sl w s.1 s.2.1 s.2.2 3 (xs.flatMap encS)) (hn : s.2.1 ≤ 1000000) :
    call Try.prog 39 [.slice s.1 s.2.1 s.2.2] (.one (.one .slice)) w (fun (x : Hdr) w' => Own w' w.heap.size 57 3 x.1 x.2.1 x.2.2 (xs.flatMap encS) ∧ bel w w' ∧ x.2.1 = xs.length) := by
  refine call_of (S39_calls s.1 s.2.1 s.2.2 w _ ?_)
  unfold S39
  have hl := S.len
  rw [flat_len encS_len] at hl
  refine rd_nil tyS ?_
  obtain ⟨a, n, c⟩ := s
  dsimp only at hl hn S ⊢
  cases a with
  | none =>
    refine br_t rfl ?_
    have hn0 := (S.nil' rfl).1
    have : xs = [] := List.eq_nil_of_length_eq_zero (by omega)
    subst this
    exact ⟨((none, 0, 0) : Hdr), rfl, Own.nil _ _ _ _, bel.refl _, rfl⟩
  | some ad =>
    refine br_f rfl ?_
    refine wr_lit0 tyS fun b w3 O h3 _ _ => ?_
    refine wr_app tyS (O w.heap.size (Nat.le_refl _)) (S.up h3) h3.size rfl (by omega) (encS_all xs) (by omega) (by unfold maxLen; omega) fun a' c' w5 O5 hg _ _ => ?_
    refine ⟨((a', 0 + n, c') : Hdr), rfl, by simpa using O5, h3.grown hg (fun k hk => ?_), by dsimp only; omega⟩
    have := (Own.lt (O w.heap.size (Nat.le_refl _)) k hk).1
    omega
theorem wholeF (s : Hdr) (p : List Sp) (w : World) (S : Sl w s.1 s.2.1 s.2.2 3 (p.flatMap encS)) (hn : p.length ≤ 100000) :
    call Try.prog 26 [.slice s.1 s.2.1 s.2.2] (.one (.one .slice)) w (fun (x : Hdr) w' => bel w w' ∧ ((x = s ∧ wholeP p = p ∧ p ≠ []) ∨ Own w' w.heap.size 57 3 x.1 x.2.1 x.2.2 ((wholeP p).flatMap encS))) := by
  refine call_of (S26_calls s.1 s.2.1 s.2.2 w _ ?_)
  unfold S26
  have hl := S.len
  rw [flat_len encS_len] at hl
  refine join_mk (fun _ w' => w' = w ∧ wholeP p = p ++ [⟨5, 0, 0⟩]) (fun K1 hK => ?_) (fun _ w3 q => ?_)
  · refine br_dec (fun e => ?_) (fun e => ?_)
    · have h0 : p ≠ [] := fun q => by subst q; simp at hl; omega
      obtain ⟨b, x, rfl⟩ := snoc_of h0
      have hbl : b.length + 1 = s.2.1 := by rw [List.length_append, List.length_singleton] at hl; omega
      have hx : (b ++ [x])[b.length]? = some x := by rw [List.getElem?_append_right (Nat.le_refl _), Nat.sub_self]; rfl
      have hlast : (b ++ [x]).getLast? = some x := by simp
      refine z_i64 (by omega) ?_
      refine idx_agg tyS encS_len (by omega) S (j := b.length) (by omega) hx fun ad had => ?_
      refine rd_cell (by kernel_rfl) (by have := had 0 _ rfl; rw [add_zero] at this; exact this) rfl ?_
      have same : x.kind = 4 ∨ x.kind = 5 → wholeP (b ++ [x]) = b ++ [x] := fun h => by
        unfold wholeP
        rw [hlast]
        dsimp only
        rw [if_pos h]
      refine br_eq (fun e4 => ?_) (fun e4 => ?_)
      · exact ⟨s, rfl, bel.refl _, .inl ⟨rfl, same (.inl (by omega)), h0⟩⟩
      refine z_i64 (by omega) ?_
      refine idx_agg tyS encS_len (by omega) S (j := b.length) (by omega) hx fun ad had => ?_
      refine rd_cell (by kernel_rfl) (by have := had 0 _ rfl; rw [add_zero] at this; exact this) rfl ?_
      refine br_eq (fun e5 => ?_) (fun e5 => ?_)
      · exact ⟨s, rfl, bel.refl _, .inl ⟨rfl, same (.inr (by omega)), h0⟩⟩
      refine hK _ _ ⟨rfl, ?_⟩
      unfold wholeP
      rw [hlast]
      dsimp only
      rw [if_neg (by omega)]
    · have h0 : p = [] := List.eq_nil_of_length_eq_zero (by omega)
      subst h0
      exact hK _ _ ⟨rfl, rfl⟩
  · obtain ⟨rfl, hw⟩ := q
    intro _
    refine call_mono (cloneSF s p w3 S (by omega)) ?_
    rintro (x4 : Hdr) w5 ⟨O5, h5, hx5⟩
    refine wr_app1 tyS O5 h5.size rfl (by omega) (by omega) rfl rfl (by omega) (by unfold maxLen; omega) fun a' c' w9 O hg _ _ => ?_
    refine ⟨(a', x4.2.1 + 1, c'), rfl, h5.own O5 hg (Nat.le_refl _), .inr ?_⟩
    rw [hw, List.flatMap_append]; exact O

/-! ### Valid -/
theorem smallF (x : Int) (w : World) : call Try.prog 37 [.int .i64 x] (.one (.one .bool)) w (fun (b : Bool) w' => (b = true ↔ -1000000000 ≤ x ∧ x ≤ 1000000000) ∧ w' = w) := by
  refine call_of (S37_calls x w _ ?_)
  unfold S37
  refine br_dec (fun e => ?_) (fun e => ?_)
  · exact ⟨_, rfl, ⟨fun h => ⟨by omega, of_decide_eq_true h⟩, fun h => decide_eq_true h.2⟩, rfl⟩
  · exact ⟨false, rfl, ⟨fun h => (by cases h), fun h => absurd h.1 (by omega)⟩, rfl⟩
theorem rightF {K : Nat} {x : Sp} {last : Bool} (w : World) (R : RightS K x (last = true)) :
    call Try.prog 38 [.agg #[.int .i64 ((x.kind : Nat) : Int), .int .i64 ((x.key : Nat) : Int), .int .i64 x.val], .int .i64 ((K : Nat) : Int), .bool last] (.one (.one .bool)) w (fun (b : Bool) w' => b = true ∧ bel w w') := by
  refine call_of (S38_calls x.kind x.key x.val K last w _ ?_)
  unfold S38
  refine wr_box fun x1 w2 X h2 _ _ => ?_
  replace X : Box w2 x1 (encS x) := X
  have hlo := R.lo
  have hhi := R.hi
  refine rd_box0 (by kernel_rfl) X rfl rfl ?_
  refine br_eq (fun e1 => ?_) (fun e1 => ?_)
  · obtain ⟨h1, h3⟩ := R.r (by omega)
    refine rd_box (by kernel_rfl) X (i := 1) rfl rfl ?_
    refine br_dec (fun _ => ?_) (fun e => absurd (Int.natCast_nonneg _) e)
    refine rd_box (by kernel_rfl) X (i := 1) rfl rfl ?_
    refine br_dec (fun _ => ?_) (fun e => absurd e (by omega))
    refine rd_box (by kernel_rfl) X (i := 2) rfl rfl ?_
    exact ⟨_, rfl, by rw [h3]; rfl, h2⟩
  refine join_mk (fun (b : Bool × Unit) w' => (b.1 = true ↔ x.kind = 2 ∨ x.kind = 3) ∧ w' = w2) (fun K7 hK => ?_) (fun b w9 q => ?_)
  · refine br_eq (fun e => hK _ _ ⟨⟨fun _ => .inl (by omega), fun _ => rfl⟩, rfl⟩) (fun e => hK _ _ ⟨⟨fun h => .inr ?_, fun h => ?_⟩, rfl⟩)
    · have : ((x.kind : Nat) : Int) = 3 := by simpa using h
      omega
    · rcases h with h | h
      · omega
      · simp [h]
  obtain ⟨hb, rfl⟩ := q
  intro _
  refine br_mk (fun e => ?_) (fun e => ?_)
  · obtain ⟨h1, h3⟩ := R.w (hb.1 e)
    refine rd_box (by kernel_rfl) X (i := 1) rfl rfl ?_
    refine br_dec (fun _ => ?_) (fun e => absurd (Int.natCast_nonneg _) e)
    refine rd_box (by kernel_rfl) X (i := 1) rfl rfl ?_
    refine br_dec (fun _ => ?_) (fun e => absurd e (by omega))
    refine rd_box (by kernel_rfl) X (i := 2) rfl rfl ?_
    refine call_mono (smallF x.val w9) ?_
    rintro (b2 : Bool) w14 ⟨hb2, rfl⟩
    exact ⟨b2, rfl, hb2.2 h3, h2⟩
  have hk : x.kind = 4 ∨ x.kind = 5 := by
    have : ¬ (x.kind = 2 ∨ x.kind = 3) := fun h => by rw [hb.2 h] at e; cases e
    omega
  obtain ⟨h1, h3, h4⟩ := R.e hk
  refine join_mk (fun (b : Bool × Unit) w' => b.1 = true ∧ w' = w9) (fun K15 hK => ?_) (fun b w17 q => ?_)
  · refine br_eq (fun e => hK _ _ ⟨rfl, rfl⟩) (fun e => hK _ _ ⟨?_, rfl⟩)
    have h5 : x.kind = 5 := by omega
    simp [h5]
  obtain ⟨hb2, rfl⟩ := q
  intro _
  refine br_t hb2 ?_
  refine br_t h1 ?_
  refine rd_box (by kernel_rfl) X (i := 1) rfl rfl ?_
  refine br_eq (fun _ => ?_) (fun e => absurd (by omega) e)
  refine rd_box (by kernel_rfl) X (i := 2) rfl rfl ?_
  exact ⟨_, rfl, by rw [h4]; rfl, h2⟩
theorem outF (x : Int) (w : World) : call Try.prog 36 [.int .i64 x] (.one (.one .bool)) w (fun (b : Bool) w' => b = (decide (x < -1000000000) || decide (1000000000 < x)) ∧ bel w w') := by
  refine call_of (S36_calls x w _ ?_)
  unfold S36
  refine call_mono (smallF x w) ?_
  rintro (b : Bool) w' ⟨hb, rfl⟩
  refine ⟨_, rfl, ?_, bel.refl _⟩
  rw [Bool.eq_iff_iff, Bool.not_eq_true', Bool.or_eq_true, decide_eq_true_iff, decide_eq_true_iff]
  cases b with
  | true => have := hb.1 rfl; simp; omega
  | false =>
    refine ⟨fun _ => ?_, fun _ => rfl⟩
    have : ¬ (-1000000000 ≤ x ∧ x ≤ 1000000000) := fun h => by have := hb.2 h; cases this
    omega
theorem validF (sh ph : Hdr) (start : List Int) (P : List (List Sp)) (phs : List Hdr) (w : World) (S : Sl w sh.1 sh.2.1 sh.2.2 1 (ints .i64 start)) (PA : ProgsAt w ph P phs) (V : VS' start P) :
    call Try.prog 25 [.slice sh.1 sh.2.1 sh.2.2, .slice ph.1 ph.2.1 ph.2.2] (.one (.one .bool)) w (fun (b : Bool) w' => b = true ∧ bel w w') := by
  refine call_of (S25_calls sh.1 sh.2.1 sh.2.2 ph.1 ph.2.1 ph.2.2 w _ ?_)
  unfold S25
  have hn := PA.hn
  have hsl := S.int
  have hpl := V.pl
  have hs6 := V.sl
  refine br_dec (fun e => absurd e (by omega)) (fun _ => ?_)
  refine br_dec (fun e => absurd e (by omega)) (fun _ => ?_)
  refine call_mono (r := .one (.one .bool)) (Q := fun (b : Bool) w' => b = false ∧ bel w w') (call_of (S35_calls sh.1 sh.2.1 sh.2.2 w _ ?_)) ?_
  · unfold S35
    refine call_mono (r := .one (.one (.int .i64))) (Q := fun (k : Int) w' => k = idxI (fun x : Int => decide (x < -1000000000) || decide (1000000000 < x)) start ∧ bel w w') (call_of (S49_calls sh.1 sh.2.1 sh.2.2 w _ ?_)) fun k w2 ⟨en, b2⟩ => ⟨_, rfl, ?_, b2⟩
    · unfold S49
      exact idx_ints tyI (by kernel_rfl) (fargs := fun x => [.int .i64 x]) S (fun x : Int => decide (x < -1000000000) || decide (1000000000 < x)) fun j x _ w' _ => outF x w'
    · subst en
      rw [idxI_any, List.any_eq_false]
      intro x hx
      have := V.sm x hx
      simp; omega
  rintro (b : Bool) w2 ⟨rfl, h2⟩
  refine br_f rfl ?_
  refine loop_up P.length (fun i w' => bel w w') h2 ?_
  rintro i w5 hi hb again hag _
  refine br_dec (fun e => ?_) (fun e => ⟨true, rfl, rfl, hb⟩)
  dsimp only at e
  obtain ⟨x, p, hx, hp⟩ := PA.get (i := i) (by omega)
  have Vp := V.st p (List.mem_of_getElem? hp)
  refine at_hdr tyP (by kernel_rfl) (PA.up hb).sl (j := i) rfl (by omega) fun y hy => ?_
  obtain rfl : x = y := by rw [hx] at hy; injection hy
  have Rx := PA.row i x p hx hp
  have rl := Rx.len
  rw [flat_len encS_len] at rl
  have h8 := Vp.len
  refine br_dec (fun e => absurd e (by omega)) (fun _ => ?_)
  refine loop_up p.length (fun j w' => bel w w') hb ?_
  rintro j w10 hj hb2 again2 hag2 _
  refine br_dec (fun e2 => ?_) (fun e2 => ?_)
  · dsimp only at e2
    obtain ⟨y, hy⟩ : ∃ y, p[j]? = some y := ⟨_, List.getElem?_eq_getElem (by omega)⟩
    refine at_agg tyS (by kernel_rfl) encS_len (by omega) (Rx.up hb2) (j := j) rfl hy rfl ?_
    refine wr_alloc (z := .agg #[.int .i64 0, .int .i64 0, .int .i64 0]) (by kernel_rfl) fun x13 w14 X13 h14 hx13 _ => ?_
    refine wu_box X13 (by kernel_rfl) (Nat.le_refl 3) rfl fun w15 X15 hg15 _ => ?_
    have b15 : bel w10 w15 := h14.grownAt hg15 (by omega)
    refine rd_boxN (show Box w15 x13 (encS y) from X15) (by kernel_rfl) rfl ?_
    refine z_i64 (by omega) ?_
    have Ry := Vp.st j y hy
    rw [show ((sh.2.1 : Nat) : Int) = ((start.length : Nat) : Int) by omega]
    refine call_mono (rightF (last := ((j : Int) == (((x.2.1 : Nat) : Int) - 1))) w15 ⟨Ry.lo, Ry.hi, Ry.r, Ry.w, fun q => ⟨by have := (Ry.e q).1; simp; omega, (Ry.e q).2⟩⟩) ?_
    rintro (b : Bool) w19 ⟨rfl, h19⟩
    refine br_f rfl ?_
    refine z_i64 (by dsimp only; omega) ?_
    exact hag2 w19 (by omega) ((hb2.trans b15).trans h19)
  · refine z_i64 (by dsimp only; omega) ?_
    exact hag w10 (by omega) hb2
end Go.Proofs.Ytcglflifaniolaa

/- Runs of transactions: the run is made. -/

namespace Go.Proofs.Ytcglflifaniolaa
open Go.RowKit Go.Q Go.V Go.Proofs.Sc
section
variable {lev n K : Nat} {hs : Hdr} {start : List Int} {r : Addr} {w w' : World} {ρ ρ' : Rho} {H : RHd} {s : St}
theorem RunAt.retag (A : RunAt lev n K hs start r w ρ H s) (hb : bel w w') (hρ : ∀ k, k < w.heap.size → ρ' k = ρ k) (ht : ∀ b, ρ' b ≠ 0 → b < w'.heap.size) : RunAt lev n K hs start r w' ρ' H s := by
  have g := grown_of_bel hb none
  have o : ∀ {c : Nat}, ∀ b, (none : Option Nat) = some b → ρ b ≠ c := fun b h => by cases h
  exact ⟨ht, A.box.keep g o hρ, A.st.keep g o hρ, A.sl, A.txs.keep g o hρ, A.pl, fun i p h => (A.txb i p h).keep g o hρ, fun i h => (A.stp i h).keep g o hρ, fun i h => (A.wp i h).keep g o hρ, fun i h => (A.sh i h).keep g o hρ, fun i h => (A.ex i h).keep g o hρ, A.vers.keep g o hρ, A.vl, fun k x h => (A.row k x h).keep g o hρ, A.ev.keep g o hρ⟩
theorem RunAt.addTx (A : RunAt lev n K hs start r w ρ H s) {w1 w2 : World} {p : Addr} {h : TH} {a' : Option Addr} {m c' : Nat} (O : Own w1 0 64 1 a' m c' (ptrs (H.ps ++ [p]))) (hg1 : w.grownBy w1 (blk H.tx.1)) (hn : blk a' = blk H.tx.1 ∨ ∀ b, blk a' = some b → w.heap.size ≤ b)
    (hg2 : w1.grownBy w2 (some r.block)) (X : Box w2 r (rnc lev hs { H with tx := (a', m, c') })) (hp : PartB w ρ (5 + 4 * n) p (txc (s.tx n) h)) (hst : Fix w ρ 3 h.st ((s.tx n).steps.flatMap encS)) (hwp : WP w ρ (s.tx n).wants h.wp)
    (hsh : PartO w ρ (6 + 4 * n) 4 1 h.sh (fbools K (s.tx n).sh)) (hex : PartO w ρ (7 + 4 * n) 4 1 h.ex (fbools K (s.tx n).ex)) :
    RunAt lev (n + 1) K hs start r w2 (rtag ρ a' 2) { H with tx := (a', m, c'), ps := H.ps ++ [p], th := Sc.upd H.th n h } s ∧ Kp w ρ w2 (rtag ρ a' 2) := by
  have hρ := A.txs.tag
  have old := rtag_old (w := w) (h := H.tx) (a' := a') hρ hn
  have o1 : ∀ {c : Nat}, c ≠ 2 → ∀ b, blk H.tx.1 = some b → ρ b ≠ c := fun hc b h e => hc (e.symm.trans (hρ b h))
  have hr := A.box.tag
  have hrl := A.box.box.lt
  have o2 : ∀ {c : Nat}, c ≠ 1 → ∀ b, some r.block = some b → rtag ρ a' 2 b ≠ c := fun hc b h e => by
    injection h with h; subst h
    rw [old _ hrl, hr] at e
    exact hc e.symm
  have i : ∀ k, k < w1.heap.size → rtag ρ a' 2 k = rtag ρ a' 2 k := fun _ _ => rfl
  have th : ∀ j, j < n → Sc.upd H.th n h j = H.th j := fun j hj => upd_ne _ _ (by omega)
  refine ⟨⟨fun b h => ?_, ⟨X, by rw [old _ hrl]; exact hr⟩, (A.st.keep hg1 (o1 (by omega)) old).keep hg2 (o2 (by omega)) i, A.sl, PartO.keep (h := (a', m, c')) ⟨O, rtag_self ρ a' 2⟩ hg2 (o2 (by omega)) i, by show (H.ps ++ [p]).length = n + 1; rw [List.length_append, List.length_singleton, A.pl], fun j q hq => ?_, fun j hj => ?_, fun j hj => ?_, fun j hj => ?_, fun j hj => ?_,
    (A.vers.keep hg1 (o1 (by omega)) old).keep hg2 (o2 (by omega)) i, A.vl, fun k x hk => ((A.row k x hk).keep hg1 (o1 (by omega)) old).keep hg2 (o2 (by omega)) i, (A.ev.keep hg1 (o1 (by omega)) old).keep hg2 (o2 (by omega)) i⟩, (Kp.put hg1 (o1 (by omega)) old).trans (Kp.put hg2 (o2 (by omega)) i)⟩
  · have h1 := hg1.size
    have h2 := hg2.size
    by_cases hb : blk a' = some b
    · have := own_some' O b hb; omega
    · unfold rtag at h
      rw [if_neg hb] at h
      have := A.tag b h; omega
  · change (H.ps ++ [p])[j]? = some q at hq
    show PartB w2 _ (5 + 4 * j) q (txc (s.tx j) (Sc.upd H.th n h j))
    rcases Nat.lt_trichotomy j n with h1 | h1 | h1
    · rw [List.getElem?_append_left (by rw [A.pl]; exact h1)] at hq
      rw [th j h1]
      exact ((A.txb j q hq).keep hg1 (o1 (by omega)) old).keep hg2 (o2 (by omega)) i
    · subst h1
      rw [List.getElem?_append_right (by rw [A.pl]; exact Nat.le_refl _), A.pl, Nat.sub_self] at hq
      cases hq
      rw [upd_same]
      exact (hp.keep hg1 (o1 (by omega)) old).keep hg2 (o2 (by omega)) i
    · rw [List.getElem?_eq_none (by rw [List.length_append, List.length_singleton, A.pl]; omega)] at hq; cases hq
  · show Fix w2 _ 3 (Sc.upd H.th n h j).st _
    by_cases h1 : j < n
    · rw [th j h1]; exact ((A.stp j h1).keep hg1 (o1 (by omega)) old).keep hg2 (o2 (by omega)) i
    · obtain rfl : j = n := by omega
      rw [upd_same]; exact (hst.keep hg1 (o1 (by omega)) old).keep hg2 (o2 (by omega)) i
  · show WP w2 _ (s.tx j).wants (Sc.upd H.th n h j).wp
    by_cases h1 : j < n
    · rw [th j h1]; exact ((A.wp j h1).keep hg1 (o1 (by omega)) old).keep hg2 (o2 (by omega)) i
    · obtain rfl : j = n := by omega
      rw [upd_same]; exact (hwp.keep hg1 (o1 (by omega)) old).keep hg2 (o2 (by omega)) i
  · show PartO w2 _ (6 + 4 * j) _ 1 (Sc.upd H.th n h j).sh _
    by_cases h1 : j < n
    · rw [th j h1]; exact ((A.sh j h1).keep hg1 (o1 (by omega)) old).keep hg2 (o2 (by omega)) i
    · obtain rfl : j = n := by omega
      rw [upd_same]; exact (hsh.keep hg1 (o1 (by omega)) old).keep hg2 (o2 (by omega)) i
  · show PartO w2 _ (7 + 4 * j) _ 1 (Sc.upd H.th n h j).ex _
    by_cases h1 : j < n
    · rw [th j h1]; exact ((A.ex j h1).keep hg1 (o1 (by omega)) old).keep hg2 (o2 (by omega)) i
    · obtain rfl : j = n := by omega
      rw [upd_same]; exact (hex.keep hg1 (o1 (by omega)) old).keep hg2 (o2 (by omega)) i
end
abbrev zr : Rho := fun _ => 0
theorem made_hdrs (n : Nat) : (madeCells (Value.slice none 0 0).cells (n * 1)).toList = (List.replicate n ((none, 0, 0) : Hdr)).map hv := by
  rw [Nat.mul_one]
  unfold madeCells
  refine List.ext_getElem? fun i => ?_
  by_cases h : i < n
  · simp [h, Value.cells, Nat.mod_one, hv]
  · simp [h]
theorem made_bools (n : Nat) : (madeCells (Value.bool false).cells (n * 1)).toList = fbools n fun _ => false := by
  rw [Nat.mul_one]
  unfold madeCells fbools Go.Q.bools
  refine List.ext_getElem? fun i => ?_
  by_cases h : i < n
  · simp [h, Value.cells, Nat.mod_one]
  · simp [h]
theorem run0 {lev K : Nat} {hs : Hdr} {start : List Int} {w4 w14 w16 : World} {x13 x15 : Addr} (hK : start.length = K) (S : Sl w4 hs.1 hs.2.1 hs.2.2 1 (ints .i64 start)) (V : Own w14 w4.heap.size 87 1 (some x13) K K ((List.replicate K ((none, 0, 0) : Hdr)).map hv)) (h14 : bel w4 w14) (h13 : x13.block = w4.heap.size) (h16 : bel w14 w16) (h15 : x15.block = w14.heap.size)
    (X : Box w16 x15 [.int .i64 ((lev : Nat) : Int), hv hs, .slice none 0 0, .slice (some x13) K K, .slice none 0 0]) (s : St) (hv0 : ∀ k, s.ver k = []) (he0 : s.ev = []) :
    ∃ ρ H, RunAt lev 0 K hs start x15 w16 ρ H s ∧ Kp w4 zr w16 ρ := by
  have s14 := h14.size
  have s16 := h16.size
  have l13 : x13.block < w14.heap.size := (V.lt x13.block rfl).2
  refine ⟨fun b => if b = x15.block then 1 else if b = x13.block then 3 else 0, ⟨(none, 0, 0), (some x13, K, K), (none, 0, 0), [], fun _ => ⟨(none, 0, 0), (none, 0, 0), (none, 0, 0), none⟩, List.replicate K (none, 0, 0)⟩, ⟨fun b h => ?_, ⟨X, if_pos rfl⟩, ⟨(S.up h14).up h16, fun ad ha hx => ?_⟩, hK, ⟨Own.nil _ _ _ _, fun b h => by cases h⟩, rfl, fun i p h => by simp at h, fun i h => absurd h (Nat.not_lt_zero _), fun i h => absurd h (Nat.not_lt_zero _), fun i h => absurd h (Nat.not_lt_zero _), fun i h => absurd h (Nat.not_lt_zero _), ⟨own_le (Own.kept V h16) (Nat.zero_le _), fun b h => ?_⟩, List.length_replicate .., fun k x h => ?_, ⟨by rw [he0]; exact Own.nil _ _ _ _, fun b h => by cases h⟩⟩, ?_⟩
  · have := X.lt
    by_cases h1 : b = x15.block
    · omega
    · by_cases h2 : b = x13.block
      · omega
      · simp [h1, h2] at h
  · have := S.lt ad ha hx
    show (if ad.block = x15.block then 1 else if ad.block = x13.block then 3 else 0) = 0
    rw [if_neg (by omega), if_neg (by omega)]
  · have e : x13.block = b := by injection h
    show (if b = x15.block then 1 else if b = x13.block then 3 else 0) = 3
    rw [if_neg (by omega), if_pos e.symm]
  · have : x = (none, 0, 0) := (List.mem_replicate.1 (List.mem_of_getElem? h)).2
    subst this
    exact ⟨by rw [hv0]; exact Own.nil _ _ _ _, fun b h => by cases h⟩
  · have hb := h14.trans h16
    exact ⟨hb.os, hb.tape, hb.output, hb.size, fun k hk _ => ⟨hb.block k hk, by show (if k = x15.block then 1 else if k = x13.block then 3 else 0) = 0; rw [if_neg (by omega), if_neg (by omega)]⟩⟩
end Go.Proofs.Ytcglflifaniolaa

/- Runs of transactions: a whole run. -/

namespace Go.Proofs.Ytcglflifaniolaa
open Go.RowKit Go.Q Go.V Go.Proofs.Sc
section
variable {lev n K : Nat} {hs : Hdr} {start : List Int} {r : Addr} {w w' : World} {ρ ρ' : Rho} {H : RHd} {s : St}
theorem newTx (A : RunAt lev n K hs start r w ρ H s) {w1 : World} (h1 : bel w w1) {x35 x40 st : Hdr} {x45 : Addr} (hs0 : s.tx n = tx0 (s.tx n).steps)
    (B45 : Box w1 x45 (txc (s.tx n) ⟨st, x35, x40, none⟩)) (n45 : w.heap.size ≤ x45.block) (O35 : Own w1 w.heap.size 4 1 x35.1 x35.2.1 x35.2.2 (fbools K fun _ => false)) (O40 : Own w1 w.heap.size 4 1 x40.1 x40.2.1 x40.2.2 (fbools K fun _ => false))
    (S30 : Sl w1 st.1 st.2.1 st.2.2 3 ((s.tx n).steps.flatMap encS)) (h30 : ∀ ad, st.1 = some ad → (s.tx n).steps.flatMap encS ≠ [] → (ad.block < w.heap.size ∧ ρ ad.block = 0) ∨ (w.heap.size ≤ ad.block ∧ ad.block ≠ x45.block ∧ blk x35.1 ≠ some ad.block ∧ blk x40.1 ≠ some ad.block))
    (a1 : blk x35.1 ≠ some x45.block) (a2 : blk x40.1 ≠ some x45.block) (a3 : ∀ b, blk x35.1 = some b → blk x40.1 ≠ some b) :
    ∃ ρ', RunAt lev n K hs start r w1 ρ' H s ∧ Kp w ρ w1 ρ' ∧ PartB w1 ρ' (5 + 4 * n) x45 (txc (s.tx n) ⟨st, x35, x40, none⟩) ∧ Fix w1 ρ' 3 st ((s.tx n).steps.flatMap encS) ∧ PartO w1 ρ' (6 + 4 * n) 4 1 x35 (fbools K (s.tx n).sh) ∧ PartO w1 ρ' (7 + 4 * n) 4 1 x40 (fbools K (s.tx n).ex) := by
  have l35 : ∀ b, blk x35.1 = some b → w.heap.size ≤ b ∧ b < w1.heap.size := fun b hb => O35.lt b hb
  have l40 : ∀ b, blk x40.1 = some b → w.heap.size ≤ b ∧ b < w1.heap.size := fun b hb => O40.lt b hb
  have e1 : (s.tx n).sh = fun _ => false := by rw [hs0]; rfl
  have e2 : (s.tx n).ex = fun _ => false := by rw [hs0]; rfl
  refine ⟨fun b => if b = x45.block then 5 + 4 * n else if blk x35.1 = some b then 6 + 4 * n else if blk x40.1 = some b then 7 + 4 * n else ρ b, A.retag h1 (fun k hk => ?_) (fun b hb => ?_), ⟨h1.os, h1.tape, h1.output, h1.size, fun k hk h0 => ⟨h1.block k hk, ?_⟩⟩, ⟨B45, if_pos rfl⟩, ⟨S30, fun ad ha hx => ?_⟩, ⟨by rw [e1]; exact own_le O35 (Nat.zero_le _), fun b hb => ?_⟩, ⟨by rw [e2]; exact own_le O40 (Nat.zero_le _), fun b hb => ?_⟩⟩
  · rw [if_neg (by omega), if_neg (fun q => by have := l35 k q; omega), if_neg (fun q => by have := l40 k q; omega)]
  · have := B45.lt
    by_cases q1 : b = x45.block
    · omega
    · rw [if_neg q1] at hb
      by_cases q2 : blk x35.1 = some b
      · exact (l35 b q2).2
      · rw [if_neg q2] at hb
        by_cases q3 : blk x40.1 = some b
        · exact (l40 b q3).2
        · rw [if_neg q3] at hb
          exact Nat.lt_of_lt_of_le (A.tag b hb) h1.size
  · rw [if_neg (by omega), if_neg (fun q => by have := l35 k q; omega), if_neg (fun q => by have := l40 k q; omega)]; exact h0
  · show _
    rcases h30 ad ha hx with ⟨q1, q2⟩ | ⟨q0, q1, q2, q3⟩
    · rw [if_neg (by omega), if_neg (fun q => by have := l35 _ q; omega), if_neg (fun q => by have := l40 _ q; omega)]; exact q2
    · rw [if_neg q1, if_neg q2, if_neg q3]
      exact Classical.byContradiction fun h => by have := A.tag _ h; omega
  · rw [if_neg (fun q => a1 (by rw [← q]; exact hb)), if_pos hb]
  · rw [if_neg (fun q => a2 (by rw [← q]; exact hb)), if_neg (fun q => a3 b q hb), if_pos hb]
end
theorem turns_snoc (lev n K : Nat) (start : Nat → Int) (s : St) (o : List Int) (x : Int) : turns lev n K start s (o ++ [x]) = turn1 lev n K start (turns lev n K start s o) x := by
  unfold turns
  rw [List.foldl_append]; rfl
theorem fins_snoc (s : St) (i : Nat) : (List.range (i + 1)).foldl fin1 s = fin1 ((List.range i).foldl fin1 s) i := by rw [List.range_succ, List.foldl_append]; rfl
theorem VS'.ok {start : List Int} {P : List (List Sp)} (V : VS' start P) : (∀ t, t < P.length → SOk start.length ((P.map wholeP).getD t [])) ∧ (∀ t, t < P.length → ∀ p ∈ (P.map wholeP).getD t [], SB start.length p) ∧ ∀ t, t < P.length → ((P.map wholeP).getD t []).length ≤ 9 := by
  have key : ∀ t, t < P.length → ∃ p ∈ P, (P.map wholeP).getD t [] = wholeP p := fun t ht => ⟨P[t], List.getElem_mem ht, by
    rw [map_getD P t ht, List.getD_eq_getElem?_getD, List.getElem?_eq_getElem ht]; rfl⟩
  refine ⟨fun t ht => ?_, fun t ht => ?_, fun t ht => ?_⟩ <;> obtain ⟨p, hp, e⟩ := key t ht <;> rw [e]
  · exact whole_ok (V.st p hp).made
  · exact (V.st p hp).whole.1
  · exact (V.st p hp).whole.2
theorem Bd.turns {n K : Nat} {start : Nat → Int} {lev : Nat} (h123 : 1 ≤ lev ∧ lev ≤ 3) (hs : ∀ k, -1000000000 ≤ start k ∧ start k ≤ 1000000000) : ∀ (o : List Int) (s : St), Inv lev n K start s → Lv n s → ∀ m, Bd n K m s → Bd n K (m + 3 * o.length) (turns lev n K start s o)
  | [], _, _, _, _, B => B
  | x :: o, s, I, L, m, B => by
    obtain ⟨I', L'⟩ := I.trn1 L h123 x
    have := Bd.turns h123 hs o _ I' L' (m + 3) (B.turn1 L hs x)
    refine this.mono ?_
    rw [List.length_cons]; omega
end Go.Proofs.Ytcglflifaniolaa

/- Runs of transactions: schedule.Run. -/

namespace Go.Proofs.Ytcglflifaniolaa
open Go.RowKit Go.Q Go.V Go.Proofs.Sc

theorem hdr_inj {x h : Hdr} (e : (Value.slice x.1 x.2.1 x.2.2) = .slice h.1 h.2.1 h.2.2) : x = h := by
  obtain ⟨a1, a2, a3⟩ := x; obtain ⟨b1, b2, b3⟩ := h
  simp only [Value.slice.injEq] at e
  obtain ⟨rfl, rfl, rfl⟩ := e; rfl
def PartF (w22 : World) (K : Nat) (x : Hdr) (p : List Sp) (i : Nat) (ags : List Value) (v : Value) (w' : World) : Prop :=
  (i = 6 → ∃ h : Hdr, v = .slice h.1 h.2.1 h.2.2 ∧ ((h = x ∧ wholeP p = p ∧ p ≠ []) ∨ Own w' w22.heap.size 57 3 h.1 h.2.1 h.2.2 ((wholeP p).flatMap encS))) ∧
  (i = 9 ∨ i = 12 → ∃ h : Hdr, v = .slice h.1 h.2.1 h.2.2 ∧ Own w' w22.heap.size 4 1 h.1 h.2.1 h.2.2 (fbools K fun _ => false)) ∧
  (i = 14 → ∃ (ad : Addr) (cs : Array Value), v = .pointer (some ad) ∧ ags = [.agg cs] ∧ Box w' ad cs.toList ∧ w22.heap.size ≤ ad.block ∧ ∀ h : Hdr, cs.toList[0]? = some (.slice h.1 h.2.1 h.2.2) → h = x ∨ ∀ b, blk h.1 = some b → b < ad.block) ∧
  (i = 15 → ∃ (ad : Addr) (y : Value), v = .slice (some ad) 1 1 ∧ ags = [y] ∧ Own w' w22.heap.size 64 1 (some ad) 1 1 [y])
theorem PartF.up {w22 : World} {K : Nat} {x : Hdr} {p : List Sp} {i : Nat} {ags : List Value} {v : Value} {w w' : World} (h : PartF w22 K x p i ags v w) (hb : bel w w') : PartF w22 K x p i ags v w' := by
  refine ⟨fun e => ?_, fun e => ?_, fun e => ?_, fun e => ?_⟩
  · obtain ⟨h1, e1, q⟩ := h.1 e
    exact ⟨h1, e1, q.imp id fun O => O.kept hb⟩
  · obtain ⟨h1, e1, O⟩ := h.2.1 e
    exact ⟨h1, e1, O.kept hb⟩
  · obtain ⟨ad, cs, e1, e2, X, q⟩ := h.2.2.1 e
    exact ⟨ad, cs, e1, e2, X.up hb, q⟩
  · obtain ⟨ad, y, e1, e2, O⟩ := h.2.2.2 e
    exact ⟨ad, y, e1, e2, O.kept hb⟩
set_option maxHeartbeats 3200000 in
theorem runF (lev : Nat) (h123 : 1 ≤ lev ∧ lev ≤ 3) (sh ph oh : Hdr) (start : List Int) (P : List (List Sp)) (phs : List Hdr) (o : List Int) (w : World) (S : Sl w sh.1 sh.2.1 sh.2.2 1 (ints .i64 start)) (PA : ProgsAt w ph P phs) (OO : Sl w oh.1 oh.2.1 oh.2.2 1 (ints .i64 o)) (V : VS' start P) (ho : o.length ≤ 120) :
    call Try.prog 10 [.int .i64 ((lev : Nat) : Int), .slice sh.1 sh.2.1 sh.2.2, .slice ph.1 ph.2.1 ph.2.2, .slice oh.1 oh.2.1 oh.2.2] (.many [.agg [.slice, .slice], .one (.int .i64)]) w
      (fun (x : (Hdr × Hdr × Unit) × Int × Unit) w' => x.2.1 = 0 ∧ bel w w' ∧ Sl w' x.1.1.1 x.1.1.2.1 x.1.1.2.2 1 (ints .i64 start) ∧ Sl w' x.1.2.1.1 x.1.2.1.2.1 x.1.2.1.2.2 5 ((runS lev start P o).ev.flatMap encE)) := by
  refine call_of (S10_calls lev sh.1 sh.2.1 sh.2.2 ph.1 ph.2.1 ph.2.2 oh.1 oh.2.1 oh.2.2 w _ ?_)
  unfold S10
  obtain ⟨sa, sn, sc⟩ := sh
  have hsl := S.int
  dsimp only at hsl S ⊢
  subst hsl
  have hol := OO.int
  have hpn := PA.hn
  have hs6 := V.sl
  have hp5 := V.pl
  have hst : ∀ k, -1000000000 ≤ start.getD k 0 ∧ start.getD k 0 ≤ 1000000000 := fun k => by
    rw [List.getD_eq_getElem?_getD]
    cases hk : start[k]? with
    | none => exact ⟨by decide, by decide⟩
    | some x => exact V.sm x (List.mem_of_getElem? hk)
  obtain ⟨hSOk, hSB, hL9⟩ := V.ok
  refine wr_alloc (z := .agg #[.slice none 0 0, .slice none 0 0]) (by kernel_rfl) fun x1 w2 X1 h2 hx1 _ => ?_
  refine call_mono (validF (sa, start.length, sc) ph start P phs w2 (S.up h2) (PA.up h2) V) ?_
  rintro (b : Bool) w4 ⟨rfl, h4⟩
  refine br_f rfl ?_
  refine br_dec (fun e => absurd e (by omega)) (fun _ => ?_)
  refine br_dec (fun e => absurd e (by omega)) (fun _ => ?_)
  refine br_dec (fun e => absurd e (by omega)) (fun _ => ?_)
  refine wr_make tyV start.length rfl rfl (by omega) (by unfold maxLen; omega) fun x13 w14 O14 h14 h13 _ => ?_
  have V14 := O14 w4.heap.size (Nat.le_refl _)
  rw [made_hdrs] at V14
  clear O14
  refine wr_box fun x15 w16 X15 h16 h15 _ => ?_
  have b4 := h2.trans h4
  have X4 : Box w4 x1 [.slice none 0 0, .slice none 0 0] := X1.up h4
  obtain ⟨ρ0, H0, A0, K0⟩ := run0 (lev := lev) (hs := (sa, start.length, sc)) rfl (S.up b4) V14 h14 h13 h16 h15 X15 (st0 (P.map wholeP)) (fun _ => rfl) rfl
  clear V14 X15 h15 h13 X1
  -- the transactions
  refine loop_up P.length (fun i w' => ∃ ρ H, RunAt lev i start.length (sa, start.length, sc) start x15 w' ρ H (st0 (P.map wholeP)) ∧ Kp w4 zr w' ρ) ⟨ρ0, H0, A0, K0⟩ ?_
  clear A0 K0
  rintro i w19 hi ⟨ρ, H, A, Kp1⟩ again hag _
  refine br_dec (fun e => ?_) (fun e => ?_)
  · dsimp only at e
    obtain ⟨x, p, hx, hp⟩ := PA.get (i := i) (by omega)
    have b19 := b4.trans (Kp1.to_bel fun _ _ => rfl)
    refine at_hdr tyP (by kernel_rfl) (PA.up b19).sl (j := i) rfl (by omega) fun y hy => ?_
    obtain rfl : x = y := by rw [hx] at hy; injection hy
    refine drw_mk fun w22 h22 _ => ?_
    have A22 := A.up h22
    have Sx := PA.row i x p hx hp
    have b22 := b19.trans h22
    have Vp := V.st p (List.mem_of_getElem? hp)
    have hlp := Vp.len
    have hsteps : ((st0 (P.map wholeP)).tx i).steps = wholeP p := by
      show (P.map wholeP).getD i [] = _
      rw [map_getD P i (by omega), List.getD_eq_getElem?_getD, hp]; rfl
    refine flEx_mk (PartF w22 start.length x p) (fun i ags v w1 w2 h hb => h.up hb) ?_
    refine nn_mk rfl ?_
    refine rd_box (by kernel_rfl) A22.box.box (i := 2) rfl rfl ?_
    refine flc_mk (fun w26 h26 _ => ?_) (fun x30 => flc_mk (fun w31 h31 _ => ?_) (fun x35 => flc_mk (fun w36 h36 _ => ?_) (fun x40 => flc_mk (fun w41 h41 f => ?_) (fun x45 => flc_mk (fun w46 h46 f => ?_) (fun x50 => flend_mk fun w51 h51 f => ?_)))))
    · refine call_mono (wholeF x p w26 ((Sx.up b22).up h26) (by omega)) fun (z : Hdr) w29 q => ⟨q.1, fun _ => ⟨z, rfl, q.2.imp id fun O => own_le O h26.size⟩, fun e => absurd e (by decide), fun e => absurd e (by decide), fun e => absurd e (by decide)⟩
    · refine wr_make tyB start.length rfl rfl (by omega) (by unfold maxLen; omega) fun ad w34 O h34 _ _ => ⟨h34, fun e => absurd e (by decide), fun _ => ⟨(some ad, start.length, start.length), rfl, ?_⟩, fun e => absurd e (by decide), fun e => absurd e (by decide)⟩
      have := O w22.heap.size h31.size
      rw [made_bools] at this; exact this
    · refine wr_make tyB start.length rfl rfl (by omega) (by unfold maxLen; omega) fun ad w34 O h34 _ _ => ⟨h34, fun e => absurd e (by decide), fun _ => ⟨(some ad, start.length, start.length), rfl, ?_⟩, fun e => absurd e (by decide), fun e => absurd e (by decide)⟩
      have := O w22.heap.size h36.size
      rw [made_bools] at this; exact this
    · refine wr_box fun ad w44 X h44 hx44 _ => ⟨h44, fun e => absurd e (by decide), fun e => absurd e (by decide), fun _ => ⟨ad, _, rfl, rfl, X, by have := h41.size; omega, fun h hh => ?_⟩, fun e => absurd e (by decide)⟩
      have e0 : x30 = h := by
        have : Value.slice x30.1 x30.2.1 x30.2.2 = .slice h.1 h.2.1 h.2.2 := by injection hh
        exact hdr_inj this
      subst e0
      obtain ⟨h', e', q⟩ := f.2.2.1.1 rfl
      obtain rfl := hdr_inj e'
      rcases q with q | O
      · exact .inl q.1
      · exact .inr fun b hb => by have := (O.lt b hb).2; omega
    · refine wr_lit tyT #[.pointer (some x45)] (fill_one 1 (.pointer (some x45)) _ rfl (by first | rfl | simp)) (by omega) (by omega) rfl (by unfold maxLen; omega) fun ad w49 O h49 _ _ => ⟨h49, fun e => absurd e (by decide), fun e => absurd e (by decide), fun e => absurd e (by decide), fun _ => ⟨ad, _, rfl, rfl, O w22.heap.size h46.size⟩⟩
    · obtain ⟨⟨f15, f14, f12, f9, f6, _⟩, hpw⟩ := f
      obtain ⟨ad50, y50, e50, e50', O50⟩ := f15.2.2.2 rfl
      obtain ⟨ad45, cs, e45, e45', B45, n45, q45⟩ := f14.2.2.1 rfl
      obtain ⟨h40, e40, O40⟩ := f12.2.1 (.inr rfl)
      obtain ⟨h35, e35, O35⟩ := f9.2.1 (.inl rfl)
      obtain ⟨h30, e30, q30⟩ := f6.1 rfl
      obtain rfl := hdr_inj e40
      obtain rfl := hdr_inj e35
      obtain rfl := hdr_inj e30
      injection e45 with e45
      injection e45 with e45
      subst e45
      injection e45' with e45' _
      injection e45' with e45'
      subst e45'
      injection e50' with e50' _
      subst e50'
      have e50 : x50 = (some ad50, 1, 1) := hdr_inj (h := (some ad50, 1, 1)) e50
      subst e50
      have q30' := q45 x30 rfl
      simp only [List.pairwise_cons, List.mem_cons, List.not_mem_nil, or_false, forall_eq_or_imp, forall_eq, false_implies, implies_true, List.Pairwise.nil, and_true] at hpw
      obtain ⟨⟨a2, a1⟩, a3⟩ := hpw
      have vb : ∀ h : Hdr, vblk (.slice h.1 h.2.1 h.2.2) = blk h.1 := fun h => by
        obtain ⟨a, n, c⟩ := h
        cases a <;> rfl
      rw [vb] at a1 a2 a3
      rw [vb] at a3
      have b51 := b22.trans h51
      obtain ⟨ρ1, A51, K51, P45, F30, P35, P40⟩ := newTx A22 h51 (x35 := x35) (x40 := x40) (st := x30) (x45 := x45) rfl B45 n45 O35 O40 (by
          rw [hsteps]
          rcases q30 with ⟨rfl, e1, _⟩ | O
          · rw [e1]; exact Sx.up b51
          · exact O.sl) (fun ad ha hne => by
          rw [hsteps] at hne
          rcases q30 with ⟨rfl, e1, _⟩ | O
          · rw [e1] at hne
            have hlt := Sx.lt ad ha hne
            have := b4.size
            have hk := (Kp1.keep ad.block (by omega) rfl).2
            have := b22.size
            exact .inl ⟨by omega, hk⟩
          · have hb : blk x30.1 = some ad.block := by rw [ha]; rfl
            have h1 := O.lt ad.block hb
            refine .inr ⟨h1.1, fun e => ?_, fun e => Own.apart O O35 (by decide) ad.block hb e, fun e => Own.apart O O40 (by decide) ad.block hb e⟩
            rcases q30' with q | q
            · subst q
              have hlt := Sx.lt ad ha (fun h0 => by
                have : p = [] := by
                  cases p with
                  | nil => rfl
                  | cons a l => simp [List.flatMap_cons, encS] at h0
                subst this
                have hxl := Sx.len
                simp at hxl
                have := O.1
                rw [flat_len encS_len] at this
                have e9 : (wholeP ([] : List Sp)).length = 1 := rfl
                omega)
              have := b22.size
              omega
            · have := q ad.block hb; omega) (fun e => a1 (by rw [e]; rfl)) (fun e => a2 (by rw [e]; rfl)) (fun b hb1 hb2 => a3 (by rw [hb1, hb2]))
      refine wr_app tyT A51.txs.own O50.sl (Nat.zero_le _) rfl (by omega) rfl (by have := A51.txs.own.1; rw [List.length_map, A51.pl] at this; omega) (by have := A51.txs.own.1; rw [List.length_map, A51.pl] at this; unfold maxLen; omega) fun a' c' w54 O hg hn' _ => ?_
      refine nn_mk rfl ?_
      have hne : some x15.block ≠ blk H.tx.1 := fun q => by have := A51.txs.tag _ q.symm; rw [A51.box.tag] at this; omega
      refine wu_boxi (A51.box.box.grown hg hne) (by kernel_rfl) (by show 2 < 5; omega) rfl fun w56 X hg56 _ => ?_
      refine z_i64 (by dsimp only; omega) ?_
      obtain ⟨A56, K56⟩ := A51.addTx (p := x45) (h := ⟨x30, x35, x40, none⟩) (a' := a') (m := H.tx.2.1 + 1) (c' := c') (by
        have e : ptrs (H.ps ++ [x45]) = ptrs H.ps ++ [.pointer (some x45)] := by unfold ptrs; rw [List.map_append]; rfl
        rw [e]; exact O) hg hn' hg56 X P45 F30 rfl P35 P40
      exact hag w56 (by omega) ⟨_, _, A56, ((Kp1.trans (Kp.bel h22)).trans K51).trans K56⟩
  · dsimp only at e
    have hiP : i = P.length := by omega
    subst hiP
    -- the turns
    have hI0 := inv0 (lev := lev) (K := start.length) (start := fun k => start.getD k 0) hSOk
    have hB0 := bd0 (n := P.length) (K := start.length) hSB
    refine loop_up o.length (fun j w' => ∃ ρ', RA lev P.length start.length (sa, start.length, sc) start x15 H.k w' ρ' (turns lev P.length start.length (fun k => start.getD k 0) (st0 (P.map wholeP)) (o.take j)) ∧ Kp w4 zr w' ρ') ⟨ρ, ⟨H, rfl, A⟩, Kp1⟩ ?_
    clear hag again
    have hpl := A.pl
    clear A Kp1 
    rintro j w60 hj ⟨ρ6, ⟨H6, hk6, A6⟩, K6⟩ again hag _
    have b60 := b4.trans (K6.to_bel fun _ _ => rfl)
    have htx := A6.txs.own.1
    rw [List.length_map, A6.pl, Nat.mul_one] at htx
    have hIT := Inv.trns (lev := lev) (n := P.length) (K := start.length) (start := fun k => start.getD k 0) h123 (o.take j) _ hI0.1 hI0.2
    have hBT := Bd.turns (lev := lev) h123 hst (o.take j) (st0 (P.map wholeP)) hI0.1 hI0.2 0 hB0
    have hjl : (o.take j).length ≤ 120 := by rw [List.length_take]; omega
    have hsteps : ∀ u, ((turns lev P.length start.length (fun k => start.getD k 0) (st0 (P.map wholeP)) (o.take j)).tx u).steps = (P.map wholeP).getD u [] := fun u => steps_turns lev P.length start.length _ u (o.take j) _
    refine br_dec (fun e => ?_) (fun e => ?_)
    · dsimp only at e
      obtain ⟨x, hx⟩ : ∃ x, o[j]? = some x := ⟨_, List.getElem?_eq_getElem (by omega)⟩
      have hsn : turns lev P.length start.length (fun k => start.getD k 0) (st0 (P.map wholeP)) (o.take (j + 1)) = turn1 lev P.length start.length (fun k => start.getD k 0) (turns lev P.length start.length (fun k => start.getD k 0) (st0 (P.map wholeP)) (o.take j)) x := by rw [List.take_add_one, hx]; exact turns_snoc _ _ _ _ _ _ x
      generalize hT : turns lev P.length start.length (fun k => start.getD k 0) (st0 (P.map wholeP)) (o.take j) = sT at A6 hIT hBT hsn hsteps
      refine join_mk (fun _ w' => ∃ ρ', RA lev P.length start.length (sa, start.length, sc) start x15 H.k w' ρ' (turns lev P.length start.length (fun k => start.getD k 0) (st0 (P.map wholeP)) (o.take (j + 1))) ∧ Kp w4 zr w' ρ') (fun K61 hK => ?_) (fun _ w' q => ?_)
      case refine_2 =>
        intro _
        refine z_i64 (by dsimp only; omega) ?_
        exact hag w' (by omega) q
      have skip : ¬ (0 ≤ x ∧ x < (P.length : Int) ∧ (sT.tx x.toNat).ended = false) → K61 () w60 := fun h => by
        refine hK _ _ ⟨ρ6, ⟨H6, hk6, ?_⟩, K6⟩
        rw [hsn]
        unfold turn1
        rw [if_neg h]; exact A6
      refine at_int tyI (by kernel_rfl) (OO.up b60) (j := j) rfl (by omega) fun y hy => ?_
      obtain rfl : x = y := by rw [hx] at hy; injection hy
      refine br_dec (fun e1 => ?_) (fun e1 => skip fun h => e1 h.1)
      refine nn_mk rfl ?_
      refine rd_box (by kernel_rfl) A6.box.box (i := 2) rfl rfl ?_
      refine br_dec (fun e2 => ?_) (fun e2 => skip fun h => e2 (by dsimp only; omega))
      dsimp only at e2
      have hxn : x.toNat < P.length := by omega
      obtain ⟨p, hp⟩ := A6.ps_get hxn
      refine nn_mk rfl ?_
      refine rd_box (by kernel_rfl) A6.box.box (i := 2) rfl rfl ?_
      refine at_mk tyT (by kernel_rfl) A6.txs.own.sl (j := x.toNat) (s := .ptr) (by omega) (ptrs_get hp) rfl ?_
      refine nn_mk rfl ?_
      refine rd_box (by kernel_rfl) (A6.txb _ p hp).box (i := 3) rfl rfl ?_
      refine br_not (fun e3 => ?_) (fun e3 => skip fun h => by rw [e3] at h; cases h.2.2)
      have hlive := hIT.2 x.toNat hxn e3
      have hxe : x = ((x.toNat : Nat) : Int) := by omega
      conv in (Value.int IntKind.i64 x) => rw [hxe]
      refine call_mono (turnF A6 hxn (by omega) (hBT.mono (m' := 360) (by omega)) (by omega) hst hlive (by rw [hsteps]; have := hL9 _ hxn; omega)) ?_
      rintro (_ : Unit) w76 ⟨ρ7, ⟨H7, hk7, A7⟩, K7⟩
      refine hK _ _ ⟨ρ7, ⟨H7, hk7.trans hk6, ?_⟩, K6.trans K7⟩
      rw [hsn]
      unfold turn1
      rw [if_pos ⟨e1, by omega, e3⟩]; exact A7
    -- the last ones
    dsimp only at e
    have hjo : j = o.length := by omega
    subst hjo
    rw [List.take_length] at A6 hIT hBT hjl hsteps
    generalize hT : turns lev P.length start.length (fun k => start.getD k 0) (st0 (P.map wholeP)) o = sT at A6 hIT hBT hsteps
    have hrun : runS lev start P o = (List.range P.length).foldl fin1 sT := by unfold runS; rw [hT]
    refine nn_mk rfl ?_
    refine rd_box (by kernel_rfl) A6.box.box (i := 2) rfl rfl ?_
    have hB0' : Bd P.length start.length 360 sT := hBT.mono (by omega)
    refine loop_up P.length (fun i w' => ∃ ρ', RA lev P.length start.length (sa, start.length, sc) start x15 H6.k w' ρ' ((List.range i).foldl fin1 sT) ∧ Kp w4 zr w' ρ' ∧ Bd P.length start.length (360 + i) ((List.range i).foldl fin1 sT)) ⟨ρ6, ⟨H6, rfl, A6⟩, K6, hB0'⟩ ?_
    clear hag again
    rintro i w81 hi ⟨ρ8, ⟨H8, hk8, A8⟩, K8, B8⟩ again hag _
    refine br_dec (fun e => ?_) (fun e => ?_)
    · dsimp only at e
      have hin : i < P.length := by omega
      have hsn := fins_snoc sT i
      generalize hF : (List.range i).foldl fin1 sT = sF at A8 B8 hsn
      have B9 := B8.fin hin
      refine join_mk (fun _ w' => ∃ ρ', RA lev P.length start.length (sa, start.length, sc) start x15 H6.k w' ρ' ((List.range (i + 1)).foldl fin1 sT) ∧ Kp w4 zr w' ρ') (fun K82 hK => ?_) (fun _ w' q => ?_)
      case refine_2 =>
        obtain ⟨ρ', q1, q2⟩ := q
        intro _
        refine z_i64 (by dsimp only; omega) ?_
        exact hag w' hin ⟨ρ', q1, q2, by rw [hsn]; exact B9⟩
      obtain ⟨p, hp⟩ := A8.ps_get hin
      have skip : ¬ ((sF.tx i).begun = true ∧ (sF.tx i).ended = false) → K82 () w81 := fun h => by
        refine hK _ _ ⟨ρ8, ⟨H8, hk8, ?_⟩, K8⟩
        rw [hsn]
        unfold fin1
        rw [if_neg h]; exact A8
      have S8 := A8.txs.own.sl
      rw [k_tx hk8] at S8
      refine at_mk tyT (by kernel_rfl) S8 (j := i) (s := .ptr) rfl (ptrs_get hp) rfl ?_
      refine nn_mk rfl ?_
      refine rd_box (by kernel_rfl) (A8.txb _ p hp).box (i := 2) rfl rfl ?_
      refine br_mk (fun e1 => ?_) (fun e1 => skip fun h => by rw [e1] at h; cases h.1)
      refine nn_mk rfl ?_
      refine rd_box (by kernel_rfl) (A8.txb _ p hp).box (i := 3) rfl rfl ?_
      refine br_not (fun e2 => ?_) (fun e2 => skip fun h => by rw [e2] at h; cases h.2)
      refine call_mono (abortF A8 i hin (by have := B8.ev; omega) fun k _ => by have := (B8.ver k).1; omega) ?_
      rintro (_ : Unit) w93 ⟨ρ9, ⟨H9, hk9, A9⟩, K9⟩
      refine hK _ _ ⟨ρ9, ⟨H9, hk9.trans hk8, ?_⟩, K8.trans K9⟩
      rw [hsn]
      unfold fin1
      rw [if_pos ⟨e1, e2⟩]; exact A9
    · dsimp only at e
      have hiP : i = P.length := by omega
      subst hiP
      rw [← hrun] at A8
      have b81 := K8.to_bel fun _ _ => rfl
      obtain ⟨X8, hx8⟩ := K8.box X4 rfl
      refine drw_mk fun w94 h94 _ => ?_
      have A94 := A8.up h94
      refine flEx_mk (fun i _ v w' => i = 1 → ∃ h : Hdr, v = .slice h.1 h.2.1 h.2.2 ∧ Own w' w94.heap.size 3 1 h.1 h.2.1 h.2.2 (ints .i64 start)) (fun i ags v w1 w2 h hb e => by obtain ⟨y, e1, O⟩ := h e; exact ⟨y, e1, O.kept hb⟩) ?_
      refine flc_mk (fun w96 h96 _ => ?_) (fun x100 => ?_)
      · exact call_mono (cloneIF (sa, start.length, sc) start w96 ((((S.up b4).up b81).up h94).up h96) (by dsimp only; omega)) fun (y : Hdr) w99 q => ⟨q.2, fun _ => ⟨y, rfl, own_le q.1 h96.size⟩⟩
      refine nn_mk rfl ?_
      refine rd_box (by kernel_rfl) A94.box.box (i := 4) rfl rfl ?_
      refine flend_mk fun w103 h103 f => ?_
      obtain ⟨y, e1, O⟩ := f.1 rfl
      obtain rfl := hdr_inj e1
      have X103 := (X8.up h94).up h103
      have E103 := (A94.up h103).ev
      have hx1 : w.heap.size ≤ x1.block := by omega
      have hl1 : x1.block < w94.heap.size := by have := X4.lt; have := b81.size; have := h94.size; omega
      refine wu_box X103 (by kernel_rfl) (Nat.le_refl 2) rfl fun w105 X hg105 _ => ?_
      refine rd_boxV (show Box w105 x1 [.slice x100.1 x100.2.1 x100.2.2, .slice H8.ev.1 H8.ev.2.1 H8.ev.2.2] from X) (by kernel_rfl) rfl ?_
      refine ⟨((x100, H8.ev, ()), (0 : Int), ()), rfl, rfl, (((b4.trans b81).trans h94).trans h103).grownAt hg105 hx1, ?_, ?_⟩
      · exact O.sl.grown hg105 fun ad ha _ q => by
          have := (O.lt ad.block (by rw [ha]; rfl)).1
          injection q with q
          omega
      · exact E103.own.sl.grown hg105 fun ad ha _ q => by
          have := E103.tag ad.block (by rw [ha]; rfl)
          injection q with q
          rw [q, hx8] at this
          omega
end Go.Proofs.Ytcglflifaniolaa

/- The conditions of functions, printed by our tool; each is checked against the code by the kernel. -/



namespace Go.Proofs
open Go Go.V Go.RowKit
def S7 (t_a : Option Addr) (t_n : Nat) (t_c : Nat) (w0 : World) (R : Value → World → Prop) : Prop :=
 z (if 2000 < ((t_n : Nat) : Int) then 2000 else ((t_n : Nat) : Int)) fun (z1 : Int) =>
 rdp Try.prog (Instr.sliceAt 22 (.slice t_a t_n t_c) none (some (.int .i64 z1)) none) (.one .slice) fun (x2 : Hd3) =>
 wr Try.prog (Instr.box 51 (.agg #[(.slice x2.1 x2.2.1 x2.2.2), (.int .i64 0)])) (.one .addr) w0 fun (x3 : Addr) w4 =>
 R (.pointer (some x3)) w4
def H7 : Hints := ⟨[], [], [], []⟩
set_option maxRecDepth 100000 in
theorem S7_eq (t_a : Option Addr) (t_n : Nat) (t_c : Nat) (w0 : World) (R : Value → World → Prop) : vcFn Try.prog H7 Try.f7 [(.slice t_a t_n t_c)] w0 R = S7 t_a t_n t_c w0 R := by kernel_rfl
set_option maxRecDepth 100000 in
theorem S7_calls (t_a : Option Addr) (t_n : Nat) (t_c : Nat) (w0 : World) (R : Value → World → Prop) (h : S7 t_a t_n t_c w0 R) : Calls Try.prog 7 #[(.slice t_a t_n t_c)] w0 (ret R) := by
  rw [← S7_eq] at h; exact vcFn_sound follows_ Try.func7 h

def S34 (t_ : (Option Addr)) (w0 : World) (R : Value → World → Prop) : Prop :=
 drw w0 fun w1 =>
 nn t_ fun (a2 : Addr) =>
 rd Try.prog (Instr.loadAt 3 (.pointer (some (Addr.add a2 1)))) (.one (.int .i64)) w1 fun (x3 : Int) =>
 nn t_ fun (a4 : Addr) =>
 rd Try.prog (Instr.loadAt 22 (.pointer (some a4))) (.one .slice) w1 fun (x5 : Hd3) =>
 br (decide (x3 ≥ ((x5.2.1 : Nat) : Int))) (R (.int .i64 0) w1)
 (nn t_ fun (a6 : Addr) =>
 rd Try.prog (Instr.loadAt 3 (.pointer (some (Addr.add a6 1)))) (.one (.int .i64)) w1 fun (x7 : Int) =>
 z (IntKind.wrap .i64 (x7 + 1)) fun (z8 : Int) =>
 nn t_ fun (a9 : Addr) =>
 wu Try.prog (Instr.storeAt 3 (.pointer (some (Addr.add a9 1))) (.int .i64 z8)) w1 fun w10 =>
 drw w10 fun w11 =>
 nn t_ fun (a12 : Addr) =>
 rd Try.prog (Instr.loadAt 22 (.pointer (some a12))) (.one .slice) w11 fun (x13 : Hd3) =>
 nn t_ fun (a14 : Addr) =>
 rd Try.prog (Instr.loadAt 3 (.pointer (some (Addr.add a14 1)))) (.one (.int .i64)) w11 fun (x15 : Int) =>
 z (IntKind.wrap .i64 (x15 - 1)) fun (z16 : Int) =>
 rdp Try.prog (Instr.indexAt 22 (.slice x13.1 x13.2.1 x13.2.2) (.int .i64 z16)) (.one .addr) fun (x17 : Addr) =>
 rd Try.prog (Instr.loadAt 3 (.pointer (some x17))) (.one (.int .i64)) w11 fun (x18 : Int) =>
 R (.int .i64 x18) w11)
def H34 : Hints := ⟨[], [(1, 9), (4, 9)], [], []⟩
set_option maxRecDepth 100000 in
theorem S34_eq (t_ : (Option Addr)) (w0 : World) (R : Value → World → Prop) : vcFn Try.prog H34 Try.f34 [(.pointer t_)] w0 R = S34 t_ w0 R := by kernel_rfl
set_option maxRecDepth 100000 in
theorem S34_calls (t_ : (Option Addr)) (w0 : World) (R : Value → World → Prop) (h : S34 t_ w0 R) : Calls Try.prog 34 #[(.pointer t_)] w0 (ret R) := by
  rw [← S34_eq] at h; exact vcFn_sound follows_ Try.func34 h

def S33 (x_ : Int) (n_ : Int) (w0 : World) (R : Value → World → Prop) : Prop :=
 br (decide (n_ < 1)) (R (.int .i64 0) w0)
 (rdp Try.prog (cmpS .rem 3 (.tmp 7) (.tmp 8) (.int .i64 x_) (.int .i64 n_)) (.one (.int .i64)) fun (x1 : Int) =>
 br (decide (x1 < 0)) (z (IntKind.wrap .i64 (x1 + n_)) fun (z2 : Int) =>
 R (.int .i64 z2) w0)
 (R (.int .i64 x1) w0))
def H33 : Hints := ⟨[], [], [], []⟩
set_option maxRecDepth 100000 in
theorem S33_eq (x_ : Int) (n_ : Int) (w0 : World) (R : Value → World → Prop) : vcFn Try.prog H33 Try.f33 [(.int .i64 x_), (.int .i64 n_)] w0 R = S33 x_ n_ w0 R := by kernel_rfl
set_option maxRecDepth 100000 in
theorem S33_calls (x_ : Int) (n_ : Int) (w0 : World) (R : Value → World → Prop) (h : S33 x_ n_ w0 R) : Calls Try.prog 33 #[(.int .i64 x_), (.int .i64 n_)] w0 (ret R) := by
  rw [← S33_eq] at h; exact vcFn_sound follows_ Try.func33 h

def S24 (t_ : (Option Addr)) (n_ : Int) (w0 : World) (R : Value → World → Prop) : Prop :=
 call Try.prog 34 [(.pointer t_)] (.one (.one (.int .i64))) w0 fun (x1 : Int) w2 =>
 call Try.prog 33 [(.int .i64 x1), (.int .i64 n_)] (.one (.one (.int .i64))) w2 fun (x3 : Int) w4 =>
 R (.int .i64 x3) w4
def H24 : Hints := ⟨[], [], [], []⟩
set_option maxRecDepth 100000 in
theorem S24_eq (t_ : (Option Addr)) (n_ : Int) (w0 : World) (R : Value → World → Prop) : vcFn Try.prog H24 Try.f24 [(.pointer t_), (.int .i64 n_)] w0 R = S24 t_ n_ w0 R := by kernel_rfl
set_option maxRecDepth 100000 in
theorem S24_calls (t_ : (Option Addr)) (n_ : Int) (w0 : World) (R : Value → World → Prop) (h : S24 t_ n_ w0 R) : Calls Try.prog 24 #[(.pointer t_), (.int .i64 n_)] w0 (ret R) := by
  rw [← S24_eq] at h; exact vcFn_sound follows_ Try.func24 h

def S22 (t_ : (Option Addr)) (lo_ : Int) (hi_ : Int) (w0 : World) (R : Value → World → Prop) : Prop :=
 z (IntKind.wrap .i64 (hi_ - lo_)) fun (z1 : Int) =>
 z (IntKind.wrap .i64 (z1 + 1)) fun (z2 : Int) =>
 call Try.prog 24 [(.pointer t_), (.int .i64 z2)] (.one (.one (.int .i64))) w0 fun (x3 : Int) w4 =>
 z (IntKind.wrap .i64 (lo_ + x3)) fun (z5 : Int) =>
 R (.int .i64 z5) w4
def H22 : Hints := ⟨[], [], [], []⟩
set_option maxRecDepth 100000 in
theorem S22_eq (t_ : (Option Addr)) (lo_ : Int) (hi_ : Int) (w0 : World) (R : Value → World → Prop) : vcFn Try.prog H22 Try.f22 [(.pointer t_), (.int .i64 lo_), (.int .i64 hi_)] w0 R = S22 t_ lo_ hi_ w0 R := by kernel_rfl
set_option maxRecDepth 100000 in
theorem S22_calls (t_ : (Option Addr)) (lo_ : Int) (hi_ : Int) (w0 : World) (R : Value → World → Prop) (h : S22 t_ lo_ hi_ w0 R) : Calls Try.prog 22 #[(.pointer t_), (.int .i64 lo_), (.int .i64 hi_)] w0 (ret R) := by
  rw [← S22_eq] at h; exact vcFn_sound follows_ Try.func22 h

def S23 (t_ : (Option Addr)) (l_a : Option Addr) (l_n : Nat) (l_c : Nat) (w0 : World) (R : Value → World → Prop) : Prop :=
 call Try.prog 24 [(.pointer t_), (.int .i64 ((l_n : Nat) : Int))] (.one (.one (.int .i64))) w0 fun (x1 : Int) w2 =>
 rdp Try.prog (Instr.indexAt 22 (.slice l_a l_n l_c) (.int .i64 x1)) (.one .addr) fun (x3 : Addr) =>
 rd Try.prog (Instr.loadAt 3 (.pointer (some x3))) (.one (.int .i64)) w2 fun (x4 : Int) =>
 R (.int .i64 x4) w2
def H23 : Hints := ⟨[], [], [], []⟩
set_option maxRecDepth 100000 in
theorem S23_eq (t_ : (Option Addr)) (l_a : Option Addr) (l_n : Nat) (l_c : Nat) (w0 : World) (R : Value → World → Prop) : vcFn Try.prog H23 Try.f23 [(.pointer t_), (.slice l_a l_n l_c)] w0 R = S23 t_ l_a l_n l_c w0 R := by kernel_rfl
set_option maxRecDepth 100000 in
theorem S23_calls (t_ : (Option Addr)) (l_a : Option Addr) (l_n : Nat) (l_c : Nat) (w0 : World) (R : Value → World → Prop) (h : S23 t_ l_a l_n l_c w0 R) : Calls Try.prog 23 #[(.pointer t_), (.slice l_a l_n l_c)] w0 (ret R) := by
  rw [← S23_eq] at h; exact vcFn_sound follows_ Try.func23 h

def S8 (t_ : (Option Addr)) (w0 : World) (R : Value → World → Prop) : Prop :=
 call Try.prog 22 [(.pointer t_), (.int .i64 1), (.int .i64 3)] (.one (.one (.int .i64))) w0 fun (x1 : Int) w2 =>
 loop (T := (Hd3 × Int × Unit)) ((none, 0, 0), x1, ()) w2 fun (again3 : (Hd3 × Int × Unit) → World → Prop) (s4 : (Hd3 × Int × Unit)) w5 => ∀ _ : Nat → Value,
 br (decide (s4.2.1 > 0)) (wr Try.prog (Instr.buildSlice 22 4 #[(0, (.int .i64 0)), (1, (.int .i64 1)), (2, (.int .i64 5)), (3, (.int .i64 (-2)))]) (.one .slice) w5 fun (x6 : Hd3) w7 =>
 call Try.prog 23 [(.pointer t_), (.slice x6.1 x6.2.1 x6.2.2)] (.one (.one (.int .i64))) w7 fun (x8 : Int) w9 =>
 wr Try.prog (Instr.buildSlice 22 1 #[(0, (.int .i64 x8))]) (.one .slice) w9 fun (x10 : Hd3) w11 =>
 wr Try.prog (Builtin.append_ #[22, 22] 22 #[(.slice s4.1.1 s4.1.2.1 s4.1.2.2), (.slice x10.1 x10.2.1 x10.2.2)]) (.one .slice) w11 fun (x12 : Hd3) w13 =>
 z (IntKind.wrap .i64 (s4.2.1 - 1)) fun (z14 : Int) =>
 again3 ((x12.1, x12.2.1, x12.2.2), z14, ()) w13)
 (R (.slice s4.1.1 s4.1.2.1 s4.1.2.2) w5)
def H8 : Hints := ⟨[(2, 0, [(3, (.one .slice)), (4, (.one (.int .i64)))])], [], [], []⟩
set_option maxRecDepth 100000 in
theorem S8_eq (t_ : (Option Addr)) (w0 : World) (R : Value → World → Prop) : vcFn Try.prog H8 Try.f8 [(.pointer t_)] w0 R = S8 t_ w0 R := by kernel_rfl
set_option maxRecDepth 100000 in
theorem S8_calls (t_ : (Option Addr)) (w0 : World) (R : Value → World → Prop) (h : S8 t_ w0 R) : Calls Try.prog 8 #[(.pointer t_)] w0 (ret R) := by
  rw [← S8_eq] at h; exact vcFn_sound follows_ Try.func8 h

def S9 (t_ : (Option Addr)) (keys_ : Int) (n_ : Int) (w0 : World) (R : Value → World → Prop) : Prop :=
 call Try.prog 22 [(.pointer t_), (.int .i64 1), (.int .i64 n_)] (.one (.one (.int .i64))) w0 fun (x1 : Int) w2 =>
 loop (T := (Hd3 × Int × Unit)) ((none, 0, 0), x1, ()) w2 fun (again3 : (Hd3 × Int × Unit) → World → Prop) (s4 : (Hd3 × Int × Unit)) w5 => ∀ _ : Nat → Value,
 br (decide (s4.2.1 > 0)) (join (T := (Hd3 × Unit)) (fun (s7 : (Hd3 × Unit)) w8 => ∀ _ : Nat → Value,
 z (IntKind.wrap .i64 (s4.2.1 - 1)) fun (z9 : Int) =>
 again3 ((s7.1.1, s7.1.2.1, s7.1.2.2), z9, ()) w8)
  fun (K6 : (Hd3 × Unit) → World → Prop) =>
 call Try.prog 22 [(.pointer t_), (.int .i64 1), (.int .i64 4)] (.one (.one (.int .i64))) w5 fun (x10 : Int) w11 =>
 loop (T := (Hd3 × Int × Unit)) ((none, 0, 0), x10, ()) w11 fun (again12 : (Hd3 × Int × Unit) → World → Prop) (s13 : (Hd3 × Int × Unit)) w14 => ∀ _ : Nat → Value,
 br (decide (s13.2.1 > 0)) (join (T := (Hd3 × Unit)) (fun (s16 : (Hd3 × Unit)) w17 => ∀ _ : Nat → Value,
 z (IntKind.wrap .i64 (s13.2.1 - 1)) fun (z18 : Int) =>
 again12 ((s16.1.1, s16.1.2.1, s16.1.2.2), z18, ()) w17)
  fun (K15 : (Hd3 × Unit) → World → Prop) =>
 call Try.prog 22 [(.pointer t_), (.int .i64 1), (.int .i64 3)] (.one (.one (.int .i64))) w14 fun (x19 : Int) w20 =>
 call Try.prog 24 [(.pointer t_), (.int .i64 keys_)] (.one (.one (.int .i64))) w20 fun (x21 : Int) w22 =>
 wr Try.prog (Instr.alloc 57 true (.tuple #[])) (.one .addr) w22 fun (x23 : Addr) w24 =>
 wu Try.prog (Instr.storeAt 57 (.pointer (some x23)) (.agg #[(.int .i64 x19), (.int .i64 x21), (.int .i64 0)])) w24 fun w25 =>
 join (T := (Unit)) (fun (_s27 : (Unit)) w28 => ∀ _ : Nat → Value,
 rd Try.prog (Instr.loadAt 57 (.pointer (some x23))) (.agg [(.int .i64), (.int .i64), (.int .i64)]) w28 fun (x29 : (Int × Int × Int × Unit)) =>
 wr Try.prog (Instr.buildSlice 54 1 #[(0, (.agg #[(.int .i64 x29.1), (.int .i64 x29.2.1), (.int .i64 x29.2.2.1)]))]) (.one .slice) w28 fun (x30 : Hd3) w31 =>
 wr Try.prog (Builtin.append_ #[54, 54] 54 #[(.slice s13.1.1 s13.1.2.1 s13.1.2.2), (.slice x30.1 x30.2.1 x30.2.2)]) (.one .slice) w31 fun (x32 : Hd3) w33 =>
 K15 ((x32.1, x32.2.1, x32.2.2), ()) w33)
  fun (K26 : (Unit) → World → Prop) =>
 rd Try.prog (Instr.loadAt 3 (.pointer (some x23))) (.one (.int .i64)) w25 fun (x34 : Int) =>
 br (x34 != 1) (wr Try.prog (Instr.buildSlice 22 5 #[(0, (.int .i64 1)), (1, (.int .i64 2)), (2, (.int .i64 3)), (3, (.int .i64 10)), (4, (.int .i64 (-1)))]) (.one .slice) w25 fun (x35 : Hd3) w36 =>
 call Try.prog 23 [(.pointer t_), (.slice x35.1 x35.2.1 x35.2.2)] (.one (.one (.int .i64))) w36 fun (x37 : Int) w38 =>
 wu Try.prog (Instr.storeAt 3 (.pointer (some (Addr.add x23 2))) (.int .i64 x37)) w38 fun w39 =>
 K26 (()) w39)
 (K26 (()) w25))
 (join (T := (Hd3 × Unit)) (fun (s41 : (Hd3 × Unit)) w42 => ∀ _ : Nat → Value,
 wr Try.prog (Instr.buildSlice 26 1 #[(0, (.slice s41.1.1 s41.1.2.1 s41.1.2.2))]) (.one .slice) w42 fun (x43 : Hd3) w44 =>
 wr Try.prog (Builtin.append_ #[26, 26] 26 #[(.slice s4.1.1 s4.1.2.1 s4.1.2.2), (.slice x43.1 x43.2.1 x43.2.2)]) (.one .slice) w44 fun (x45 : Hd3) w46 =>
 K6 ((x45.1, x45.2.1, x45.2.2), ()) w46)
  fun (K40 : (Hd3 × Unit) → World → Prop) =>
 call Try.prog 24 [(.pointer t_), (.int .i64 4)] (.one (.one (.int .i64))) w14 fun (x47 : Int) w48 =>
 br (x47 == 3) (wr Try.prog (Instr.buildSlice 22 3 #[(0, (.int .i64 4)), (1, (.int .i64 5)), (2, (.int .i64 5))]) (.one .slice) w48 fun (x49 : Hd3) w50 =>
 call Try.prog 23 [(.pointer t_), (.slice x49.1 x49.2.1 x49.2.2)] (.one (.one (.int .i64))) w50 fun (x51 : Int) w52 =>
 wr Try.prog (Instr.buildSlice 54 1 #[(0, (.agg #[(.int .i64 x51), (.int .i64 0), (.int .i64 0)]))]) (.one .slice) w52 fun (x53 : Hd3) w54 =>
 wr Try.prog (Builtin.append_ #[54, 54] 54 #[(.slice s13.1.1 s13.1.2.1 s13.1.2.2), (.slice x53.1 x53.2.1 x53.2.2)]) (.one .slice) w54 fun (x55 : Hd3) w56 =>
 K40 ((x55.1, x55.2.1, x55.2.2), ()) w56)
 (K40 ((s13.1.1, s13.1.2.1, s13.1.2.2), ()) w48)))
 (R (.slice s4.1.1 s4.1.2.1 s4.1.2.2) w5)
def H9 : Hints := ⟨[(2, 0, [(7, (.one .slice)), (8, (.one (.int .i64)))]), (2, 2, [(9, (.one .slice)), (10, (.one (.int .i64)))]), (0, 33, []), (1, 3, [(9, (.one .slice))]), (0, 44, [(9, (.one .slice))]), (1, 1, [(7, (.one .slice))])], [], [], []⟩
set_option maxRecDepth 100000 in
theorem S9_eq (t_ : (Option Addr)) (keys_ : Int) (n_ : Int) (w0 : World) (R : Value → World → Prop) : vcFn Try.prog H9 Try.f9 [(.pointer t_), (.int .i64 keys_), (.int .i64 n_)] w0 R = S9 t_ keys_ n_ w0 R := by kernel_rfl
set_option maxRecDepth 100000 in
theorem S9_calls (t_ : (Option Addr)) (keys_ : Int) (n_ : Int) (w0 : World) (R : Value → World → Prop) (h : S9 t_ keys_ n_ w0 R) : Calls Try.prog 9 #[(.pointer t_), (.int .i64 keys_), (.int .i64 n_)] w0 (ret R) := by
  rw [← S9_eq] at h; exact vcFn_sound follows_ Try.func9 h

def S11 (t_ : (Option Addr)) (n_ : Int) (most_ : Int) (w0 : World) (R : Value → World → Prop) : Prop :=
 z (IntKind.wrap .i64 (most_ + 1)) fun (z1 : Int) =>
 call Try.prog 24 [(.pointer t_), (.int .i64 z1)] (.one (.one (.int .i64))) w0 fun (x2 : Int) w3 =>
 loop (T := (Hd3 × Int × Unit)) ((none, 0, 0), x2, ()) w3 fun (again4 : (Hd3 × Int × Unit) → World → Prop) (s5 : (Hd3 × Int × Unit)) w6 => ∀ _ : Nat → Value,
 br (decide (s5.2.1 > 0)) (call Try.prog 22 [(.pointer t_), (.int .i64 0), (.int .i64 n_)] (.one (.one (.int .i64))) w6 fun (x7 : Int) w8 =>
 wr Try.prog (Instr.buildSlice 22 1 #[(0, (.int .i64 x7))]) (.one .slice) w8 fun (x9 : Hd3) w10 =>
 wr Try.prog (Builtin.append_ #[22, 22] 22 #[(.slice s5.1.1 s5.1.2.1 s5.1.2.2), (.slice x9.1 x9.2.1 x9.2.2)]) (.one .slice) w10 fun (x11 : Hd3) w12 =>
 z (IntKind.wrap .i64 (s5.2.1 - 1)) fun (z13 : Int) =>
 again4 ((x11.1, x11.2.1, x11.2.2), z13, ()) w12)
 (join (T := (Hd3 × Unit)) (fun (s15 : (Hd3 × Unit)) w16 => ∀ _ : Nat → Value,
 z (if 120 < ((s15.1.2.1 : Nat) : Int) then 120 else ((s15.1.2.1 : Nat) : Int)) fun (z17 : Int) =>
 rdp Try.prog (Instr.sliceAt 22 (.slice s15.1.1 s15.1.2.1 s15.1.2.2) none (some (.int .i64 z17)) none) (.one .slice) fun (x18 : Hd3) =>
 R (.slice x18.1 x18.2.1 x18.2.2) w16)
  fun (K14 : (Hd3 × Unit) → World → Prop) =>
 call Try.prog 24 [(.pointer t_), (.int .i64 3)] (.one (.one (.int .i64))) w6 fun (x19 : Int) w20 =>
 br (decide (x19 > 0)) (loop (T := (Hd3 × Int × Unit)) ((s5.1.1, s5.1.2.1, s5.1.2.2), 0, ()) w20 fun (again21 : (Hd3 × Int × Unit) → World → Prop) (s22 : (Hd3 × Int × Unit)) w23 => ∀ _ : Nat → Value,
 br (decide (s22.2.1 < 9)) (loop (T := (Hd3 × Int × Unit)) ((s22.1.1, s22.1.2.1, s22.1.2.2), 0, ()) w23 fun (again24 : (Hd3 × Int × Unit) → World → Prop) (s25 : (Hd3 × Int × Unit)) w26 => ∀ _ : Nat → Value,
 br (decide (s25.2.1 < n_)) (wr Try.prog (Instr.buildSlice 22 1 #[(0, (.int .i64 s25.2.1))]) (.one .slice) w26 fun (x27 : Hd3) w28 =>
 wr Try.prog (Builtin.append_ #[22, 22] 22 #[(.slice s25.1.1 s25.1.2.1 s25.1.2.2), (.slice x27.1 x27.2.1 x27.2.2)]) (.one .slice) w28 fun (x29 : Hd3) w30 =>
 z (IntKind.wrap .i64 (s25.2.1 + 1)) fun (z31 : Int) =>
 again24 ((x29.1, x29.2.1, x29.2.2), z31, ()) w30)
 (z (IntKind.wrap .i64 (s22.2.1 + 1)) fun (z32 : Int) =>
 again21 ((s25.1.1, s25.1.2.1, s25.1.2.2), z32, ()) w26))
 (K14 ((s22.1.1, s22.1.2.1, s22.1.2.2), ()) w23))
 (K14 ((s5.1.1, s5.1.2.1, s5.1.2.2), ()) w20))
def H11 : Hints := ⟨[(2, 0, [(7, (.one .slice)), (8, (.one (.int .i64)))]), (2, 2, [(7, (.one .slice)), (9, (.one (.int .i64)))]), (2, 4, [(7, (.one .slice)), (10, (.one (.int .i64)))]), (0, 27, [(7, (.one .slice))])], [], [], []⟩
set_option maxRecDepth 100000 in
theorem S11_eq (t_ : (Option Addr)) (n_ : Int) (most_ : Int) (w0 : World) (R : Value → World → Prop) : vcFn Try.prog H11 Try.f11 [(.pointer t_), (.int .i64 n_), (.int .i64 most_)] w0 R = S11 t_ n_ most_ w0 R := by kernel_rfl
set_option maxRecDepth 100000 in
theorem S11_calls (t_ : (Option Addr)) (n_ : Int) (most_ : Int) (w0 : World) (R : Value → World → Prop) (h : S11 t_ n_ most_ w0 R) : Calls Try.prog 11 #[(.pointer t_), (.int .i64 n_), (.int .i64 most_)] w0 (ret R) := by
  rw [← S11_eq] at h; exact vcFn_sound follows_ Try.func11 h

def S20 (a_a : Option Addr) (a_n : Nat) (a_c : Nat) (b_a : Option Addr) (b_n : Nat) (b_c : Nat) (w0 : World) (R : Value → World → Prop) : Prop :=
 br (((a_n : Nat) : Int) != ((b_n : Nat) : Int)) (R (.bool false) w0)
 (loop (T := (Int × Unit)) (0, ()) w0 fun (again1 : (Int × Unit) → World → Prop) (s2 : (Int × Unit)) w3 => ∀ _ : Nat → Value,
 br (decide (s2.1 < ((a_n : Nat) : Int))) (drw w3 fun w4 =>
 rdp Try.prog (Instr.indexAt 22 (.slice a_a a_n a_c) (.int .i64 s2.1)) (.one .addr) fun (x5 : Addr) =>
 rd Try.prog (Instr.loadAt 3 (.pointer (some x5))) (.one (.int .i64)) w4 fun (x6 : Int) =>
 rdp Try.prog (Instr.indexAt 22 (.slice b_a b_n b_c) (.int .i64 s2.1)) (.one .addr) fun (x7 : Addr) =>
 rd Try.prog (Instr.loadAt 3 (.pointer (some x7))) (.one (.int .i64)) w4 fun (x8 : Int) =>
 br (x6 != x8) (R (.bool false) w4)
 (z (IntKind.wrap .i64 (s2.1 + 1)) fun (z9 : Int) =>
 again1 (z9, ()) w4))
 (R (.bool true) w3))
def H20 : Hints := ⟨[(2, 0, [(5, (.one (.int .i64)))])], [(6, 8)], [], []⟩
set_option maxRecDepth 100000 in
theorem S20_eq (a_a : Option Addr) (a_n : Nat) (a_c : Nat) (b_a : Option Addr) (b_n : Nat) (b_c : Nat) (w0 : World) (R : Value → World → Prop) : vcFn Try.prog H20 Try.f20 [(.slice a_a a_n a_c), (.slice b_a b_n b_c)] w0 R = S20 a_a a_n a_c b_a b_n b_c w0 R := by kernel_rfl
set_option maxRecDepth 100000 in
theorem S20_calls (a_a : Option Addr) (a_n : Nat) (a_c : Nat) (b_a : Option Addr) (b_n : Nat) (b_c : Nat) (w0 : World) (R : Value → World → Prop) (h : S20 a_a a_n a_c b_a b_n b_c w0 R) : Calls Try.prog 20 #[(.slice a_a a_n a_c), (.slice b_a b_n b_c)] w0 (ret R) := by
  rw [← S20_eq] at h; exact vcFn_sound follows_ Try.func20 h

def S31 (l_a : Option Addr) (l_n : Nat) (l_c : Nat) (x_ : Int) (w0 : World) (R : Value → World → Prop) : Prop :=
 loop (T := (Int × Unit)) (0, ()) w0 fun (again1 : (Int × Unit) → World → Prop) (s2 : (Int × Unit)) w3 => ∀ _ : Nat → Value,
 br (decide (s2.1 < ((l_n : Nat) : Int))) (rdp Try.prog (Instr.indexAt 22 (.slice l_a l_n l_c) (.int .i64 s2.1)) (.one .addr) fun (x4 : Addr) =>
 rd Try.prog (Instr.loadAt 3 (.pointer (some x4))) (.one (.int .i64)) w3 fun (x5 : Int) =>
 br (x5 == x_) (R (.bool true) w3)
 (z (IntKind.wrap .i64 (s2.1 + 1)) fun (z6 : Int) =>
 again1 (z6, ()) w3))
 (R (.bool false) w3)
def H31 : Hints := ⟨[(2, 0, [(5, (.one (.int .i64)))])], [], [], []⟩
set_option maxRecDepth 100000 in
theorem S31_eq (l_a : Option Addr) (l_n : Nat) (l_c : Nat) (x_ : Int) (w0 : World) (R : Value → World → Prop) : vcFn Try.prog H31 Try.f31 [(.slice l_a l_n l_c), (.int .i64 x_)] w0 R = S31 l_a l_n l_c x_ w0 R := by kernel_rfl
set_option maxRecDepth 100000 in
theorem S31_calls (l_a : Option Addr) (l_n : Nat) (l_c : Nat) (x_ : Int) (w0 : World) (R : Value → World → Prop) (h : S31 l_a l_n l_c x_ w0 R) : Calls Try.prog 31 #[(.slice l_a l_n l_c), (.int .i64 x_)] w0 (ret R) := by
  rw [← S31_eq] at h; exact vcFn_sound follows_ Try.func31 h

def S30  (w0 : World) (R : Value → World → Prop) : Prop :=
 wr Try.prog (Instr.buildSlice 54 1 #[(0, (.agg #[(.int .i64 3), (.int .i64 0), (.int .i64 1)]))]) (.one .slice) w0 fun (x1 : Hd3) w2 =>
 wr Try.prog (Instr.buildSlice 26 2 #[(0, (.slice x1.1 x1.2.1 x1.2.2)), (1, (.slice x1.1 x1.2.1 x1.2.2))]) (.one .slice) w2 fun (x3 : Hd3) w4 =>
 R (.slice x3.1 x3.2.1 x3.2.2) w4
def H30 : Hints := ⟨[], [], [], []⟩
set_option maxRecDepth 100000 in
theorem S30_eq  (w0 : World) (R : Value → World → Prop) : vcFn Try.prog H30 Try.f30 [] w0 R = S30  w0 R := by kernel_rfl
set_option maxRecDepth 100000 in
theorem S30_calls  (w0 : World) (R : Value → World → Prop) (h : S30  w0 R) : Calls Try.prog 30 #[] w0 (ret R) := by
  rw [← S30_eq] at h; exact vcFn_sound follows_ Try.func30 h

def S13  (w0 : World) (R : Value → World → Prop) : Prop :=
 wr Try.prog (Instr.buildSlice 22 1 #[(0, (.int .i64 0))]) (.one .slice) w0 fun (x1 : Hd3) w2 =>
 call Try.prog 30 [] (.one (.one .slice)) w2 fun (x3 : Hd3) w4 =>
 wr Try.prog (Instr.buildSlice 22 5 #[(0, (.int .i64 0)), (1, (.int .i64 1)), (2, (.int .i64 0)), (3, (.int .i64 1)), (4, (.int .i64 1))]) (.one .slice) w4 fun (x5 : Hd3) w6 =>
 call Try.prog 10 [(.int .i64 3), (.slice x1.1 x1.2.1 x1.2.2), (.slice x3.1 x3.2.1 x3.2.2), (.slice x5.1 x5.2.1 x5.2.2)] (.many [(.agg [.slice, .slice]), (.one (.int .i64))]) w6 fun (x7 : ((Hd3 × Hd3 × Unit) × Int × Unit)) w8 =>
 wr Try.prog (Instr.alloc 30 true (.tuple #[])) (.one .addr) w8 fun (x9 : Addr) w10 =>
 wu Try.prog (Instr.storeAt 30 (.pointer (some x9)) (.agg #[(.slice x7.1.1.1 x7.1.1.2.1 x7.1.1.2.2), (.slice x7.1.2.1.1 x7.1.2.1.2.1 x7.1.2.1.2.2)])) w10 fun w11 =>
 wr Try.prog (Instr.buildSlice 22 1 #[(0, (.int .i64 0))]) (.one .slice) w11 fun (x12 : Hd3) w13 =>
 call Try.prog 30 [] (.one (.one .slice)) w13 fun (x14 : Hd3) w15 =>
 wr Try.prog (Instr.buildSlice 22 5 #[(0, (.int .i64 0)), (1, (.int .i64 1)), (2, (.int .i64 0)), (3, (.int .i64 1)), (4, (.int .i64 1))]) (.one .slice) w15 fun (x16 : Hd3) w17 =>
 call Try.prog 10 [(.int .i64 2), (.slice x12.1 x12.2.1 x12.2.2), (.slice x14.1 x14.2.1 x14.2.2), (.slice x16.1 x16.2.1 x16.2.2)] (.many [(.agg [.slice, .slice]), (.one (.int .i64))]) w17 fun (x18 : ((Hd3 × Hd3 × Unit) × Int × Unit)) w19 =>
 wr Try.prog (Instr.alloc 30 true (.tuple #[])) (.one .addr) w19 fun (x20 : Addr) w21 =>
 wu Try.prog (Instr.storeAt 30 (.pointer (some x20)) (.agg #[(.slice x18.1.1.1 x18.1.1.2.1 x18.1.1.2.2), (.slice x18.1.2.1.1 x18.1.2.1.2.1 x18.1.2.1.2.2)])) w21 fun w22 =>
 br (x7.2.1 == 0) (br (x18.2.1 == 0) (rd Try.prog (Instr.loadAt 30 (.pointer (some x9))) (.agg [.slice, .slice]) w22 fun (x23 : (Hd3 × Hd3 × Unit)) =>
 call Try.prog 21 [(.agg #[(.slice x23.1.1 x23.1.2.1 x23.1.2.2), (.slice x23.2.1.1 x23.2.1.2.1 x23.2.1.2.2)])] (.one (.one .slice)) w22 fun (x24 : Hd3) w25 =>
 wr Try.prog (Instr.buildSlice 22 1 #[(0, (.int .i64 2))]) (.one .slice) w25 fun (x26 : Hd3) w27 =>
 call Try.prog 20 [(.slice x24.1 x24.2.1 x24.2.2), (.slice x26.1 x26.2.1 x26.2.2)] (.one (.one .bool)) w27 fun (x28 : Bool) w29 =>
 br x28 (rd Try.prog (Instr.loadAt 30 (.pointer (some x20))) (.agg [.slice, .slice]) w29 fun (x30 : (Hd3 × Hd3 × Unit)) =>
 call Try.prog 21 [(.agg #[(.slice x30.1.1 x30.1.2.1 x30.1.2.2), (.slice x30.2.1.1 x30.2.1.2.1 x30.2.1.2.2)])] (.one (.one .slice)) w29 fun (x31 : Hd3) w32 =>
 wr Try.prog (Instr.buildSlice 22 1 #[(0, (.int .i64 1))]) (.one .slice) w32 fun (x33 : Hd3) w34 =>
 call Try.prog 20 [(.slice x31.1 x31.2.1 x31.2.2), (.slice x33.1 x33.2.1 x33.2.2)] (.one (.one .bool)) w34 fun (x35 : Bool) w36 =>
 br x35 (rd Try.prog (Instr.loadAt 28 (.pointer (some (Addr.add x20 1)))) (.one .slice) w36 fun (x37 : Hd3) =>
 R (.bool (((x37.2.1 : Nat) : Int) == 8)) w36)
 (R (.bool false) w36))
 (R (.bool false) w29))
 (R (.bool false) w22))
 (R (.bool false) w22)
def H13 : Hints := ⟨[], [], [], []⟩
set_option maxRecDepth 100000 in
theorem S13_eq  (w0 : World) (R : Value → World → Prop) : vcFn Try.prog H13 Try.f13 [] w0 R = S13  w0 R := by kernel_rfl
set_option maxRecDepth 100000 in
theorem S13_calls  (w0 : World) (R : Value → World → Prop) (h : S13  w0 R) : Calls Try.prog 13 #[] w0 (ret R) := by
  rw [← S13_eq] at h; exact vcFn_sound follows_ Try.func13 h

def S19 (h_0a : Option Addr) (h_0n : Nat) (h_0c : Nat) (h_1a : Option Addr) (h_1n : Nat) (h_1c : Nat) (w0 : World) (R : Value → World → Prop) : Prop :=
 wr Try.prog (Instr.box 30 (.agg #[(.slice h_0a h_0n h_0c), (.slice h_1a h_1n h_1c)])) (.one .addr) w0 fun (x1 : Addr) w2 =>
 rd Try.prog (Instr.loadAt 28 (.pointer (some (Addr.add x1 1)))) (.one .slice) w2 fun (x3 : Hd3) =>
 loop (T := (Hd3 × Int × Unit)) ((none, 0, 0), 0, ()) w2 fun (again4 : (Hd3 × Int × Unit) → World → Prop) (s5 : (Hd3 × Int × Unit)) w6 => ∀ _ : Nat → Value,
 br (decide (s5.2.1 < ((x3.2.1 : Nat) : Int))) (join (T := (Hd3 × Unit)) (fun (s8 : (Hd3 × Unit)) w9 => ∀ _ : Nat → Value,
 z (IntKind.wrap .i64 (s5.2.1 + 1)) fun (z10 : Int) =>
 again4 ((s8.1.1, s8.1.2.1, s8.1.2.2), z10, ()) w9)
  fun (K7 : (Hd3 × Unit) → World → Prop) =>
 rdp Try.prog (Instr.indexAt 28 (.slice x3.1 x3.2.1 x3.2.2) (.int .i64 s5.2.1)) (.one .addr) fun (x11 : Addr) =>
 rd Try.prog (Instr.loadAt 36 (.pointer (some x11))) (.agg [(.int .i64), (.int .i64), (.int .i64), (.int .i64), (.int .i64)]) w6 fun (x12 : (Int × Int × Int × Int × Int × Unit)) =>
 wr Try.prog (Instr.alloc 36 true (.tuple #[])) (.one .addr) w6 fun (x13 : Addr) w14 =>
 wu Try.prog (Instr.storeAt 36 (.pointer (some x13)) (.agg #[(.int .i64 x12.1), (.int .i64 x12.2.1), (.int .i64 x12.2.2.1), (.int .i64 x12.2.2.2.1), (.int .i64 x12.2.2.2.2.1)])) w14 fun w15 =>
 rd Try.prog (Instr.loadAt 3 (.pointer (some x13))) (.one (.int .i64)) w15 fun (x16 : Int) =>
 br (x16 == 3) (rd Try.prog (Instr.loadAt 3 (.pointer (some (Addr.add x13 1)))) (.one (.int .i64)) w15 fun (x17 : Int) =>
 wr Try.prog (Instr.buildSlice 22 1 #[(0, (.int .i64 x17))]) (.one .slice) w15 fun (x18 : Hd3) w19 =>
 wr Try.prog (Builtin.append_ #[22, 22] 22 #[(.slice s5.1.1 s5.1.2.1 s5.1.2.2), (.slice x18.1 x18.2.1 x18.2.2)]) (.one .slice) w19 fun (x20 : Hd3) w21 =>
 K7 ((x20.1, x20.2.1, x20.2.2), ()) w21)
 (K7 ((s5.1.1, s5.1.2.1, s5.1.2.2), ()) w15))
 (R (.slice s5.1.1 s5.1.2.1 s5.1.2.2) w6)
def H19 : Hints := ⟨[(2, 0, [(3, (.one .slice)), (9, (.one (.int .i64)))]), (1, 1, [(3, (.one .slice))])], [], [], []⟩
set_option maxRecDepth 100000 in
theorem S19_eq (h_0a : Option Addr) (h_0n : Nat) (h_0c : Nat) (h_1a : Option Addr) (h_1n : Nat) (h_1c : Nat) (w0 : World) (R : Value → World → Prop) : vcFn Try.prog H19 Try.f19 [(.agg #[(.slice h_0a h_0n h_0c), (.slice h_1a h_1n h_1c)])] w0 R = S19 h_0a h_0n h_0c h_1a h_1n h_1c w0 R := by kernel_rfl
set_option maxRecDepth 100000 in
theorem S19_calls (h_0a : Option Addr) (h_0n : Nat) (h_0c : Nat) (h_1a : Option Addr) (h_1n : Nat) (h_1c : Nat) (w0 : World) (R : Value → World → Prop) (h : S19 h_0a h_0n h_0c h_1a h_1n h_1c w0 R) : Calls Try.prog 19 #[(.agg #[(.slice h_0a h_0n h_0c), (.slice h_1a h_1n h_1c)])] w0 (ret R) := by
  rw [← S19_eq] at h; exact vcFn_sound follows_ Try.func19 h

def S14 (h_0a : Option Addr) (h_0n : Nat) (h_0c : Nat) (h_1a : Option Addr) (h_1n : Nat) (h_1c : Nat) (t_ : Int) (begins_ : Bool) (w0 : World) (R : Value → World → Prop) : Prop :=
 wr Try.prog (Instr.box 30 (.agg #[(.slice h_0a h_0n h_0c), (.slice h_1a h_1n h_1c)])) (.one .addr) w0 fun (x1 : Addr) w2 =>
 rd Try.prog (Instr.loadAt 28 (.pointer (some (Addr.add x1 1)))) (.one .slice) w2 fun (x3 : Hd3) =>
 loop (T := (Int × Unit)) (0, ()) w2 fun (again4 : (Int × Unit) → World → Prop) (s5 : (Int × Unit)) w6 => ∀ _ : Nat → Value,
 br (decide (s5.1 < ((x3.2.1 : Nat) : Int))) (join (T := (Unit)) (fun (_s8 : (Unit)) w9 => ∀ _ : Nat → Value,
 z (IntKind.wrap .i64 (s5.1 + 1)) fun (z10 : Int) =>
 again4 (z10, ()) w9)
  fun (K7 : (Unit) → World → Prop) =>
 rdp Try.prog (Instr.indexAt 28 (.slice x3.1 x3.2.1 x3.2.2) (.int .i64 s5.1)) (.one .addr) fun (x11 : Addr) =>
 rd Try.prog (Instr.loadAt 36 (.pointer (some x11))) (.agg [(.int .i64), (.int .i64), (.int .i64), (.int .i64), (.int .i64)]) w6 fun (x12 : (Int × Int × Int × Int × Int × Unit)) =>
 wr Try.prog (Instr.alloc 36 true (.tuple #[])) (.one .addr) w6 fun (x13 : Addr) w14 =>
 wu Try.prog (Instr.storeAt 36 (.pointer (some x13)) (.agg #[(.int .i64 x12.1), (.int .i64 x12.2.1), (.int .i64 x12.2.2.1), (.int .i64 x12.2.2.2.1), (.int .i64 x12.2.2.2.2.1)])) w14 fun w15 =>
 join (T := (Bool × Unit)) (fun (s17 : (Bool × Unit)) w18 => ∀ _ : Nat → Value,
 br s17.1 (R (.int .i64 s5.1) w18)
 (K7 (()) w18))
  fun (K16 : (Bool × Unit) → World → Prop) =>
 rd Try.prog (Instr.loadAt 3 (.pointer (some (Addr.add x13 1)))) (.one (.int .i64)) w15 fun (x19 : Int) =>
 br (x19 == t_) (br begins_ (rd Try.prog (Instr.loadAt 3 (.pointer (some x13))) (.one (.int .i64)) w15 fun (x20 : Int) =>
 br (x20 == 5) (K16 (true, ()) w15)
 (br (!begins_) (rd Try.prog (Instr.loadAt 3 (.pointer (some x13))) (.one (.int .i64)) w15 fun (x21 : Int) =>
 br (x21 == 3) (K16 (true, ()) w15)
 (rd Try.prog (Instr.loadAt 3 (.pointer (some x13))) (.one (.int .i64)) w15 fun (x22 : Int) =>
 K16 ((x22 == 4), ()) w15))
 (K16 (false, ()) w15)))
 (br (!begins_) (rd Try.prog (Instr.loadAt 3 (.pointer (some x13))) (.one (.int .i64)) w15 fun (x23 : Int) =>
 br (x23 == 3) (K16 (true, ()) w15)
 (rd Try.prog (Instr.loadAt 3 (.pointer (some x13))) (.one (.int .i64)) w15 fun (x24 : Int) =>
 K16 ((x24 == 4), ()) w15))
 (K16 (false, ()) w15)))
 (K16 (false, ()) w15))
 (rd Try.prog (Instr.loadAt 28 (.pointer (some (Addr.add x1 1)))) (.one .slice) w6 fun (x25 : Hd3) =>
 R (.int .i64 ((x25.2.1 : Nat) : Int)) w6)
def H14 : Hints := ⟨[(2, 0, [(12, (.one (.int .i64)))]), (3, 4, [(42, (.one .bool))]), (1, 1, [])], [], [], []⟩
set_option maxRecDepth 100000 in
theorem S14_eq (h_0a : Option Addr) (h_0n : Nat) (h_0c : Nat) (h_1a : Option Addr) (h_1n : Nat) (h_1c : Nat) (t_ : Int) (begins_ : Bool) (w0 : World) (R : Value → World → Prop) : vcFn Try.prog H14 Try.f14 [(.agg #[(.slice h_0a h_0n h_0c), (.slice h_1a h_1n h_1c)]), (.int .i64 t_), (.bool begins_)] w0 R = S14 h_0a h_0n h_0c h_1a h_1n h_1c t_ begins_ w0 R := by kernel_rfl
set_option maxRecDepth 100000 in
theorem S14_calls (h_0a : Option Addr) (h_0n : Nat) (h_0c : Nat) (h_1a : Option Addr) (h_1n : Nat) (h_1c : Nat) (t_ : Int) (begins_ : Bool) (w0 : World) (R : Value → World → Prop) (h : S14 h_0a h_0n h_0c h_1a h_1n h_1c t_ begins_ w0 R) : Calls Try.prog 14 #[(.agg #[(.slice h_0a h_0n h_0c), (.slice h_1a h_1n h_1c)]), (.int .i64 t_), (.bool begins_)] w0 (ret R) := by
  rw [← S14_eq] at h; exact vcFn_sound follows_ Try.func14 h

def S15 (h_0a : Option Addr) (h_0n : Nat) (h_0c : Nat) (h_1a : Option Addr) (h_1n : Nat) (h_1c : Nat) (t_ : Int) (w0 : World) (R : Value → World → Prop) : Prop :=
 wr Try.prog (Instr.box 30 (.agg #[(.slice h_0a h_0n h_0c), (.slice h_1a h_1n h_1c)])) (.one .addr) w0 fun (x1 : Addr) w2 =>
 rd Try.prog (Instr.loadAt 30 (.pointer (some x1))) (.agg [.slice, .slice]) w2 fun (x3 : (Hd3 × Hd3 × Unit)) =>
 call Try.prog 19 [(.agg #[(.slice x3.1.1 x3.1.2.1 x3.1.2.2), (.slice x3.2.1.1 x3.2.1.2.1 x3.2.1.2.2)])] (.one (.one .slice)) w2 fun (x4 : Hd3) w5 =>
 call Try.prog 31 [(.slice x4.1 x4.2.1 x4.2.2), (.int .i64 t_)] (.one (.one .bool)) w5 fun (x6 : Bool) w7 =>
 R (.bool x6) w7
def H15 : Hints := ⟨[], [], [], []⟩
set_option maxRecDepth 100000 in
theorem S15_eq (h_0a : Option Addr) (h_0n : Nat) (h_0c : Nat) (h_1a : Option Addr) (h_1n : Nat) (h_1c : Nat) (t_ : Int) (w0 : World) (R : Value → World → Prop) : vcFn Try.prog H15 Try.f15 [(.agg #[(.slice h_0a h_0n h_0c), (.slice h_1a h_1n h_1c)]), (.int .i64 t_)] w0 R = S15 h_0a h_0n h_0c h_1a h_1n h_1c t_ w0 R := by kernel_rfl
set_option maxRecDepth 100000 in
theorem S15_calls (h_0a : Option Addr) (h_0n : Nat) (h_0c : Nat) (h_1a : Option Addr) (h_1n : Nat) (h_1c : Nat) (t_ : Int) (w0 : World) (R : Value → World → Prop) (h : S15 h_0a h_0n h_0c h_1a h_1n h_1c t_ w0 R) : Calls Try.prog 15 #[(.agg #[(.slice h_0a h_0n h_0c), (.slice h_1a h_1n h_1c)]), (.int .i64 t_)] w0 (ret R) := by
  rw [← S15_eq] at h; exact vcFn_sound follows_ Try.func15 h

def S4 (t_a : Option Addr) (t_n : Nat) (t_c : Nat) (level_ : Int) (w0 : World) (R : Value → World → Prop) : Prop :=
 call Try.prog 7 [(.slice t_a t_n t_c)] (.one (.one .ptr)) w0 fun (x1 : (Option Addr)) w2 =>
 call Try.prog 8 [(.pointer x1)] (.one (.one .slice)) w2 fun (x3 : Hd3) w4 =>
 call Try.prog 9 [(.pointer x1), (.int .i64 ((x3.2.1 : Nat) : Int)), (.int .i64 4)] (.one (.one .slice)) w4 fun (x5 : Hd3) w6 =>
 z (IntKind.wrap .i64 level_) fun (z7 : Int) =>
 rdp Try.prog (cmpS .rem 3 (.tmp 24) (.const (.int .i64 3)) (.int .i64 z7) (.int .i64 3)) (.one (.int .i64)) fun (x8 : Int) =>
 z (IntKind.wrap .i64 (1 + x8)) fun (z9 : Int) =>
 call Try.prog 11 [(.pointer x1), (.int .i64 ((x5.2.1 : Nat) : Int)), (.int .i64 24)] (.one (.one .slice)) w6 fun (x10 : Hd3) w11 =>
 call Try.prog 10 [(.int .i64 z9), (.slice x3.1 x3.2.1 x3.2.2), (.slice x5.1 x5.2.1 x5.2.2), (.slice x10.1 x10.2.1 x10.2.2)] (.many [(.agg [.slice, .slice]), (.one (.int .i64))]) w11 fun (x12 : ((Hd3 × Hd3 × Unit) × Int × Unit)) w13 =>
 wr Try.prog (Instr.alloc 30 true (.tuple #[])) (.one .addr) w13 fun (x14 : Addr) w15 =>
 wu Try.prog (Instr.storeAt 30 (.pointer (some x14)) (.agg #[(.slice x12.1.1.1 x12.1.1.2.1 x12.1.1.2.2), (.slice x12.1.2.1.1 x12.1.2.1.2.1 x12.1.2.1.2.2)])) w15 fun w16 =>
 br (x12.2.1 != 0) (R (.bool false) w16)
 (rd Try.prog (Instr.loadAt 28 (.pointer (some (Addr.add x14 1)))) (.one .slice) w16 fun (x17 : Hd3) =>
 loop (T := (Int × Unit)) (0, ()) w16 fun (again18 : (Int × Unit) → World → Prop) (s19 : (Int × Unit)) w20 => ∀ _ : Nat → Value,
 br (decide (s19.1 < ((x17.2.1 : Nat) : Int))) (rdp Try.prog (Instr.indexAt 28 (.slice x17.1 x17.2.1 x17.2.2) (.int .i64 s19.1)) (.one .addr) fun (x21 : Addr) =>
 rd Try.prog (Instr.loadAt 36 (.pointer (some x21))) (.agg [(.int .i64), (.int .i64), (.int .i64), (.int .i64), (.int .i64)]) w20 fun (x22 : (Int × Int × Int × Int × Int × Unit)) =>
 wr Try.prog (Instr.alloc 36 true (.tuple #[])) (.one .addr) w20 fun (x23 : Addr) w24 =>
 wu Try.prog (Instr.storeAt 36 (.pointer (some x23)) (.agg #[(.int .i64 x22.1), (.int .i64 x22.2.1), (.int .i64 x22.2.2.1), (.int .i64 x22.2.2.2.1), (.int .i64 x22.2.2.2.2.1)])) w24 fun w25 =>
 z (IntKind.wrap .i64 (s19.1 + 1)) fun (z26 : Int) =>
 loop (T := (Int × Unit)) (z26, ()) w25 fun (again27 : (Int × Unit) → World → Prop) (s28 : (Int × Unit)) w29 => ∀ _ : Nat → Value,
 rd Try.prog (Instr.loadAt 28 (.pointer (some (Addr.add x14 1)))) (.one .slice) w29 fun (x30 : Hd3) =>
 br (decide (s28.1 < ((x30.2.1 : Nat) : Int))) (join (T := (Unit)) (fun (_s32 : (Unit)) w33 => ∀ _ : Nat → Value,
 z (IntKind.wrap .i64 (s28.1 + 1)) fun (z34 : Int) =>
 again27 (z34, ()) w33)
  fun (K31 : (Unit) → World → Prop) =>
 rd Try.prog (Instr.loadAt 28 (.pointer (some (Addr.add x14 1)))) (.one .slice) w29 fun (x35 : Hd3) =>
 rdp Try.prog (Instr.indexAt 28 (.slice x35.1 x35.2.1 x35.2.2) (.int .i64 s28.1)) (.one .addr) fun (x36 : Addr) =>
 rd Try.prog (Instr.loadAt 36 (.pointer (some x36))) (.agg [(.int .i64), (.int .i64), (.int .i64), (.int .i64), (.int .i64)]) w29 fun (x37 : (Int × Int × Int × Int × Int × Unit)) =>
 wr Try.prog (Instr.alloc 36 true (.tuple #[])) (.one .addr) w29 fun (x38 : Addr) w39 =>
 wu Try.prog (Instr.storeAt 36 (.pointer (some x38)) (.agg #[(.int .i64 x37.1), (.int .i64 x37.2.1), (.int .i64 x37.2.2.1), (.int .i64 x37.2.2.2.1), (.int .i64 x37.2.2.2.2.1)])) w39 fun w40 =>
 rd Try.prog (Instr.loadAt 3 (.pointer (some x23))) (.one (.int .i64)) w40 fun (x41 : Int) =>
 br (x41 != 2) (K31 (()) w40)
 (rd Try.prog (Instr.loadAt 3 (.pointer (some x38))) (.one (.int .i64)) w40 fun (x42 : Int) =>
 br (x42 != 2) (K31 (()) w40)
 (rd Try.prog (Instr.loadAt 3 (.pointer (some (Addr.add x23 2)))) (.one (.int .i64)) w40 fun (x43 : Int) =>
 rd Try.prog (Instr.loadAt 3 (.pointer (some (Addr.add x38 2)))) (.one (.int .i64)) w40 fun (x44 : Int) =>
 br (x43 != x44) (K31 (()) w40)
 (rd Try.prog (Instr.loadAt 3 (.pointer (some (Addr.add x23 1)))) (.one (.int .i64)) w40 fun (x45 : Int) =>
 rd Try.prog (Instr.loadAt 3 (.pointer (some (Addr.add x38 1)))) (.one (.int .i64)) w40 fun (x46 : Int) =>
 br (x45 == x46) (K31 (()) w40)
 (join (T := (Unit)) (fun (_s48 : (Unit)) w49 => ∀ _ : Nat → Value,
 drw w49 fun w50 => flEx fun F51 =>
 br (z9 == 2) (rd Try.prog (Instr.loadAt 30 (.pointer (some x14))) (.agg [.slice, .slice]) w50 fun (x52 : (Hd3 × Hd3 × Unit)) =>
 rd Try.prog (Instr.loadAt 3 (.pointer (some (Addr.add x23 1)))) (.one (.int .i64)) w50 fun (x53 : Int) =>
 flc bel w50 (fun _w55 => True) (fun w54 =>
   call Try.prog 15 [(.agg #[(.slice x52.1.1 x52.1.2.1 x52.1.2.2), (.slice x52.2.1.1 x52.2.1.2.1 x52.2.1.2.2)]), (.int .i64 x53)] (.one (.one .bool)) w54 fun (x56 : Bool) w57 =>
 (bel w54 w57 ∧ F51 6 [(.agg #[(.slice x52.1.1 x52.1.2.1 x52.1.2.2), (.slice x52.2.1.1 x52.2.1.2.1 x52.2.1.2.2)]), (.int .i64 x53)] (.bool x56) w57))
  fun (x58 : Bool) =>
 br x58 (rd Try.prog (Instr.loadAt 30 (.pointer (some x14))) (.agg [.slice, .slice]) w50 fun (x59 : (Hd3 × Hd3 × Unit)) =>
 rd Try.prog (Instr.loadAt 3 (.pointer (some (Addr.add x38 1)))) (.one (.int .i64)) w50 fun (x60 : Int) =>
 flc bel w50 (fun w62 => F51 6 [(.agg #[(.slice x52.1.1 x52.1.2.1 x52.1.2.2), (.slice x52.2.1.1 x52.2.1.2.1 x52.2.1.2.2)]), (.int .i64 x53)] (.bool x58) w62 ∧ True) (fun w61 =>
   call Try.prog 15 [(.agg #[(.slice x59.1.1 x59.1.2.1 x59.1.2.2), (.slice x59.2.1.1 x59.2.1.2.1 x59.2.1.2.2)]), (.int .i64 x60)] (.one (.one .bool)) w61 fun (x63 : Bool) w64 =>
 (bel w61 w64 ∧ F51 12 [(.agg #[(.slice x59.1.1 x59.1.2.1 x59.1.2.2), (.slice x59.2.1.1 x59.2.1.2.1 x59.2.1.2.2)]), (.int .i64 x60)] (.bool x63) w64))
  fun (x65 : Bool) =>
 br x65 (rd Try.prog (Instr.loadAt 30 (.pointer (some x14))) (.agg [.slice, .slice]) w50 fun (x66 : (Hd3 × Hd3 × Unit)) =>
 rd Try.prog (Instr.loadAt 3 (.pointer (some (Addr.add x23 1)))) (.one (.int .i64)) w50 fun (x67 : Int) =>
 flc bel w50 (fun w69 => F51 12 [(.agg #[(.slice x59.1.1 x59.1.2.1 x59.1.2.2), (.slice x59.2.1.1 x59.2.1.2.1 x59.2.1.2.2)]), (.int .i64 x60)] (.bool x65) w69 ∧ F51 6 [(.agg #[(.slice x52.1.1 x52.1.2.1 x52.1.2.2), (.slice x52.2.1.1 x52.2.1.2.1 x52.2.1.2.2)]), (.int .i64 x53)] (.bool x58) w69 ∧ True) (fun w68 =>
   call Try.prog 14 [(.agg #[(.slice x66.1.1 x66.1.2.1 x66.1.2.2), (.slice x66.2.1.1 x66.2.1.2.1 x66.2.1.2.2)]), (.int .i64 x67), (.bool false)] (.one (.one (.int .i64))) w68 fun (x70 : Int) w71 =>
 (bel w68 w71 ∧ F51 18 [(.agg #[(.slice x66.1.1 x66.1.2.1 x66.1.2.2), (.slice x66.2.1.1 x66.2.1.2.1 x66.2.1.2.2)]), (.int .i64 x67), (.bool false)] (.int .i64 x70) w71))
  fun (x72 : Int) =>
 rd Try.prog (Instr.loadAt 30 (.pointer (some x14))) (.agg [.slice, .slice]) w50 fun (x73 : (Hd3 × Hd3 × Unit)) =>
 rd Try.prog (Instr.loadAt 3 (.pointer (some (Addr.add x38 1)))) (.one (.int .i64)) w50 fun (x74 : Int) =>
 flc bel w50 (fun w76 => F51 18 [(.agg #[(.slice x66.1.1 x66.1.2.1 x66.1.2.2), (.slice x66.2.1.1 x66.2.1.2.1 x66.2.1.2.2)]), (.int .i64 x67), (.bool false)] (.int .i64 x72) w76 ∧ F51 12 [(.agg #[(.slice x59.1.1 x59.1.2.1 x59.1.2.2), (.slice x59.2.1.1 x59.2.1.2.1 x59.2.1.2.2)]), (.int .i64 x60)] (.bool x65) w76 ∧ F51 6 [(.agg #[(.slice x52.1.1 x52.1.2.1 x52.1.2.2), (.slice x52.2.1.1 x52.2.1.2.1 x52.2.1.2.2)]), (.int .i64 x53)] (.bool x58) w76 ∧ True) (fun w75 =>
   call Try.prog 14 [(.agg #[(.slice x73.1.1 x73.1.2.1 x73.1.2.2), (.slice x73.2.1.1 x73.2.1.2.1 x73.2.1.2.2)]), (.int .i64 x74), (.bool true)] (.one (.one (.int .i64))) w75 fun (x77 : Int) w78 =>
 (bel w75 w78 ∧ F51 22 [(.agg #[(.slice x73.1.1 x73.1.2.1 x73.1.2.2), (.slice x73.2.1.1 x73.2.1.2.1 x73.2.1.2.2)]), (.int .i64 x74), (.bool true)] (.int .i64 x77) w78))
  fun (x79 : Int) =>
 br (decide (x72 > x79)) (rd Try.prog (Instr.loadAt 30 (.pointer (some x14))) (.agg [.slice, .slice]) w50 fun (x80 : (Hd3 × Hd3 × Unit)) =>
 rd Try.prog (Instr.loadAt 3 (.pointer (some (Addr.add x38 1)))) (.one (.int .i64)) w50 fun (x81 : Int) =>
 flc bel w50 (fun w83 => F51 22 [(.agg #[(.slice x73.1.1 x73.1.2.1 x73.1.2.2), (.slice x73.2.1.1 x73.2.1.2.1 x73.2.1.2.2)]), (.int .i64 x74), (.bool true)] (.int .i64 x79) w83 ∧ F51 18 [(.agg #[(.slice x66.1.1 x66.1.2.1 x66.1.2.2), (.slice x66.2.1.1 x66.2.1.2.1 x66.2.1.2.2)]), (.int .i64 x67), (.bool false)] (.int .i64 x72) w83 ∧ F51 12 [(.agg #[(.slice x59.1.1 x59.1.2.1 x59.1.2.2), (.slice x59.2.1.1 x59.2.1.2.1 x59.2.1.2.2)]), (.int .i64 x60)] (.bool x65) w83 ∧ F51 6 [(.agg #[(.slice x52.1.1 x52.1.2.1 x52.1.2.2), (.slice x52.2.1.1 x52.2.1.2.1 x52.2.1.2.2)]), (.int .i64 x53)] (.bool x58) w83 ∧ True) (fun w82 =>
   call Try.prog 14 [(.agg #[(.slice x80.1.1 x80.1.2.1 x80.1.2.2), (.slice x80.2.1.1 x80.2.1.2.1 x80.2.1.2.2)]), (.int .i64 x81), (.bool false)] (.one (.one (.int .i64))) w82 fun (x84 : Int) w85 =>
 (bel w82 w85 ∧ F51 29 [(.agg #[(.slice x80.1.1 x80.1.2.1 x80.1.2.2), (.slice x80.2.1.1 x80.2.1.2.1 x80.2.1.2.2)]), (.int .i64 x81), (.bool false)] (.int .i64 x84) w85))
  fun (x86 : Int) =>
 rd Try.prog (Instr.loadAt 30 (.pointer (some x14))) (.agg [.slice, .slice]) w50 fun (x87 : (Hd3 × Hd3 × Unit)) =>
 rd Try.prog (Instr.loadAt 3 (.pointer (some (Addr.add x23 1)))) (.one (.int .i64)) w50 fun (x88 : Int) =>
 flend bel w50 (fun w90 => F51 29 [(.agg #[(.slice x80.1.1 x80.1.2.1 x80.1.2.2), (.slice x80.2.1.1 x80.2.1.2.1 x80.2.1.2.2)]), (.int .i64 x81), (.bool false)] (.int .i64 x86) w90 ∧ F51 22 [(.agg #[(.slice x73.1.1 x73.1.2.1 x73.1.2.2), (.slice x73.2.1.1 x73.2.1.2.1 x73.2.1.2.2)]), (.int .i64 x74), (.bool true)] (.int .i64 x79) w90 ∧ F51 18 [(.agg #[(.slice x66.1.1 x66.1.2.1 x66.1.2.2), (.slice x66.2.1.1 x66.2.1.2.1 x66.2.1.2.2)]), (.int .i64 x67), (.bool false)] (.int .i64 x72) w90 ∧ F51 12 [(.agg #[(.slice x59.1.1 x59.1.2.1 x59.1.2.2), (.slice x59.2.1.1 x59.2.1.2.1 x59.2.1.2.2)]), (.int .i64 x60)] (.bool x65) w90 ∧ F51 6 [(.agg #[(.slice x52.1.1 x52.1.2.1 x52.1.2.2), (.slice x52.2.1.1 x52.2.1.2.1 x52.2.1.2.2)]), (.int .i64 x53)] (.bool x58) w90 ∧ True) fun w89 =>
 call Try.prog 14 [(.agg #[(.slice x87.1.1 x87.1.2.1 x87.1.2.2), (.slice x87.2.1.1 x87.2.1.2.1 x87.2.1.2.2)]), (.int .i64 x88), (.bool true)] (.one (.one (.int .i64))) w89 fun (x91 : Int) w92 =>
 br (decide (x86 > x91)) (R (.bool false) w92)
 (K31 (()) w92))
 (flend bel w50 (fun w94 => F51 22 [(.agg #[(.slice x73.1.1 x73.1.2.1 x73.1.2.2), (.slice x73.2.1.1 x73.2.1.2.1 x73.2.1.2.2)]), (.int .i64 x74), (.bool true)] (.int .i64 x79) w94 ∧ F51 18 [(.agg #[(.slice x66.1.1 x66.1.2.1 x66.1.2.2), (.slice x66.2.1.1 x66.2.1.2.1 x66.2.1.2.2)]), (.int .i64 x67), (.bool false)] (.int .i64 x72) w94 ∧ F51 12 [(.agg #[(.slice x59.1.1 x59.1.2.1 x59.1.2.2), (.slice x59.2.1.1 x59.2.1.2.1 x59.2.1.2.2)]), (.int .i64 x60)] (.bool x65) w94 ∧ F51 6 [(.agg #[(.slice x52.1.1 x52.1.2.1 x52.1.2.2), (.slice x52.2.1.1 x52.2.1.2.1 x52.2.1.2.2)]), (.int .i64 x53)] (.bool x58) w94 ∧ True) fun w93 =>
 K31 (()) w93))
 (flend bel w50 (fun w96 => F51 12 [(.agg #[(.slice x59.1.1 x59.1.2.1 x59.1.2.2), (.slice x59.2.1.1 x59.2.1.2.1 x59.2.1.2.2)]), (.int .i64 x60)] (.bool x65) w96 ∧ F51 6 [(.agg #[(.slice x52.1.1 x52.1.2.1 x52.1.2.2), (.slice x52.2.1.1 x52.2.1.2.1 x52.2.1.2.2)]), (.int .i64 x53)] (.bool x58) w96 ∧ True) fun w95 =>
 K31 (()) w95))
 (flend bel w50 (fun w98 => F51 6 [(.agg #[(.slice x52.1.1 x52.1.2.1 x52.1.2.2), (.slice x52.2.1.1 x52.2.1.2.1 x52.2.1.2.2)]), (.int .i64 x53)] (.bool x58) w98 ∧ True) fun w97 =>
 K31 (()) w97))
 (K31 (()) w50))
  fun (K47 : (Unit) → World → Prop) =>
 br (z9 != 2) (rd Try.prog (Instr.loadAt 30 (.pointer (some x14))) (.agg [.slice, .slice]) w40 fun (x99 : (Hd3 × Hd3 × Unit)) =>
 rd Try.prog (Instr.loadAt 3 (.pointer (some (Addr.add x23 1)))) (.one (.int .i64)) w40 fun (x100 : Int) =>
 call Try.prog 14 [(.agg #[(.slice x99.1.1 x99.1.2.1 x99.1.2.2), (.slice x99.2.1.1 x99.2.1.2.1 x99.2.1.2.2)]), (.int .i64 x100), (.bool false)] (.one (.one (.int .i64))) w40 fun (x101 : Int) w102 =>
 br (decide (x101 > s28.1)) (R (.bool false) w102)
 (K47 (()) w102))
 (K47 (()) w40))))))
 (z (IntKind.wrap .i64 (s19.1 + 1)) fun (z103 : Int) =>
 again18 (z103, ()) w29))
 (call Try.prog 13 [] (.one (.one .bool)) w20 fun (x104 : Bool) w105 =>
 R (.bool x104) w105))
def H4 : Hints := ⟨[(2, 0, [(43, (.one (.int .i64)))]), (2, 2, [(13, (.one (.int .i64)))]), (0, 93, []), (1, 3, [])], [(18, 33)], [], []⟩
set_option maxRecDepth 100000 in
theorem S4_eq (t_a : Option Addr) (t_n : Nat) (t_c : Nat) (level_ : Int) (w0 : World) (R : Value → World → Prop) : vcFn Try.prog H4 Try.f4 [(.slice t_a t_n t_c), (.int .u8 level_)] w0 R = S4 t_a t_n t_c level_ w0 R := by kernel_rfl
set_option maxRecDepth 100000 in
theorem S4_calls (t_a : Option Addr) (t_n : Nat) (t_c : Nat) (level_ : Int) (w0 : World) (R : Value → World → Prop) (h : S4 t_a t_n t_c level_ w0 R) : Calls Try.prog 4 #[(.slice t_a t_n t_c), (.int .u8 level_)] w0 (ret R) := by
  rw [← S4_eq] at h; exact vcFn_sound follows_ Try.func4 h

end Go.Proofs

/- The tape; first values, programs and turns that are made. -/


namespace Go.Proofs.Ytcglflifaniolaa
open Go.RowKit Go.Q Go.V Go.Proofs.Sc

abbrev I64 (n : Int) : Prop := -9223372036854775808 ≤ n ∧ n ≤ 9223372036854775807
abbrev SlI (w : World) (h : Hdr) (xs : List Int) : Prop := Sl w h.1 h.2.1 h.2.2 1 (ints .i64 xs)
theorem Sl.pre {w : World} {a : Option Addr} {n c m : Nat} {xs : List Value} (S : Sl w a n c 1 xs) (hm : m ≤ n) : Sl w a m c 1 (xs.take m) := by
  have hl := S.len
  have hc := S.cap
  refine ⟨by rw [List.length_take]; omega, by omega, S.most, fun e => by have := S.nil' e; omega, fun j u hu => ?_⟩
  rw [List.getElem?_take] at hu
  split at hu
  · exact S.at' j u hu
  · cases hu
structure Tape (w : World) (tb : Addr) (l : Hdr) (L : List Int) (p : Nat) : Prop where
  box : Box w tb [.slice l.1 l.2.1 l.2.2, .int .i64 (p : Int)]
  sl : SlI w l L
  old : ∀ ad, l.1 = some ad → L ≠ [] → ad.block < tb.block
  i64 : ∀ x ∈ L, I64 x
  le : p ≤ L.length
  len : L.length ≤ 2000
theorem Tape.up {w w' : World} {tb : Addr} {l : Hdr} {L : List Int} {p : Nat} (h : Tape w tb l L p) (hb : bel w w') : Tape w' tb l L p := ⟨h.box.up hb, Sl.up h.sl hb, h.old, h.i64, h.le, h.len⟩
theorem Tape.put {w w' : World} {tb : Addr} {l : Hdr} {L : List Int} {p : Nat} {o : Option Nat} (h : Tape w tb l L p) (hg : w.grownBy w' o) (ho : ∀ k, o = some k → tb.block < k) : Tape w' tb l L p :=
  ⟨h.box.grown hg (fun e => by have := ho _ e.symm; omega), h.sl.grown hg (fun ad ha hx e => by have := h.old ad ha (by rintro rfl; exact hx rfl); have := ho _ e.symm; omega), h.old, h.i64, h.le, h.len⟩
theorem newF (l : Hdr) (L : List Int) (w : World) (H : SlI w l L) (hI : ∀ x ∈ L, I64 x) :
    call Try.prog 7 [.slice l.1 l.2.1 l.2.2] (.one (.one .ptr)) w (fun (x : Option Addr) w' => ∃ tb l' L', x = some tb ∧ tb.block = w.heap.size ∧ Tape w' tb l' L' 0 ∧ bel w w') := by
  refine call_of (S7_calls l.1 l.2.1 l.2.2 w _ ?_)
  unfold S7
  have hl := H.int
  have hcap := H.cap
  have hlt := H.lt
  refine z_eq (m := ((min l.2.1 2000 : Nat) : Int)) (by split <;> omega) ?_
  refine sl_to tyI (m := min l.2.1 2000) rfl (by omega) ?_
  refine wr_box fun tb w4 X h4 etb _ => ?_
  have S4 := Sl.pre (m := min l.2.1 2000) (H.up h4) (by omega)
  have et : List.take (min l.2.1 2000) (ints .i64 L) = ints .i64 (L.take (min l.2.1 2000)) := by simp [ints, List.map_take]
  rw [et] at S4
  exact ⟨some tb, rfl, tb, (l.1, min l.2.1 2000, l.2.2), L.take (min l.2.1 2000), rfl, etb, ⟨X, S4, fun ad ha hx => by have := hlt ad ha (by rintro e; cases L with | nil => simp at hx | cons y L => cases e); omega, fun x hx => hI x (List.mem_of_mem_take hx), Nat.zero_le _, by rw [List.length_take]; omega⟩, h4⟩
theorem rawF {w : World} {tb : Addr} {l : Hdr} {L : List Int} {p : Nat} (h : Tape w tb l L p) :
    call Try.prog 34 [.pointer (some tb)] (.one (.one (.int .i64))) w (fun (x : Int) w' => I64 x ∧ (∃ p', Tape w' tb l L p') ∧ w.grownBy w' (some tb.block)) := by
  refine call_of (S34_calls (some tb) w _ ?_)
  unfold S34
  have hl := h.sl.int
  have h2000 := h.len
  refine drw_mk fun w1 h1 _ => ?_
  replace h := h.up h1
  refine nn_mk rfl ?_
  refine rd_box (by kernel_rfl) h.box (i := 1) rfl rfl ?_
  refine nn_mk rfl ?_
  refine rd_box0 (by kernel_rfl) h.box rfl rfl ?_
  refine br_dec (fun e => ⟨(0 : Int), rfl, by omega, ⟨p, h⟩, grown_of_bel h1 _⟩) (fun e => ?_)
  dsimp only at e
  refine nn_mk rfl ?_
  refine rd_box (by kernel_rfl) h.box (i := 1) rfl rfl ?_
  refine z_i64 (by omega) ?_
  refine nn_mk rfl ?_
  refine wu_boxi h.box (by kernel_rfl) (by simp) rfl fun w10 X hg _ => ?_
  have X' : Box w10 tb [.slice l.1 l.2.1 l.2.2, .int .i64 ((p + 1 : Nat) : Int)] := X
  have h10 : Tape w10 tb l L (p + 1) := ⟨X', Sl.xg h.sl hg (fun ad ha hx => by have := h.old ad ha (by rintro rfl; exact hx rfl); omega), h.old, h.i64, by omega, h.len⟩
  refine drw_mk fun w11 h11 _ => ?_
  replace h10 := h10.up h11
  refine nn_mk rfl ?_
  refine rd_box0 (by kernel_rfl) h10.box rfl rfl ?_
  refine nn_mk rfl ?_
  refine rd_box (by kernel_rfl) h10.box (i := 1) rfl rfl ?_
  refine z_i64 (by omega) ?_
  refine at_int tyI (by kernel_rfl) h10.sl (j := p) (by omega) (by omega) fun x hx => ?_
  exact ⟨x, rfl, h.i64 x (List.mem_of_getElem? hx), ⟨_, h10⟩, ((grown_of_bel h1 _).trans hg).trans (grown_of_bel h11 _)⟩
theorem modF (x n : Int) (w : World) (hn : 1 ≤ n ∧ n ≤ 9223372036854775807) :
    call Try.prog 33 [.int .i64 x, .int .i64 n] (.one (.one (.int .i64))) w (fun (y : Int) w' => (0 ≤ y ∧ y < n) ∧ bel w w') := by
  refine call_of (S33_calls x n w _ ?_)
  unfold S33
  refine br_dec (fun e => by omega) (fun _ => ?_)
  refine rdp_rem (by omega) ?_
  have b1 := Int.tmod_lt_of_pos x (show 0 < n by omega)
  have b2 := Int.lt_tmod_of_pos x (show 0 < n by omega)
  refine br_dec (fun e2 => ?_) (fun e2 => ⟨_, rfl, ⟨by omega, by omega⟩, bel.refl _⟩)
  refine z_i64 (by omega) ?_
  exact ⟨_, rfl, ⟨by omega, by omega⟩, bel.refl _⟩
theorem nF {w : World} {tb : Addr} {l : Hdr} {L : List Int} {p : Nat} (n : Int) (h : Tape w tb l L p) (hn : 1 ≤ n ∧ n ≤ 9223372036854775807) :
    call Try.prog 24 [.pointer (some tb), .int .i64 n] (.one (.one (.int .i64))) w (fun (x : Int) w' => (0 ≤ x ∧ x < n) ∧ (∃ p', Tape w' tb l L p') ∧ w.grownBy w' (some tb.block)) := by
  refine call_of (S24_calls (some tb) n w _ ?_)
  unfold S24
  refine call_mono (rawF h) ?_
  rintro (x1 : Int) w2 ⟨_, ⟨p', h'⟩, g2⟩
  refine call_mono (modF x1 n w2 hn) ?_
  rintro (x3 : Int) w4 ⟨hx3, h4⟩
  exact ⟨x3, rfl, hx3, ⟨p', h'.up h4⟩, g2.trans (grown_of_bel h4 _)⟩
theorem rangeF {w : World} {tb : Addr} {l : Hdr} {L : List Int} {p : Nat} (lo hi : Int) (h : Tape w tb l L p) (hn : -1000000 ≤ lo ∧ lo ≤ hi ∧ hi ≤ 1000000) :
    call Try.prog 22 [.pointer (some tb), .int .i64 lo, .int .i64 hi] (.one (.one (.int .i64))) w (fun (x : Int) w' => (lo ≤ x ∧ x ≤ hi) ∧ (∃ p', Tape w' tb l L p') ∧ w.grownBy w' (some tb.block)) := by
  refine call_of (S22_calls (some tb) lo hi w _ ?_)
  unfold S22
  refine z_i64 (by omega) ?_
  refine z_i64 (by omega) ?_
  refine call_mono (nF (hi - lo + 1) h (by omega)) ?_
  rintro (x3 : Int) w4 ⟨hx, ht, g4⟩
  refine z_i64 (by omega) ?_
  exact ⟨_, rfl, by omega, ht, g4⟩

structure TapeOn (tb : Addr) (l : Hdr) (L : List Int) (w w' : World) : Prop where
  ex : ∃ p', Tape w' tb l L p'
  g : w.grownBy w' (some tb.block)
theorem TapeOn.up {tb : Addr} {l : Hdr} {L : List Int} {w w' w'' : World} (h : TapeOn tb l L w w') (hb : bel w' w'') : TapeOn tb l L w w'' := ⟨by obtain ⟨p, h1⟩ := h.ex; exact ⟨p, h1.up hb⟩, h.g.trans (grown_of_bel hb _)⟩
theorem TapeOn.trans {tb : Addr} {l : Hdr} {L : List Int} {w w' w'' : World} (h : TapeOn tb l L w w') (h' : TapeOn tb l L w' w'') : TapeOn tb l L w w'' := ⟨h'.ex, h.g.trans h'.g⟩
theorem TapeOn.put {tb : Addr} {l : Hdr} {L : List Int} {w w' w'' : World} {o : Option Nat} (h : TapeOn tb l L w w') (htb : tb.block < w.heap.size) (hg : w'.grownBy w'' o) (ho : ∀ k, o = some k → w.heap.size ≤ k) : TapeOn tb l L w w'' := by
  obtain ⟨p, h1⟩ := h.ex
  exact ⟨⟨p, h1.put hg fun k hk => Nat.lt_of_lt_of_le htb (ho k hk)⟩, xg_put h.g hg fun k hk => .inl (ho k hk)⟩
theorem pickF {w : World} {tb : Addr} {l : Hdr} {L : List Int} {p : Nat} {q : Hdr} {xs : List Int} (ht : Tape w tb l L p) (S : SlI w q xs) (hq : ∀ ad, q.1 = some ad → ad.block ≠ tb.block) (h0 : 0 < xs.length) :
    call Try.prog 23 [.pointer (some tb), .slice q.1 q.2.1 q.2.2] (.one (.one (.int .i64))) w (fun (x : Int) w' => x ∈ xs ∧ (∃ p', Tape w' tb l L p') ∧ w.grownBy w' (some tb.block)) := by
  refine call_of (S23_calls (some tb) q.1 q.2.1 q.2.2 w _ ?_)
  unfold S23
  have hl := S.int
  have hle := S.le
  refine call_mono (nF ((q.2.1 : Nat) : Int) ht (by omega)) ?_
  rintro (x1 : Int) w2 ⟨hx1, ht2, g2⟩
  refine at_int tyI (by kernel_rfl) (Sl.xg S g2 fun ad ha _ => hq ad ha) (j := x1.toNat) (by omega) (by omega) fun x hx => ?_
  exact ⟨x, rfl, List.mem_of_getElem? hx, ht2, g2⟩
theorem fillI4 (a b c d : Int) : Instr.fill (fun i => some (i * 1, 1)) ((Array.range (4 * 1)).map ((Value.int .i64 0).cells[· % (Value.int .i64 0).cells.size]!)) (#[(0, .int .i64 a), (1, .int .i64 b), (2, .int .i64 c), (3, .int .i64 d)] : Array (Nat × Value)).toList = some #[.int .i64 a, .int .i64 b, .int .i64 c, .int .i64 d] := by kernel_rfl
theorem fillI5 (a b c d e : Int) : Instr.fill (fun i => some (i * 1, 1)) ((Array.range (5 * 1)).map ((Value.int .i64 0).cells[· % (Value.int .i64 0).cells.size]!)) (#[(0, .int .i64 a), (1, .int .i64 b), (2, .int .i64 c), (3, .int .i64 d), (4, .int .i64 e)] : Array (Nat × Value)).toList = some #[.int .i64 a, .int .i64 b, .int .i64 c, .int .i64 d, .int .i64 e] := by kernel_rfl
theorem fillI3 (a b c : Int) : Instr.fill (fun i => some (i * 1, 1)) ((Array.range (3 * 1)).map ((Value.int .i64 0).cells[· % (Value.int .i64 0).cells.size]!)) (#[(0, .int .i64 a), (1, .int .i64 b), (2, .int .i64 c)] : Array (Nat × Value)).toList = some #[.int .i64 a, .int .i64 b, .int .i64 c] := by kernel_rfl
theorem ints_snoc (xs : List Int) (x : Int) : ints .i64 xs ++ [.int .i64 x] = ints .i64 (xs ++ [x]) := by unfold ints; rw [List.map_append]; rfl
theorem startF {w : World} {tb : Addr} {l : Hdr} {L : List Int} {p : Nat} (ht : Tape w tb l L p) :
    call Try.prog 8 [.pointer (some tb)] (.one (.one .slice)) w (fun (x : Hdr) w' => ∃ xs, Own w' w.heap.size 3 1 x.1 x.2.1 x.2.2 (ints .i64 xs) ∧ (1 ≤ xs.length ∧ xs.length ≤ 3) ∧ (∀ y ∈ xs, -10 ≤ y ∧ y ≤ 10) ∧ TapeOn tb l L w w') := by
  refine call_of (S8_calls (some tb) w _ ?_)
  unfold S8
  have hlt := ht.box.lt
  refine call_mono (rangeF 1 3 ht (by omega)) ?_
  rintro (x1 : Int) w2 ⟨hx1, ht2, g2⟩
  have T2 : TapeOn tb l L w w2 := ⟨ht2, g2⟩
  obtain ⟨k, rfl⟩ : ∃ k : Nat, x1 = (k : Int) := ⟨x1.toNat, by omega⟩
  refine loop_gh (G := Nat) (fun j s w' => ∃ (o : Hdr) (xs : List Int), s = ((o.1, o.2.1, o.2.2), (j : Int), ()) ∧ xs.length + j = k ∧ (∀ y ∈ xs, -10 ≤ y ∧ y ≤ 10) ∧ Own w' w.heap.size 3 1 o.1 o.2.1 o.2.2 (ints .i64 xs) ∧ TapeOn tb l L w w') (fun j => j) k
    ⟨(none, 0, 0), [], rfl, by simp, (fun y hy => by cases hy), Own.nil _ _ _ _, T2⟩ ?_
  rintro j _ w5 ⟨o, xs, rfl, hj, hxs, O, T5⟩ again hag _
  have s5 := T5.g.size
  have ol := O.sl.int
  refine br_dec (fun e => ?_) (fun e => ?_)
  · dsimp only at e
    refine wr_lit tyI #[.int .i64 0, .int .i64 1, .int .i64 5, .int .i64 (-2)] (fillI4 0 1 5 (-2)) (by omega) (by omega) rfl (by unfold maxLen; omega) fun ad w7 OL h7 had _ => ?_
    obtain ⟨p5, t5⟩ := T5.ex
    refine call_mono (pickF (q := (some ad, 4, 4)) (xs := [0, 1, 5, -2]) (t5.up h7) (OL w5.heap.size (Nat.le_refl _)).sl (fun ad' ha => by injection ha with ha; subst ha; have := t5.box.lt; omega) (by decide)) ?_
    rintro (x8 : Int) w9 ⟨hx8, t9, g9⟩
    have O9 : Own w9 w.heap.size 3 1 o.1 o.2.1 o.2.2 (ints .i64 xs) := Own.xg (O.kept h7) g9 hlt
    have T9 : TapeOn tb l L w w9 := (T5.up h7).trans ⟨t9, g9⟩
    have hb8 : -10 ≤ x8 ∧ x8 ≤ 10 := by
      simp only [List.mem_cons, List.not_mem_nil, or_false] at hx8
      omega
    refine wr_app1 tyI O9 (by have := T9.g.size; omega) rfl (by omega) (by omega) rfl rfl (by omega) (by unfold maxLen; omega) fun a' c' w13 O' hg _ _ => ?_
    refine z_i64 (by dsimp only; omega) ?_
    have e1 : ((j : Int) - 1) = ((j - 1 : Nat) : Int) := by omega
    refine hag (j - 1) _ _ ⟨(a', o.2.1 + 1, c'), xs ++ [x8], by rw [← e1], by rw [List.length_append, List.length_singleton]; omega, fun y hy => ?_, by rw [← ints_snoc]; exact O', T9.put hlt hg fun b hb => (O9.lt b hb).1⟩ (by omega)
    rcases List.mem_append.1 hy with hy | hy
    · exact hxs y hy
    · simp at hy; subst hy; exact hb8
  · dsimp only at e
    exact ⟨o, rfl, xs, O, by omega, hxs, T5⟩
structure GP (K : Nat) (p : List Sp) : Prop where
  len : p.length ≤ 5
  wlen : (wholeP p).length ≤ 5
  vp : VP K p
theorem RightS.any {K : Nat} {x : Sp} {a b : Prop} (h : RightS K x a) (h3 : x.kind ≤ 3) : RightS K x b := ⟨h.lo, h.hi, h.r, h.w, fun q => by omega⟩
structure MP (K : Nat) (p : List Sp) : Prop where
  st : ∀ x ∈ p, RightS K x False ∧ x.kind ≤ 3
theorem MP.snoc {K : Nat} {p : List Sp} {x : Sp} (h : MP K p) (hx : RightS K x False ∧ x.kind ≤ 3) : MP K (p ++ [x]) := ⟨fun y hy => by
  rcases List.mem_append.1 hy with hy | hy
  · exact h.st y hy
  · simp at hy; subst hy; exact hx⟩
theorem MP.gp {K : Nat} {p : List Sp} (h : MP K p) (hl : p.length ≤ 4) : GP K p := by
  refine ⟨by omega, ?_, ⟨by omega, fun i x hx => (h.st x (List.mem_of_getElem? hx)).1.any (h.st x (List.mem_of_getElem? hx)).2⟩⟩
  unfold wholeP
  cases hg : p.getLast? with
  | none => exact Nat.le_of_ble_eq_true rfl
  | some y =>
    dsimp only
    split
    · omega
    · rw [List.length_append, List.length_singleton]; omega
theorem MP.gpe {K : Nat} {p : List Sp} {x : Sp} (h : MP K p) (hl : p.length ≤ 4) (hx : (x.kind = 4 ∨ x.kind = 5) ∧ x.key = 0 ∧ x.val = 0) : GP K (p ++ [x]) := by
  have hlen : (p ++ [x]).length = p.length + 1 := by rw [List.length_append, List.length_singleton]
  refine ⟨by omega, ?_, ⟨by omega, fun i y hy => ?_⟩⟩
  · unfold wholeP
    rw [show (p ++ [x]).getLast? = some x by simp]
    dsimp only
    rw [if_pos hx.1]; omega
  · rcases Nat.lt_or_ge i p.length with q | q
    · rw [List.getElem?_append_left q] at hy
      exact (h.st y (List.mem_of_getElem? hy)).1.any (h.st y (List.mem_of_getElem? hy)).2
    · have hi := (List.getElem?_eq_some_iff.1 hy).1
      have hip : i = p.length := by omega
      subst hip
      rw [List.getElem?_append_right (Nat.le_refl _), Nat.sub_self] at hy
      cases hy
      exact ⟨by omega, by omega, fun q => by omega, fun q => by omega, fun _ => ⟨by omega, hx.2⟩⟩
structure OP (w : World) (B : Nat) (h : Hdr) (P : List (List Sp)) (phs : List Hdr) : Prop where
  th : Own w B 54 1 h.1 h.2.1 h.2.2 (phs.map hv)
  len : phs.length = P.length
  rows : ∀ (i : Nat) x p, phs[i]? = some x → P[i]? = some p → Own w B 57 3 x.1 x.2.1 x.2.2 (p.flatMap encS)
theorem OP.at' {w : World} {B : Nat} {h : Hdr} {P : List (List Sp)} {phs : List Hdr} (H : OP w B h P phs) : ProgsAt w h P phs := ⟨H.th.sl, H.len, fun i x p h1 h2 => (H.rows i x p h1 h2).sl⟩
theorem OP.keep {w w' : World} {B : Nat} {h : Hdr} {P : List (List Sp)} {phs : List Hdr} {o : Option Nat} (H : OP w B h P phs) (hg : w.grownBy w' o) (ho : ∀ b, o = some b → b < B ∨ w.heap.size ≤ b) : OP w' B h P phs := by
  have key : ∀ {e sz a n c xs}, Own w B e sz a n c xs → Own w' B e sz a n c xs := fun {e sz a n c xs} O => O.keptBy hg (by
    cases hb : blk a with
    | none => exact .inl rfl
    | some b => exact .inr fun q => by have := O.lt b hb; rcases ho b q.symm with z | z <;> omega)
  exact ⟨key H.th, H.len, fun i x p h1 h2 => key (H.rows i x p h1 h2)⟩
theorem OP.keep' {w0 w w' : World} {B : Nat} {h : Hdr} {P : List (List Sp)} {phs : List Hdr} {o : Option Nat} (H : OP w B h P phs) (hg : w.grownBy w' o) (H0 : OP w0 B h P phs) (ho : ∀ b, o = some b → w0.heap.size ≤ b) : OP w' B h P phs := by
  have key : ∀ {e sz a n c xs}, Own w B e sz a n c xs → Own w0 B e sz a n c xs → Own w' B e sz a n c xs := fun {e sz a n c xs} O O0 => O.keptBy hg (by
    cases hb : blk a with
    | none => exact .inl rfl
    | some b => exact .inr fun q => by have := (O0.lt b hb).2; have := ho b q.symm; omega)
  exact ⟨key H.th H0.th, H.len, fun i x p h1 h2 => key (H.rows i x p h1 h2) (H0.rows i x p h1 h2)⟩
theorem snoc_at {α : Type} {l : List α} {a x : α} {i : Nat} (h : (l ++ [a])[i]? = some x) : (i < l.length ∧ l[i]? = some x) ∨ (i = l.length ∧ x = a) := by
  rcases Nat.lt_or_ge i l.length with z | z
  · rw [List.getElem?_append_left z] at h; exact .inl ⟨z, h⟩
  · rw [List.getElem?_append_right z] at h
    have e : i - l.length = 0 := by
      rcases Nat.eq_zero_or_pos (i - l.length) with e | e
      · exact e
      · rw [List.getElem?_eq_none (by simp; omega)] at h; cases h
    rw [e] at h; cases h
    exact .inr ⟨by omega, rfl⟩
theorem OP.push {w : World} {B : Nat} {h x : Hdr} {P : List (List Sp)} {phs : List Hdr} {p : List Sp} (H : OP w B h P phs) (O : Own w B 57 3 x.1 x.2.1 x.2.2 (p.flatMap encS)) (hb : B ≤ w.heap.size) (hl : P.length ≤ 1000) {K : Hdr → World → Prop}
    (hK : ∀ h' w', OP w' B h' (P ++ [p]) (phs ++ [x]) → w.grownBy w' (blk h.1) → K h' w') :
    wr Try.prog (Instr.buildSlice 26 1 #[(0, .slice x.1 x.2.1 x.2.2)]) (.one .slice) w fun (y : Hdr) w1 => wr Try.prog (Builtin.append_ #[26, 26] 26 #[.slice h.1 h.2.1 h.2.2, .slice y.1 y.2.1 y.2.2]) (.one .slice) w1 K := by
  have hl' := H.at'.hn
  have ap : ∀ {n c xs a}, Own w B 57 3 a n c xs → blk a = none ∨ blk a ≠ blk h.1 := fun {n c xs a} Q => by
    cases hk : blk a with
    | none => exact .inl rfl
    | some k => exact .inr fun e => Own.apart H.th Q (by decide) k e.symm hk
  refine wr_app1 tyP H.th hb rfl (by omega) (by omega) rfl rfl (by omega) (by unfold maxLen; omega) fun a' c' w' O' hg _ _ => ?_
  refine hK (a', h.2.1 + 1, c') w' ⟨by rw [List.map_append]; exact O', by simp [H.len], fun i y q hy hq => ?_⟩ hg
  rcases snoc_at hy with ⟨z, hy⟩ | ⟨z, qy⟩
  · rw [List.getElem?_append_left (by rw [← H.len]; exact z)] at hq
    have Q := H.rows i y q hy hq
    exact Q.keptBy hg (ap Q)
  · rw [z, H.len, List.getElem?_append_right (Nat.le_refl _), Nat.sub_self] at hq
    cases hq
    rw [qy]
    exact O.keptBy hg (ap O)
set_option maxHeartbeats 3200000 in
theorem programsF {w : World} {tb : Addr} {l : Hdr} {L : List Int} {p0 : Nat} (ht : Tape w tb l L p0) {K n : Nat} (hK1 : 1 ≤ K ∧ K ≤ 3) (hn : 1 ≤ n ∧ n ≤ 5) :
    call Try.prog 9 [.pointer (some tb), .int .i64 ((K : Nat) : Int), .int .i64 ((n : Nat) : Int)] (.one (.one .slice)) w (fun (x : Hdr) w' => ∃ P phs, OP w' w.heap.size x P phs ∧ (1 ≤ P.length ∧ P.length ≤ n) ∧ (∀ p ∈ P, GP K p) ∧ TapeOn tb l L w w') := by
  refine call_of (S9_calls (some tb) K n w _ ?_)
  unfold S9
  have hlt := ht.box.lt
  refine call_mono (rangeF 1 n ht (by omega)) ?_
  rintro (x1 : Int) w2 ⟨hx1, ht2, g2⟩
  have T2 : TapeOn tb l L w w2 := ⟨ht2, g2⟩
  obtain ⟨k, rfl⟩ : ∃ k : Nat, x1 = (k : Int) := ⟨x1.toNat, by omega⟩
  refine loop_gh (G := Nat) (fun j s w' => ∃ (o : Hdr) (P : List (List Sp)) (phs : List Hdr), s = ((o.1, o.2.1, o.2.2), (j : Int), ()) ∧ P.length + j = k ∧ (∀ p ∈ P, GP K p) ∧ OP w' w.heap.size o P phs ∧ TapeOn tb l L w w') (fun j => j) k
    ⟨(none, 0, 0), [], [], rfl, by simp, (fun y hy => by cases hy), ⟨Own.nil _ _ _ _, rfl, fun i x p h => by simp at h⟩, T2⟩ ?_
  rintro j _ w5 ⟨o, P, phs, rfl, hj, hP, O, T5⟩ again hag _
  refine br_dec (fun e => ?_) (fun e => ?_)
  case refine_2 =>
    dsimp only at e
    exact ⟨o, rfl, P, phs, O, by omega, hP, T5⟩
  dsimp only at e
  refine join_mk (fun (z : Hdr × Unit) w' => ∃ (P' : List (List Sp)) (phs' : List Hdr), P'.length + (j - 1) = k ∧ (∀ p ∈ P', GP K p) ∧ OP w' w.heap.size z.1 P' phs' ∧ TapeOn tb l L w w') (fun K6 hK6 => ?_) (fun z w' q => ?_)
  case refine_2 =>
    obtain ⟨P', phs', q1, q2, q3, q4⟩ := q
    intro _
    refine z_i64 (by dsimp only; omega) ?_
    have e1 : ((j : Int) - 1) = ((j - 1 : Nat) : Int) := by omega
    exact hag (j - 1) _ _ ⟨z.1, P', phs', by rw [← e1], q1, q2, q3, q4⟩ (by omega)
  obtain ⟨p5, t5⟩ := T5.ex
  refine call_mono (rangeF 1 4 t5 (by omega)) ?_
  rintro (x10 : Int) w11 ⟨hx10, ht11, g11⟩
  have T11 : TapeOn tb l L w w11 := T5.trans ⟨ht11, g11⟩
  have O11 := O.keep g11 (fun b hb => .inl (by injection hb with hb; omega))
  have s11 := T11.g.size
  have h511 := g11.size
  have s5 := T5.g.size
  obtain ⟨k2, rfl⟩ : ∃ k : Nat, x10 = (k : Int) := ⟨x10.toNat, by omega⟩
  -- what stays while a program is made
  refine loop_gh (G := Nat) (fun i s w' => ∃ (q : Hdr) (p : List Sp), s = ((q.1, q.2.1, q.2.2), (i : Int), ()) ∧ p.length + i = k2 ∧ MP K p ∧ Own w' w11.heap.size 57 3 q.1 q.2.1 q.2.2 (p.flatMap encS) ∧ TapeOn tb l L w w' ∧ OP w' w.heap.size o P phs ∧ w11.heap.size ≤ w'.heap.size) (fun i => i) k2
    ⟨(none, 0, 0), [], rfl, by simp, ⟨fun y hy => by cases hy⟩, Own.nil _ _ _ _, T11, O11, Nat.le_refl _⟩ ?_
  rintro i _ w14 ⟨q, p, rfl, hi, hMP, Q, T14, O14, s14⟩ again2 hag2 _
  have ql := Q.1
  rw [flat_len encS_len] at ql
  have htb : tb.block < w11.heap.size := by omega
  obtain ⟨p14, t14⟩ := T14.ex
  refine br_dec (fun e2 => ?_) (fun e2 => ?_)
  · dsimp only at e2
    refine join_mk (fun (z : Hdr × Unit) w' => ∃ p' : List Sp, p'.length + (i - 1) = k2 ∧ MP K p' ∧ Own w' w11.heap.size 57 3 z.1.1 z.1.2.1 z.1.2.2 (p'.flatMap encS) ∧ TapeOn tb l L w w' ∧ OP w' w.heap.size o P phs ∧ w11.heap.size ≤ w'.heap.size) (fun K15 hK15 => ?_) (fun z w' q => ?_)
    case refine_2 =>
      obtain ⟨p', q1, q2, q3, q4, q5, q6⟩ := q
      intro _
      refine z_i64 (by dsimp only; omega) ?_
      have e1 : ((i : Int) - 1) = ((i - 1 : Nat) : Int) := by omega
      exact hag2 (i - 1) _ _ ⟨z.1, p', by rw [← e1], q1, q2, q3, q4, q5, q6⟩ (by omega)
    refine call_mono (rangeF 1 3 t14 (by omega)) ?_
    rintro (x19 : Int) w20 ⟨hx19, ⟨p20, t20⟩, g20⟩
    refine call_mono (nF ((K : Nat) : Int) t20 (by omega)) ?_
    rintro (x21 : Int) w22 ⟨hx21, ht22, g22⟩
    have T22 : TapeOn tb l L w w22 := (T14.trans ⟨⟨p20, t20⟩, g20⟩).trans ⟨ht22, g22⟩
    have Q22 : Own w22 w11.heap.size _ _ _ _ _ _ := Own.xg (Own.xg Q g20 htb) g22 htb
    have O22 := (O14.keep g20 (fun b hb => .inl (by injection hb with hb; omega))).keep g22 (fun b hb => .inl (by injection hb with hb; omega))
    have s20 := g20.size
    have s22 := g22.size
    obtain ⟨kd, rfl⟩ : ∃ kd : Nat, x19 = (kd : Int) := ⟨x19.toNat, by omega⟩
    obtain ⟨ky, rfl⟩ : ∃ ky : Nat, x21 = (ky : Int) := ⟨x21.toNat, by omega⟩
    refine wr_alloc (z := .agg #[.int .i64 0, .int .i64 0, .int .i64 0]) (by kernel_rfl) fun x23 w24 X h24 hx23 _ => ?_
    refine wu_box X (by kernel_rfl) (Nat.le_refl 3) rfl fun w25 X25 hg25 _ => ?_
    have b25 : bel w22 w25 := h24.grownAt hg25 (by omega)
    have s25 := b25.size
    have T25 := T22.up b25
    have Q25 : Own w25 w11.heap.size _ _ _ _ _ _ := Q22.kept b25
    have O25 := O22.keep (grown_of_bel b25 none) (fun b hb => by cases hb)
    replace X25 : Box w25 x23 (encS ⟨kd, ky, 0⟩) := X25
    refine join_mk (fun _ w' => ∃ v : Int, Box w' x23 (encS ⟨kd, ky, v⟩) ∧ RightS K ⟨kd, ky, v⟩ False ∧ TapeOn tb l L w w' ∧ Own w' w11.heap.size 57 3 q.1 q.2.1 q.2.2 (p.flatMap encS) ∧ OP w' w.heap.size o P phs ∧ w11.heap.size ≤ w'.heap.size) (fun K26 hK26 => ?_) (fun _ w28 q' => ?_)
    · refine rd_box0 (by kernel_rfl) X25 rfl rfl ?_
      refine br_ne (fun e3 => ?_) (fun e3 => ?_)
      · refine wr_lit tyI #[.int .i64 1, .int .i64 2, .int .i64 3, .int .i64 10, .int .i64 (-1)] (fillI5 1 2 3 10 (-1)) (by omega) (by omega) rfl (by unfold maxLen; omega) fun ad w36 OL h36 had _ => ?_
        obtain ⟨p36, t36⟩ := (T25.up h36).ex
        refine call_mono (pickF (q := (some ad, 5, 5)) (xs := [1, 2, 3, 10, -1]) t36 (OL w25.heap.size (Nat.le_refl _)).sl (fun ad' ha => by injection ha with ha; subst ha; omega) (by decide)) ?_
        rintro (x37 : Int) w38 ⟨hx37, t38, g38⟩
        have X38 := (X25.up h36).grown g38 (fun q => by injection q with q; omega)
        refine wu_boxi X38 (by kernel_rfl) (by show 2 < 3; omega) rfl fun w39 X39 hg39 _ => ?_
        have T38 : TapeOn tb l L w w38 := (T25.up h36).trans ⟨t38, g38⟩
        have s36 := h36.size
        have s38 := g38.size
        have s39 := hg39.size
        refine hK26 _ _ ⟨x37, X39, ?_, T38.put hlt hg39 (fun b hb => by injection hb with hb; omega), ?_, ?_, by omega⟩
        · simp only [List.mem_cons, List.not_mem_nil, or_false] at hx37
          have e3' : kd ≠ 1 := fun q => e3 (by subst q; rfl)
          exact ⟨by dsimp only; omega, by dsimp only; omega, fun q => by dsimp only at q; omega, fun _ => ⟨by dsimp only; omega, by dsimp only; omega⟩, fun q => by dsimp only at q; omega⟩
        · refine Own.keptBy (Own.xg (Q25.kept h36) g38 htb) hg39 ?_
          cases hb : blk q.1 with
          | none => exact .inl rfl
          | some b => exact .inr fun e => by injection e with e; have := (Q22.lt b hb).2; omega
        · refine ((O25.keep (grown_of_bel h36 none) (fun b hb => by cases hb)).keep g38 (fun b hb => .inl (by injection hb with hb; omega))).keep' hg39 O22 (fun b hb => by injection hb with hb; omega)
      · have e3' : kd = 1 := by have : ((kd : Nat) : Int) = 1 := e3; omega
        refine hK26 _ _ ⟨0, X25, ⟨by dsimp only; omega, by dsimp only; omega, fun _ => ⟨by dsimp only; omega, rfl⟩, fun q => by dsimp only at q; omega, fun q => by dsimp only at q; omega⟩, T25, Q25, O25, by omega⟩
    · obtain ⟨v, X28, hR, T28, Q28, O28, s28⟩ := q'
      intro _
      refine rd_boxN X28 (by kernel_rfl) rfl ?_
      refine wr_app1 tyS Q28 s28 rfl (by omega) (by omega) rfl rfl (by omega) (by unfold maxLen; omega) fun a' c' w33 O' hg _ _ => ?_
      refine hK15 _ _ ⟨p ++ [⟨kd, ky, v⟩], by rw [List.length_append, List.length_singleton]; omega, hMP.snoc ⟨hR, by dsimp only; omega⟩, ?_, T28.put hlt hg (fun b hb => by have := (Q28.lt b hb).1; omega), ?_, by have := hg.size; omega⟩
      · rw [List.flatMap_append]; exact O'
      · exact O28.keep' hg O11 (fun b hb => (Q28.lt b hb).1)
  · dsimp only at e2
    have hi0 : i = 0 := by omega
    subst hi0
    refine join_mk (fun (z : Hdr × Unit) w' => ∃ p' : List Sp, GP K p' ∧ Own w' w11.heap.size 57 3 z.1.1 z.1.2.1 z.1.2.2 (p'.flatMap encS) ∧ TapeOn tb l L w w' ∧ OP w' w.heap.size o P phs ∧ w11.heap.size ≤ w'.heap.size) (fun K40 hK40 => ?_) (fun z w42 q' => ?_)
    case refine_2 =>
      obtain ⟨p', q1, q2, q3, q4, q5⟩ := q'
      intro _
      refine OP.push q4 (x := z.1) (own_le q2 (by omega)) (by omega) (by omega) fun h' w46 H' hg => ?_
      refine hK6 _ _ ⟨P ++ [p'], phs ++ [z.1], by rw [List.length_append, List.length_singleton]; omega, fun x hx => ?_, H', q3.put hlt hg fun b hb => (q4.th.lt b hb).1⟩
      rcases List.mem_append.1 hx with hx | hx
      · exact hP x hx
      · simp at hx; subst hx; exact q1
    refine call_mono (nF 4 t14 (by omega)) ?_
    rintro (x47 : Int) w48 ⟨hx47, t48, g48⟩
    have T48 : TapeOn tb l L w w48 := T14.trans ⟨t48, g48⟩
    have Q48 : Own w48 w11.heap.size _ _ _ _ _ _ := Own.xg Q g48 htb
    have O48 := O14.keep g48 (fun b hb => .inl (by injection hb with hb; omega))
    have s48 := g48.size
    have hpl : p.length ≤ 4 := by omega
    refine br_eq (fun e3 => ?_) (fun e3 => ?_)
    · refine wr_lit tyI #[.int .i64 4, .int .i64 5, .int .i64 5] (fillI3 4 5 5) (by omega) (by omega) rfl (by unfold maxLen; omega) fun ad w50 OL h50 had _ => ?_
      obtain ⟨p50, t50⟩ := (T48.up h50).ex
      refine call_mono (pickF (q := (some ad, 3, 3)) (xs := [4, 5, 5]) t50 (OL w48.heap.size (Nat.le_refl _)).sl (fun ad' ha => by injection ha with ha; subst ha; omega) (by decide)) ?_
      rintro (x51 : Int) w52 ⟨hx51, t52, g52⟩
      have T52 : TapeOn tb l L w w52 := (T48.up h50).trans ⟨t52, g52⟩
      have Q52 : Own w52 w11.heap.size _ _ _ _ _ _ := Own.xg (Q48.kept h50) g52 htb
      have O52 := (O48.keep (grown_of_bel h50 none) (fun b hb => by cases hb)).keep g52 (fun b hb => .inl (by injection hb with hb; omega))
      have s50 := h50.size
      have s52 := g52.size
      obtain ⟨kd, rfl⟩ : ∃ kd : Nat, x51 = (kd : Int) := ⟨x51.toNat, by simp only [List.mem_cons, List.not_mem_nil, or_false] at hx51; omega⟩
      have hkd : kd = 4 ∨ kd = 5 := by simp only [List.mem_cons, List.not_mem_nil, or_false] at hx51; omega
      refine wr_app1 tyS Q52 (by omega) rfl (by omega) (by omega) rfl rfl (by omega) (by unfold maxLen; omega) fun a' c' w56 O' hg _ _ => ?_
      refine hK40 _ _ ⟨p ++ [⟨kd, 0, 0⟩], hMP.gpe hpl ⟨hkd, rfl, rfl⟩, ?_, T52.put hlt hg (fun b hb => by have := (Q52.lt b hb).1; omega), O52.keep' hg O11 (fun b hb => (Q52.lt b hb).1), by have := hg.size; omega⟩
      rw [List.flatMap_append]; exact O'
    · exact hK40 _ _ ⟨p, hMP.gp hpl, Q48, T48, O48, by omega⟩
end Go.Proofs.Ytcglflifaniolaa

/- Turns that are made; lists that are compared; fair turns; who commits. -/

namespace Go.Proofs.Ytcglflifaniolaa
open Go.RowKit Go.Q Go.V Go.Proofs.Sc

theorem push1 {w : World} {B : Nat} {o : Hdr} {xs : List Int} (O : Own w B 3 1 o.1 o.2.1 o.2.2 (ints .i64 xs)) (hB : B ≤ w.heap.size) (hl : xs.length ≤ 1000000) (x : Int) {K : Hdr → World → Prop}
    (hK : ∀ o' w', Own w' B 3 1 o'.1 o'.2.1 o'.2.2 (ints .i64 (xs ++ [x])) → w.grownBy w' (blk o.1) → K o' w') :
    wr Try.prog (Instr.buildSlice 22 1 #[(0, .int .i64 x)]) (.one .slice) w fun (y : Hdr) w1 => wr Try.prog (Builtin.append_ #[22, 22] 22 #[.slice o.1 o.2.1 o.2.2, .slice y.1 y.2.1 y.2.2]) (.one .slice) w1 K := by
  have ol := O.sl.int
  exact wr_app1 tyI O hB rfl (by omega) (by omega) rfl rfl (by omega) (by unfold maxLen; omega) fun a' c' w' O' hg _ _ => hK (a', o.2.1 + 1, c') w' (by rw [← ints_snoc]; exact O') hg
set_option maxHeartbeats 800000 in
theorem turnsF {w : World} {tb : Addr} {l : Hdr} {L : List Int} {p : Nat} (ht : Tape w tb l L p) (n most : Nat) (hn : n ≤ 5) (hm : most ≤ 30) :
    call Try.prog 11 [.pointer (some tb), .int .i64 ((n : Nat) : Int), .int .i64 ((most : Nat) : Int)] (.one (.one .slice)) w (fun (x : Hdr) w' => ∃ o, SlI w' x o ∧ o.length ≤ 120 ∧ TapeOn tb l L w w') := by
  refine call_of (S11_calls (some tb) n most w _ ?_)
  unfold S11
  have hlt := ht.box.lt
  refine z_i64 (by omega) ?_
  refine call_mono (nF (((most : Nat) : Int) + 1) ht (by omega)) ?_
  rintro (x2 : Int) w3 ⟨hx2, ht3, g3⟩
  have T3 : TapeOn tb l L w w3 := ⟨ht3, g3⟩
  obtain ⟨k, rfl⟩ : ∃ k : Nat, x2 = (k : Int) := ⟨x2.toNat, by omega⟩
  refine loop_gh (G := Nat) (fun j s w' => ∃ (o : Hdr) (xs : List Int), s = ((o.1, o.2.1, o.2.2), (j : Int), ()) ∧ xs.length + j = k ∧ Own w' w.heap.size 3 1 o.1 o.2.1 o.2.2 (ints .i64 xs) ∧ TapeOn tb l L w w') (fun j => j) k
    ⟨(none, 0, 0), [], rfl, by simp, Own.nil _ _ _ _, T3⟩ ?_
  rintro j _ w6 ⟨o, xs, rfl, hj, O, T6⟩ again hag _
  have s6 := T6.g.size
  obtain ⟨p6, t6⟩ := T6.ex
  refine br_dec (fun e => ?_) (fun e => ?_)
  · dsimp only at e
    refine call_mono (rangeF 0 n t6 (by omega)) ?_
    rintro (x7 : Int) w8 ⟨hx7, t8, g8⟩
    have O8 : Own w8 w.heap.size 3 1 o.1 o.2.1 o.2.2 (ints .i64 xs) := Own.xg O g8 hlt
    have T8 : TapeOn tb l L w w8 := T6.trans ⟨t8, g8⟩
    refine push1 (o := o) O8 (by have := T8.g.size; omega) (by omega) x7 fun o' w12 O' hg => ?_
    refine z_i64 (by dsimp only; omega) ?_
    have e1 : ((j : Int) - 1) = ((j - 1 : Nat) : Int) := by omega
    exact hag (j - 1) _ _ ⟨o', xs ++ [x7], by rw [← e1], by rw [List.length_append, List.length_singleton]; omega, O', T8.put hlt hg fun b hb => (O8.lt b hb).1⟩ (by omega)
  · dsimp only at e
    clear hag again
    refine join_mk (fun (z : Hdr × Unit) w' => ∃ ys : List Int, Own w' w.heap.size 3 1 z.1.1 z.1.2.1 z.1.2.2 (ints .i64 ys) ∧ ys.length ≤ 120 ∧ TapeOn tb l L w w') (fun K14 hK => ?_) (fun z w16 q => ?_)
    case refine_2 =>
      obtain ⟨ys, Y, hy, T⟩ := q
      intro _
      have yl := Y.sl.int
      refine z_eq (m := ((z.1.2.1 : Nat) : Int)) (by rw [if_neg (by omega)]) ?_
      refine sl_to tyI (m := z.1.2.1) rfl Y.capn ?_
      exact ⟨(z.1.1, z.1.2.1, z.1.2.2), rfl, ys, Y.sl, hy, T⟩
    refine call_mono (nF 3 t6 (by omega)) ?_
    rintro (x19 : Int) w20 ⟨hx19, t20, g20⟩
    have O20 : Own w20 w.heap.size 3 1 o.1 o.2.1 o.2.2 (ints .i64 xs) := Own.xg O g20 hlt
    have T20 : TapeOn tb l L w w20 := T6.trans ⟨t20, g20⟩
    refine br_dec (fun e2 => ?_) (fun e2 => hK _ _ ⟨xs, O20, by omega, T20⟩)
    refine loop_upA (A := Hdr) 9 (fun i (q : Hdr) w' => ∃ ys : List Int, Own w' w.heap.size 3 1 q.1 q.2.1 q.2.2 (ints .i64 ys) ∧ ys.length ≤ 30 + i * 5 ∧ TapeOn tb l L w w') ⟨xs, O20, by omega, T20⟩ ?_
    rintro i q w23 hi ⟨ys, Y, hy, TY⟩ again hag _
    refine br_dec (fun e3 => ?_) (fun e3 => hK _ _ ⟨ys, Y, by omega, TY⟩)
    refine loop_upA (A := Hdr) n (fun i2 (q2 : Hdr) w' => ∃ zs : List Int, Own w' w.heap.size 3 1 q2.1 q2.2.1 q2.2.2 (ints .i64 zs) ∧ zs.length ≤ 30 + i * 5 + i2 ∧ TapeOn tb l L w w') ⟨ys, Y, by omega, TY⟩ ?_
    rintro i2 q2 w26 hi2 ⟨zs, Z, hz, TZ⟩ again2 hag2 _
    refine br_dec (fun e4 => ?_) (fun e4 => ?_)
    · dsimp only at e4
      refine push1 (o := q2) Z (by have := TZ.g.size; omega) (by omega) (i2 : Int) fun o' w30 O' hg => ?_
      refine z_i64 (by dsimp only; omega) ?_
      exact hag2 o' w30 (by omega) ⟨zs ++ [(i2 : Int)], O', by rw [List.length_append, List.length_singleton]; omega, TZ.put hlt hg fun b hb => (Z.lt b hb).1⟩
    · dsimp only at e3
      refine z_i64 (by dsimp only; omega) ?_
      exact hag q2 w26 (by omega) ⟨zs, Z, by omega, TZ⟩
theorem intsF (a b : Hdr) (xs ys : List Int) (w : World) (H1 : SlI w a xs) (H2 : SlI w b ys) (he : xs = ys) :
    call Try.prog 20 [.slice a.1 a.2.1 a.2.2, .slice b.1 b.2.1 b.2.2] (.one (.one .bool)) w (fun (t : Bool) w' => t = true ∧ bel w w') := by
  refine call_of (S20_calls a.1 a.2.1 a.2.2 b.1 b.2.1 b.2.2 w _ ?_)
  unfold S20
  subst he
  have l1 := H1.int
  have l2 := H2.int
  have hle := H1.le
  refine br_ne (fun e => absurd (by omega) e) (fun _ => ?_)
  refine loop_up xs.length (fun i w' => bel w w') (bel.refl _) ?_
  rintro i w3 hi hb again hag _
  refine br_dec (fun e => ?_) (fun e => ⟨true, rfl, rfl, hb⟩)
  dsimp only at e
  refine drw_mk fun w4 h4 _ => ?_
  have b4 := hb.trans h4
  refine at_int tyI (by kernel_rfl) (H1.up b4) (j := i) rfl (by omega) fun x hx => ?_
  refine at_int tyI (by kernel_rfl) (H2.up b4) (j := i) rfl (by omega) fun y hy => ?_
  obtain rfl : x = y := by rw [hx] at hy; injection hy
  refine br_ne (fun e => absurd rfl e) (fun _ => ?_)
  refine z_i64 (by dsimp only; omega) ?_
  exact hag w4 (by omega) b4
theorem inF (a : Hdr) (xs : List Int) (v : Int) (w : World) (H1 : SlI w a xs) :
    call Try.prog 31 [.slice a.1 a.2.1 a.2.2, .int .i64 v] (.one (.one .bool)) w (fun (t : Bool) w' => (t = true ↔ v ∈ xs) ∧ bel w w') := by
  refine call_of (S31_calls a.1 a.2.1 a.2.2 v w _ ?_)
  unfold S31
  have l1 := H1.int
  have hle := H1.le
  refine loop_up xs.length (fun i w' => bel w w' ∧ v ∉ xs.take i) ⟨bel.refl _, by simp⟩ ?_
  rintro i w3 hi ⟨hb, hv⟩ again hag _
  refine br_dec (fun e => ?_) (fun e => ?_)
  · dsimp only at e
    refine at_int tyI (by kernel_rfl) (H1.up hb) (j := i) rfl (by omega) fun x hx => ?_
    refine br_eq (fun e2 => ⟨true, rfl, ⟨fun _ => ?_, fun _ => rfl⟩, hb⟩) (fun e2 => ?_)
    · rw [← e2]; exact List.mem_of_getElem? hx
    · refine z_i64 (by dsimp only; omega) ?_
      refine hag w3 (by omega) ⟨hb, ?_⟩
      rw [List.take_add_one, hx]
      intro hm
      rcases List.mem_append.1 hm with h | h
      · exact hv h
      · simp at h; exact e2 h.symm
  · dsimp only at e
    have : i = xs.length := by omega
    subst this
    rw [List.take_length] at hv
    exact ⟨false, rfl, ⟨fun h => (by cases h), fun h => absurd h hv⟩, hb⟩
abbrev EvAt (w : World) (h : Hdr) (ev : List Ev) : Prop := Sl w h.1 h.2.1 h.2.2 5 (ev.flatMap encE)
theorem EvAt.hn {w : World} {h : Hdr} {ev : List Ev} (H : EvAt w h ev) : ev.length = h.2.1 := by
  have := H.len
  rw [flat_len encE_len] at this
  exact Nat.eq_of_mul_eq_mul_right (by omega) this
theorem endsF (h0 h1 : Hdr) (ev : List Ev) (w : World) (E : EvAt w h1 ev) (hl : ev.length ≤ 1000000) :
    call Try.prog 19 [.agg #[.slice h0.1 h0.2.1 h0.2.2, .slice h1.1 h1.2.1 h1.2.2]] (.one (.one .slice)) w (fun (x : Hdr) w' => SlI w' x ((cmts ev).map fun (t : Nat) => (t : Int)) ∧ bel w w') := by
  refine call_of (S19_calls h0.1 h0.2.1 h0.2.2 h1.1 h1.2.1 h1.2.2 w _ ?_)
  unfold S19
  refine wr_box fun x1 w2 X h2 _ _ => ?_
  replace X : Box w2 x1 [.slice h0.1 h0.2.1 h0.2.2, .slice h1.1 h1.2.1 h1.2.2] := X
  have hn := EvAt.hn E
  refine rd_box (by kernel_rfl) X (i := 1) rfl rfl ?_
  refine loop_upA (A := Hdr) ev.length (fun i (q : Hdr) w' => Own w' w2.heap.size 3 1 q.1 q.2.1 q.2.2 (ints .i64 ((cmts (ev.take i)).map fun (t : Nat) => (t : Int))) ∧ bel w2 w') ⟨Own.nil _ _ _ _, bel.refl _⟩ ?_
  rintro i q w6 hi ⟨O, hb⟩ again hag _
  have ol := O.sl.int
  have hcl : (cmts (ev.take i)).length ≤ i := by
    unfold cmts
    rw [List.length_map]
    exact Nat.le_trans (List.length_filter_le _ _) (by rw [List.length_take]; omega)
  refine br_dec (fun e => ?_) (fun e => ?_)
  · dsimp only at e
    obtain ⟨y, hy⟩ : ∃ y, ev[i]? = some y := ⟨_, List.getElem?_eq_getElem (by omega)⟩
    have hsn : cmts (ev.take (i + 1)) = cmts (ev.take i) ++ (if y.kind = 3 then [y.t] else []) := by rw [List.take_add_one, hy]; exact cmts_snoc _ y
    refine join_mk (fun (z : Hdr × Unit) w' => Own w' w2.heap.size 3 1 z.1.1 z.1.2.1 z.1.2.2 (ints .i64 ((cmts (ev.take (i + 1))).map fun (t : Nat) => (t : Int))) ∧ bel w2 w') (fun K7 hK => ?_) (fun z w9 q => ?_)
    case refine_2 =>
      intro _
      refine z_i64 (by dsimp only; omega) ?_
      exact hag z.1 w9 (by omega) q
    refine at_agg tyE (by kernel_rfl) encE_len (by omega) ((E.up h2).up hb) (j := i) rfl hy rfl ?_
    refine wr_alloc (z := .agg #[.int .i64 0, .int .i64 0, .int .i64 0, .int .i64 0, .int .i64 0]) (by kernel_rfl) fun x13 w14 X13 h14 hx13 _ => ?_
    refine wu_box X13 (by kernel_rfl) (Nat.le_refl 5) rfl fun w15 X15 hg15 _ => ?_
    replace X15 : Box w15 x13 (encE y) := X15
    have b15 : bel w6 w15 := h14.grownAt hg15 (by omega)
    have O15 : Own w15 w2.heap.size 3 1 q.1 q.2.1 q.2.2 (ints .i64 ((cmts (ev.take i)).map fun (t : Nat) => (t : Int))) := O.kept b15
    refine rd_box0 (by kernel_rfl) X15 rfl rfl ?_
    refine br_eq (fun e3 => ?_) (fun e3 => ?_)
    · refine rd_box (by kernel_rfl) X15 (i := 1) rfl rfl ?_
      refine push1 (o := q) O15 (by have := hb.size; have := b15.size; omega) (by rw [List.length_map]; omega) ((y.t : Nat) : Int) fun o' w21 O' hg => ?_
      refine hK _ _ ⟨?_, (hb.trans b15).grown hg fun b hb' => (O15.lt b hb').1⟩
      rw [hsn, if_pos (by omega), List.map_append]; exact O'
    · refine hK _ _ ⟨?_, hb.trans b15⟩
      rw [hsn, if_neg (by omega), List.append_nil]; exact O15
  · dsimp only at e
    have : i = ev.length := by omega
    subst this
    rw [List.take_length] at O
    exact ⟨q, rfl, O.sl, h2.trans hb⟩
theorem commitsF (h0 h1 : Hdr) (ev : List Ev) (t : Nat) (w : World) (E : EvAt w h1 ev) (hl : ev.length ≤ 1000000) :
    call Try.prog 15 [.agg #[.slice h0.1 h0.2.1 h0.2.2, .slice h1.1 h1.2.1 h1.2.2], .int .i64 ((t : Nat) : Int)] (.one (.one .bool)) w (fun (x : Bool) w' => (x = true ↔ t ∈ cmts ev) ∧ bel w w') := by
  refine call_of (S15_calls h0.1 h0.2.1 h0.2.2 h1.1 h1.2.1 h1.2.2 t w _ ?_)
  unfold S15
  refine wr_box fun x1 w2 X h2 _ _ => ?_
  replace X : Box w2 x1 [.slice h0.1 h0.2.1 h0.2.2, .slice h1.1 h1.2.1 h1.2.2] := X
  refine rd_boxN X (by kernel_rfl) rfl ?_
  refine call_mono (endsF h0 h1 ev w2 (E.up h2) hl) ?_
  rintro (x4 : Hdr) w5 ⟨S4, h5⟩
  refine call_mono (inF x4 _ ((t : Nat) : Int) w5 S4) ?_
  rintro (x6 : Bool) w7 ⟨h6, h7⟩
  refine ⟨x6, rfl, ?_, (h2.trans h5).trans h7⟩
  rw [h6, List.mem_map]
  exact ⟨fun ⟨a, ha, e⟩ => by (have : a = t := by omega); rw [← this]; exact ha, fun h => ⟨t, h, rfl⟩⟩
end Go.Proofs.Ytcglflifaniolaa

/- A map from numbers to numbers that one has made. -/


namespace Go.Proofs.Ytcglflifaniolaa
open Go.RowKit Go.Q Go.V Go.Proofs.Sc

noncomputable abbrev RI : Value → Option (DataW Unit × List MemPlace) := plainElem Try.prog 3
theorem undI : Try.prog.underlying 3 = some (.int .i64) := by kernel_rfl
theorem undM : Try.prog.underlying 74 = some (.map 3 3) := by kernel_rfl
theorem litwf {a : Int} (h : I64 a) : (Lit.int .i64 a).wf = true := by
  have h1 : IntKind.min .i64 = -9223372036854775808 := by decide
  have h2 : IntKind.max .i64 = 9223372036854775807 := by decide
  have h3 : (Lit.int .i64 a).wf = (decide (IntKind.min .i64 ≤ a) && decide (a ≤ IntKind.max .i64)) := rfl
  rw [h3, h1, h2]
  simp [h.1, h.2]
structure MapI (w : World) (b m : Nat) (M : Nat → Option Nat) : Prop where
  ex : ∃ D : DataW Unit, w.ownsMap Try.prog 3 RI b m D ∧ Maps.IsMap D ∧ ∀ (t : Nat) z, D.atKey (.int .i64 ((t : Nat) : Int)) z = match M t with
    | none => z
    | some c => .lit (.int .i64 ((c : Nat) : Int))
theorem MapI.keep {w w' : World} {b m : Nat} {M : Nat → Option Nat} {o : Option Nat} (H : MapI w b m M) (hg : w.grownBy w' o) (hb : some b ≠ o) : MapI w' b m M := by
  obtain ⟨D, h1, h2, h3⟩ := H.ex
  exact ⟨D, h1.kept hg hb, h2, h3⟩
theorem MapI.up {w w' : World} {b m : Nat} {M : Nat → Option Nat} (H : MapI w b m M) (hb : bel w w') : MapI w' b m M := H.keep (grown_of_bel hb none) (by simp)
theorem map_made {w : World} {K : Option Nat → World → Prop} (hK : ∀ w', MapI w' w.heap.size 0 (fun _ => none) → bel w w' → K (some w.heap.size) w') :
    wr Try.prog (Instr.makeMap 74 none) (.one .map) w K := by
  refine ⟨some w.heap.size, _, run_makeMap _ w, hK _ ⟨.map [], World.ownsMap_made w _ _ _, Maps.isMap_empty, fun t z => rfl⟩ (bel_alloc _ _)⟩
theorem map_put {w : World} {b m : Nat} {M : Nat → Option Nat} (H : MapI w b m M) (hm : m ≤ 1000000) {t i : Nat} (ht : t ≤ 1000000) (hi : i ≤ 1000000) {K : World → Prop} (hK : ∀ w', MapI w' b (m + 1) (Sc.upd M t (some i)) → w.grownBy w' (some b) → K w') :
    wu Try.prog (Instr.mapUpdate 74 (.map (some b)) (.int .i64 ((t : Nat) : Int)) (.int .i64 ((i : Nat) : Int))) w K := by
  obtain ⟨D, h1, h2, h3⟩ := H.ex
  have hwt : (Lit.int .i64 ((t : Nat) : Int)).wf = true := litwf ⟨by omega, by omega⟩
  have hwi : (Lit.int .i64 ((i : Nat) : Int)).wf = true := litwf ⟨by omega, by omega⟩
  have hkey : keyOf Try.prog 3 (.int .i64 ((t : Nat) : Int)) = some (.int .i64 ((t : Nat) : Int)) := Maps.keyOf_int_mk undI hwt
  obtain ⟨w', r1, r2, r3⟩ := h1.update (Maps.int_keyed undI) undM (by unfold maxLen; omega) hkey (plainElem_int undI hwi)
  refine ⟨w', r1, hK w' ⟨_, r2, ?_, fun u z => ?_⟩ r3⟩
  · obtain ⟨es, rfl⟩ := h2
    exact ⟨_, rfl⟩
  · by_cases h : u = t
    · subst h
      rw [upd_same]
      exact Maps.atKey_put_same (k := .int .i64 ((u : Nat) : Int)) h2 trivial _ _
    · rw [upd_ne _ _ h, ← h3 u z]
      refine Maps.atKey_put_other (fun e => h ?_) _ _
      injection e with _ e
      omega
theorem map_get {w : World} {b m : Nat} {M : Nat → Option Nat} (H : MapI w b m M) {t : Nat} (ht : t ≤ 1000000) {K : (Int × Bool × Unit) → Prop} (hK : K ((((M t).getD 0 : Nat) : Int), (M t).isSome, ())) :
    rdM Try.prog bel (Instr.lookup 74 (.map (some b)) (.int .i64 ((t : Nat) : Int)) true) [.one (.int .i64), .one .bool] w K := by
  refine ⟨((((M t).getD 0 : Nat) : Int), (M t).isSome, ()), fun w' hb => ?_, hK⟩
  obtain ⟨D, h1, h2, h3⟩ := (H.up hb).ex
  have hwt : (Lit.int .i64 ((t : Nat) : Int)).wf = true := litwf ⟨by omega, by omega⟩
  have hkey : keyOf Try.prog 3 (.int .i64 ((t : Nat) : Int)) = some (.int .i64 ((t : Nat) : Int)) := Maps.keyOf_int_mk undI hwt
  obtain ⟨es, clock, hb', F, _, rfl⟩ := h1
  have hz : (zeroValue 3).run Try.prog w' = .ok (.int .i64 0) w' := by
    obtain ⟨i, hi0, hz0, hz1, hz2⟩ := info_parts tyI.hi
    unfold zeroValue typeInfo
    simp only [Sem.run_bind, run_program, Result.andThen_ok, hi0, Sem.run_pure, hz0]
  rcases Maps.fit_look true (Maps.int_keyed undI) undM hz hb' F hkey with ⟨hrun, _, hat⟩ | ⟨e0, y, _, _, hrun, hRv, hat, _⟩
  · have hn : M t = none := by
      cases hM : M t with
      | none => rfl
      | some c =>
        have e1 := h3 t (.lit (.int .i64 (-1)))
        rw [hat, hM] at e1
        simp only [DataW.lit.injEq, Lit.int.injEq, true_and] at e1
        omega
    rw [hrun, hn]; rfl
  · obtain ⟨a, ha, hy, _⟩ := plainElem_int_inv undI hRv
    have e1 := hat (.lit (.int .i64 (-1)))
    rw [h3, hy] at e1
    have e2 := hat (.lit (.int .i64 (-2)))
    rw [h3, hy] at e2
    cases hM : M t with
    | none =>
      rw [hM] at e1 e2
      simp only [DataW.lit.injEq, Lit.int.injEq, true_and] at e1 e2
      omega
    | some c =>
      rw [hM] at e1
      simp only [DataW.lit.injEq, Lit.int.injEq, true_and] at e1
      rw [hrun, ha, ← e1]; rfl
end Go.Proofs.Ytcglflifaniolaa

/- The values at the end of a history. -/

namespace Go.Proofs.Ytcglflifaniolaa
open Go.RowKit Go.Q Go.V Go.Proofs.Sc

def lastM (ev : List Ev) (i t : Nat) : Option Nat := (List.range i).foldl (fun b i => if (ev[i]?).any (isC t) = true then some i else b) none
theorem lastM_all (ev : List Ev) (t : Nat) : lastM ev ev.length t = lastC ev t := rfl
theorem lastM_succ {ev : List Ev} {i : Nat} {e : Ev} (he : ev[i]? = some e) (t : Nat) : lastM ev (i + 1) t = if isC t e = true then some i else lastM ev i t := by
  unfold lastM
  rw [List.range_succ, List.foldl_append]
  simp only [List.foldl_cons, List.foldl_nil, he, Option.any_some]
def outV (ev : List Ev) (start : List Int) (i : Nat) : List Int := (List.range start.length).map fun k => if k < i then finalV ev (fun k => start.getD k 0) k else start.getD k 0
theorem outV_len (ev : List Ev) (start : List Int) (i : Nat) : (outV ev start i).length = start.length := by unfold outV; rw [List.length_map, List.length_range]
theorem outV_zero (ev : List Ev) (start : List Int) : outV ev start 0 = start := by
  unfold outV
  refine List.ext_getElem? fun i => ?_
  rw [List.getElem?_map]
  by_cases h : i < start.length
  · rw [List.getElem?_range h, List.getElem?_eq_getElem h]
    simp [List.getD_eq_getElem?_getD, h]
  · rw [List.getElem?_eq_none (by simpa using h), List.getElem?_eq_none (by omega)]; rfl
theorem outV_get {ev : List Ev} {start : List Int} {i k : Nat} (h : k < start.length) : (outV ev start i)[k]? = some (if k < i then finalV ev (fun k => start.getD k 0) k else start.getD k 0) := by unfold outV; rw [List.getElem?_map, List.getElem?_range h]; rfl
theorem outV_set {ev : List Ev} {start : List Int} {i : Nat} (h : i < start.length) : (outV ev start i).set i (finalV ev (fun k => start.getD k 0) i) = outV ev start (i + 1) := by
  refine List.ext_getElem? fun k => ?_
  by_cases hk : k < start.length
  · rw [outV_get hk]
    by_cases h2 : i = k
    · subst h2
      rw [List.getElem?_set_self (by rw [outV_len]; exact h), if_pos (by omega)]
    · rw [List.getElem?_set_ne h2, outV_get hk]
      by_cases h3 : k < i
      · rw [if_pos h3, if_pos (by omega)]
      · rw [if_neg h3, if_neg (by omega)]
  · rw [List.getElem?_eq_none (by rw [List.length_set, outV_len]; omega), List.getElem?_eq_none (by rw [outV_len]; omega)]
theorem outV_self {ev : List Ev} {start : List Int} {i : Nat} (h : i < start.length) : (outV ev start i).set i (start.getD i 0) = outV ev start i := by
  refine List.ext_getElem? fun k => ?_
  by_cases h2 : i = k
  · subst h2
    rw [List.getElem?_set_self (by rw [outV_len]; exact h), outV_get h, if_neg (Nat.lt_irrefl _)]
  · rw [List.getElem?_set_ne h2]
theorem set_twice {α : Type} (l : List α) (i : Nat) (a b : α) : (l.set i a).set i b = l.set i b := by simp
set_option maxHeartbeats 1600000 in
theorem finalF (h0 h1 : Hdr) (start : List Int) (ev : List Ev) (w : World) (S : SlI w h0 start) (E : EvAt w h1 ev) (hl : ev.length ≤ 1000000) (hsl : start.length ≤ 1000) (ht : ∀ e ∈ ev, e.t ≤ 1000) :
    call Try.prog 21 [.agg #[.slice h0.1 h0.2.1 h0.2.2, .slice h1.1 h1.2.1 h1.2.2]] (.one (.one .slice)) w (fun (x : Hdr) w' => SlI w' x ((List.range start.length).map (finalV ev (fun k => start.getD k 0))) ∧ bel w w') := by
  refine call_of (S21_calls h0.1 h0.2.1 h0.2.2 h1.1 h1.2.1 h1.2.2 w _ ?_)
  unfold S21
  refine wr_box fun x1 w2 X h2 hx1 _ => ?_
  replace X : Box w2 x1 [.slice h0.1 h0.2.1 h0.2.2, .slice h1.1 h1.2.1 h1.2.2] := X
  have hn := EvAt.hn E
  have hs0 := S.int
  refine rd_box0 (by kernel_rfl) X rfl rfl ?_
  refine call_mono (cloneIF h0 start w2 (S.up h2) (by omega)) ?_
  rintro (x4 : Hdr) w5 ⟨O5, h5⟩
  have ol := O5.sl.int
  have l4 : ∀ b, blk x4.1 = some b → w2.heap.size ≤ b ∧ b < w5.heap.size := fun b hb => O5.lt b hb
  refine map_made fun w7 M7 h7 => ?_
  have X7 := (X.up h5).up h7
  have b7 := (h2.trans h5).trans h7
  have s57 := h7.size
  have hxl : x1.block < w5.heap.size := by have := (X.up h5).lt; exact this
  refine rd_box (by kernel_rfl) X7 (i := 1) rfl rfl ?_
  have E7 := E.up b7
  have elt : ∀ ad, h1.1 = some ad → ev.flatMap encE ≠ [] → ad.block < w.heap.size := fun ad ha hx => E.lt ad ha hx
  have s2 := h2.size
  have s5 := h5.size
  -- the places of the commits
  refine loop_up ev.length (fun i w' => MapI w' w5.heap.size i (lastM ev i) ∧ w7.grownBy w' (some w5.heap.size)) ⟨M7, grown_refl _ _⟩ ?_
  rintro i w11 hi ⟨M11, g11⟩ again hag _
  have X11 := X7.grown g11 (fun q => by injection q with q; omega)
  have E11 : EvAt w11 h1 ev := Sl.grown E7 g11 (fun ad ha hx q => by injection q with q; have := elt ad ha hx; omega)
  have O11 : Own w11 w2.heap.size 3 1 x4.1 x4.2.1 x4.2.2 (ints .i64 start) := (O5.kept h7).keptBy g11 (by
    cases hb : blk x4.1 with
    | none => exact .inl rfl
    | some b => exact .inr fun q => by injection q with q; have := (l4 b hb).2; omega)
  have hs11 := g11.size
  refine br_dec (fun e => ?_) (fun e => ?_)
  · dsimp only at e
    obtain ⟨y, hy⟩ : ∃ y, ev[i]? = some y := ⟨_, List.getElem?_eq_getElem (by omega)⟩
    have hyt := ht y (List.mem_of_getElem? hy)
    refine join_mk (fun _ w' => MapI w' w5.heap.size (i + 1) (lastM ev (i + 1)) ∧ w7.grownBy w' (some w5.heap.size)) (fun K12 hK => ?_) (fun _ w14 q => ?_)
    case refine_2 =>
      intro _
      refine z_i64 (by dsimp only; omega) ?_
      exact hag w14 (by omega) q
    refine at_agg tyE (by kernel_rfl) encE_len (by omega) E11 (j := i) rfl hy rfl ?_
    refine wr_alloc (z := .agg #[.int .i64 0, .int .i64 0, .int .i64 0, .int .i64 0, .int .i64 0]) (by kernel_rfl) fun x18 w19 X18 h19 hx18 _ => ?_
    refine wu_box X18 (by kernel_rfl) (Nat.le_refl 5) rfl fun w20 X20 hg20 _ => ?_
    replace X20 : Box w20 x18 (encE y) := X20
    have b20 : bel w11 w20 := h19.grownAt hg20 (by omega)
    have M20 := M11.up b20
    have g20 : w7.grownBy w20 (some w5.heap.size) := g11.trans (grown_of_bel b20 _)
    refine rd_box0 (by kernel_rfl) X20 rfl rfl ?_
    refine br_eq (fun e3 => ?_) (fun e3 => ?_)
    · refine rd_box (by kernel_rfl) X20 (i := 1) rfl rfl ?_
      refine map_put M20 (by omega) (t := y.t) (i := i) (by omega) (by omega) fun w23 M23 g23 => ?_
      refine hK _ _ ⟨?_, g20.trans g23⟩
      have : lastM ev (i + 1) = Sc.upd (lastM ev i) y.t (some i) := by
        funext t
        rw [lastM_succ hy]
        unfold Sc.upd isC
        have hk : y.kind = 3 := by omega
        by_cases h : t = y.t
        · subst h; simp [hk]
        · have h' : ¬ y.t = t := fun q => h q.symm
          simp [hk, h, h']
      rw [this]; exact M23
    · refine hK _ _ ⟨?_, g20⟩
      have : lastM ev (i + 1) = lastM ev i := by
        funext t
        rw [lastM_succ hy]
        unfold isC
        have hk : ¬ y.kind = 3 := by omega
        simp [hk]
      rw [this]
      obtain ⟨D, q1, q2, q3⟩ := M20.ex
      exact ⟨D, q1.mono (by omega), q2, q3⟩
  · dsimp only at e
    have hie : i = ev.length := by omega
    subst hie
    clear hag again M7 X7 E7 O5
    -- the keys
    have hm : ∀ b, blk x4.1 = some b → b < w5.heap.size := fun b hb => (l4 b hb).2
    refine loop_up start.length (fun i w' => Own w' w2.heap.size 3 1 x4.1 x4.2.1 x4.2.2 (ints .i64 (outV ev start i)) ∧ w11.grownBy w' (blk x4.1)) ⟨by rw [outV_zero]; exact O11, grown_refl _ _⟩ ?_
    rintro k w26 hk ⟨O26, g26⟩ again hag _
    have kb : ∀ {w' : World}, w11.grownBy w' (blk x4.1) → Box w' x1 [.slice h0.1 h0.2.1 h0.2.2, .slice h1.1 h1.2.1 h1.2.2] := fun hg => X11.grown hg (fun q => by have := (l4 _ q.symm).1; have := X.lt; omega)
    have ke : ∀ {w' : World}, w11.grownBy w' (blk x4.1) → EvAt w' h1 ev := fun hg => Sl.grown E11 hg (fun ad ha hx q => by have := (l4 _ q.symm).1; have := elt ad ha hx; omega)
    have km : ∀ {w' : World}, w11.grownBy w' (blk x4.1) → MapI w' w5.heap.size ev.length (lastM ev ev.length) := fun hg => M11.keep hg (fun q => by have := hm _ q.symm; omega)
    refine br_dec (fun e2 => ?_) (fun e2 => ?_)
    · dsimp only at e2
      have hkl : k < start.length := by omega
      refine rd_box (by kernel_rfl) (kb g26) (i := 1) rfl rfl ?_
      let bst : Nat → Int × Int := fun j => (ev.take j).foldl (finK ev k) (-1, start.getD k 0)
      refine loop_gh (G := Nat) (fun j s w' => s = ((bst j).1, (j : Int), ()) ∧ j ≤ ev.length ∧ Own w' w2.heap.size 3 1 x4.1 x4.2.1 x4.2.2 (ints .i64 ((outV ev start k).set k (bst j).2)) ∧ w11.grownBy w' (blk x4.1)) (fun j => ev.length - j) 0
        ⟨rfl, Nat.zero_le _, by show Own w26 _ _ _ _ _ _ (ints .i64 ((outV ev start k).set k (start.getD k 0))); rw [outV_self hkl]; exact O26, g26⟩ ?_
      rintro j _ w30 ⟨rfl, hj, O30, g30⟩ again2 hag2 _
      refine br_dec (fun e3 => ?_) (fun e3 => ?_)
      · dsimp only at e3
        obtain ⟨y, hy⟩ : ∃ y, ev[j]? = some y := ⟨_, List.getElem?_eq_getElem (by omega)⟩
        have hyt := ht y (List.mem_of_getElem? hy)
        have hbs : bst (j + 1) = finK ev k (bst j) y := by
          show (ev.take (j + 1)).foldl _ _ = _
          rw [List.take_add_one, hy]
          show ((ev.take j) ++ [y]).foldl _ _ = _
          rw [List.foldl_append]; rfl
        refine join_mk (fun (z : Int × Unit) w' => z.1 = (bst (j + 1)).1 ∧ Own w' w2.heap.size 3 1 x4.1 x4.2.1 x4.2.2 (ints .i64 ((outV ev start k).set k (bst (j + 1)).2)) ∧ w11.grownBy w' (blk x4.1)) (fun K31 hK => ?_) (fun z w33 q => ?_)
        case refine_2 =>
          obtain ⟨q1, q2, q3⟩ := q
          intro _
          refine z_i64 (by dsimp only; omega) ?_
          exact hag2 (j + 1) _ _ ⟨by rw [← q1]; rfl, by omega, q2, q3⟩ (by omega)
        refine at_agg tyE (by kernel_rfl) encE_len (by omega) (ke g30) (j := j) rfl hy rfl ?_
        refine wr_alloc (z := .agg #[.int .i64 0, .int .i64 0, .int .i64 0, .int .i64 0, .int .i64 0]) (by kernel_rfl) fun x37 w38 X37 h38 hx37 _ => ?_
        refine wu_box X37 (by kernel_rfl) (Nat.le_refl 5) rfl fun w39 X39 hg39 _ => ?_
        replace X39 : Box w39 x37 (encE y) := X39
        have b39 : bel w30 w39 := h38.grownAt hg39 (by omega)
        have O39 : Own w39 w2.heap.size 3 1 x4.1 x4.2.1 x4.2.2 (ints .i64 ((outV ev start k).set k (bst j).2)) := O30.kept b39
        have g39 : w11.grownBy w39 (blk x4.1) := g30.trans (grown_of_bel b39 _)
        have stay : finK ev k (bst j) y = bst j → K31 ((bst j).1, ()) w39 := fun h => hK _ _ ⟨by rw [hbs, h], by rw [hbs, h]; exact O39, g39⟩
        refine rd_box0 (by kernel_rfl) X39 rfl rfl ?_
        refine br_ne (fun e4 => stay ?_) (fun e4 => ?_)
        · unfold finK isW
          have : ¬ y.kind = 2 := by omega
          simp [this]
        refine rd_box (by kernel_rfl) X39 (i := 2) rfl rfl ?_
        refine br_ne (fun e5 => stay ?_) (fun e5 => ?_)
        · unfold finK isW
          have : ¬ y.key = k := fun q => e5 (by dsimp only; omega)
          simp [this]
        have hw : isW k y = true := by
          unfold isW
          have h1 : y.kind = 2 := by omega
          have h2 : y.key = k := by dsimp only at e5; omega
          simp [h1, h2]
        refine rd_box (by kernel_rfl) X39 (i := 1) rfl rfl ?_
        refine map_get (km g39) (t := y.t) (by omega) ?_
        rw [lastM_all]
        cases hc : lastC ev y.t with
        | none =>
          refine br_f rfl (stay ?_)
          unfold finK
          rw [if_pos hw, hc]
        | some a =>
          refine br_t rfl ?_
          have hfk2 : finK ev k (bst j) y = if (bst j).1 ≤ (a : Int) then ((a : Int), y.val) else bst j := by
            unfold finK
            rw [if_pos hw, hc]
          refine br_dec (fun e6 => ?_) (fun e6 => stay ?_)
          · dsimp only [Option.getD] at e6
            have e7 : bst (j + 1) = ((a : Int), y.val) := by rw [hbs, hfk2, if_pos (by omega)]
            refine drw_mk fun w44 h44 _ => ?_
            refine rd_box (by kernel_rfl) (X39.up h44) (i := 3) rfl rfl ?_
            refine set_mk tyI (O39.kept h44) (j := k) rfl (by omega) rfl fun w47 O47 g47 _ => ?_
            rw [ints_set, set_twice] at O47
            refine hK _ _ ⟨by rw [e7]; rfl, by rw [e7]; exact O47, (g39.trans (grown_of_bel h44 _)).trans g47⟩
          · dsimp only [Option.getD] at e6
            rw [hfk2, if_neg (by omega)]
      · dsimp only at e3
        have hje : j = ev.length := by omega
        subst hje
        refine z_i64 (by dsimp only; omega) ?_
        refine hag w30 hkl ⟨?_, g30⟩
        have e9 : (bst ev.length).2 = finalV ev (fun k => start.getD k 0) k := by
          show (List.foldl (finK ev k) (-1, start.getD k 0) (ev.take ev.length)).2 = _
          rw [List.take_length]; rfl
        rw [← outV_set hkl, ← e9]; exact O30
    · dsimp only at e2
      have hke : k = start.length := by omega
      subst hke
      refine ⟨x4, rfl, ?_, ?_⟩
      · have := O26.sl
        have e9 : outV ev start start.length = (List.range start.length).map (finalV ev (fun k => start.getD k 0)) := by
          unfold outV
          refine List.map_congr_left fun k hk => ?_
          rw [if_pos (List.mem_range.1 hk)]
        rw [e9] at this
        exact this
      · have q1 : bel w w11 := b7.grown g11 (fun b hb => by injection hb with hb; omega)
        exact q1.grown g26 (fun b hb => by have := (l4 b hb).1; omega)
end Go.Proofs.Ytcglflifaniolaa

/- Histories are compared; the example of the chapter. -/

namespace Go.Proofs.Ytcglflifaniolaa
open Go.RowKit Go.Q Go.V Go.Proofs.Sc

abbrev P2 : List (List Sp) := [[⟨3, 0, 1⟩], [⟨3, 0, 1⟩]]
theorem aw1 : (List.range 1).map (finalV (runS 3 [0] P2 [0, 1, 0, 1, 1]).ev (fun k => [(0 : Int)].getD k 0)) = [2] := by decide
theorem aw2 : (List.range 1).map (finalV (runS 2 [0] P2 [0, 1, 0, 1, 1]).ev (fun k => [(0 : Int)].getD k 0)) = [1] := by decide
theorem aw3 : (runS 2 [0] P2 [0, 1, 0, 1, 1]).ev.length = 8 := by decide
theorem aw4 : (runS 3 [0] P2 [0, 1, 0, 1, 1]).ev.length ≤ 20 := by decide
theorem aw5 (lev : Nat) (h : lev = 2 ∨ lev = 3) : ∀ e ∈ (runS lev [0] P2 [0, 1, 0, 1, 1]).ev, e.t ≤ 1000 := by rcases h with rfl | rfl <;> decide
theorem vs2 : VS' [0] P2 := ⟨by decide, by decide, by decide, fun p hp => by
  have : p = [⟨3, 0, 1⟩] := by simpa using hp
  subst this
  refine ⟨by decide, fun i x hx => ?_⟩
  have hx' : x = ⟨3, 0, 1⟩ := by
    have := List.mem_of_getElem? hx
    simpa using this
  subst hx'
  exact ⟨by decide, by decide, fun h => absurd h (by decide), fun _ => ⟨by decide, by decide, by decide⟩, fun h => absurd h (by decide)⟩⟩
theorem fillH2 (a b : Hdr) : Instr.fill (fun i => some (i * 1, 1)) ((Array.range (2 * 1)).map ((Value.slice none 0 0).cells[· % (Value.slice none 0 0).cells.size]!)) (#[(0, .slice a.1 a.2.1 a.2.2), (1, .slice b.1 b.2.1 b.2.2)] : Array (Nat × Value)).toList = some #[.slice a.1 a.2.1 a.2.2, .slice b.1 b.2.1 b.2.2] := by kernel_rfl
theorem twoF (w : World) : call Try.prog 30 [] (.one (.one .slice)) w (fun (x : Hdr) w' => (∃ phs, ProgsAt w' x P2 phs) ∧ bel w w') := by
  refine call_of (S30_calls w _ ?_)
  unfold S30
  refine wr_lit tyS (Value.agg #[.int .i64 3, .int .i64 0, .int .i64 1]).cells (fill_one 3 _ _ rfl (by first | rfl | simp)) (by omega) (by omega) rfl (by unfold maxLen; omega) fun ad w2 O1 h2 _ _ => ?_
  refine wr_lit tyP #[.slice (some ad) 1 1, .slice (some ad) 1 1] (fillH2 (some ad, 1, 1) (some ad, 1, 1)) (by omega) (by omega) rfl (by unfold maxLen; omega) fun ad2 w4 O2 h4 _ _ => ?_
  refine ⟨(some ad2, 2, 2), rfl, ⟨[(some ad, 1, 1), (some ad, 1, 1)], (O2 0 (Nat.zero_le _)).sl, rfl, fun i x p hx hp => ?_⟩, h2.trans h4⟩
  have hS : Sl w4 (some ad) 1 1 3 (encS ⟨3, 0, 1⟩) := ((O1 0 (Nat.zero_le _)).sl).up h4
  have e1 : x = (some ad, 1, 1) := by have := List.mem_of_getElem? hx; simpa using this
  have e2 : p = [⟨3, 0, 1⟩] := by have := List.mem_of_getElem? hp; simpa using this
  subst e1 e2
  exact hS
theorem lit1 (x : Int) {w : World} {K : Hdr → World → Prop} (hK : ∀ ad w', SlI w' (some ad, 1, 1) [x] → bel w w' → K (some ad, 1, 1) w') : wr Try.prog (Instr.buildSlice 22 1 #[(0, .int .i64 x)]) (.one .slice) w K :=
  wr_lit tyI #[.int .i64 x] (fill_one 1 (.int .i64 x) _ rfl (by first | rfl | simp)) (by omega) (by omega) rfl (by unfold maxLen; omega) fun ad w6 O h6 _ _ => hK ad w6 (O 0 (Nat.zero_le _)).sl h6
set_option maxHeartbeats 1600000 in
theorem awakeF (w : World) : call Try.prog 13 [] (.one (.one .bool)) w (fun (x : Bool) w' => x = true ∧ bel w w') := by
  refine call_of (S13_calls w _ ?_)
  unfold S13
  refine lit1 0 fun d1 w2 S1 h2 => ?_
  refine call_mono (twoF w2) ?_
  rintro (x3 : Hdr) w4 ⟨⟨phs, PA⟩, h4⟩
  refine wr_lit tyI #[.int .i64 0, .int .i64 1, .int .i64 0, .int .i64 1, .int .i64 1] (fillI5 0 1 0 1 1) (by omega) (by omega) rfl (by unfold maxLen; omega) fun d5 w6 O5 h6 _ _ => ?_
  have S5 : SlI w6 (some d5, 5, 5) [0, 1, 0, 1, 1] := (O5 0 (Nat.zero_le _)).sl
  clear O5
  have b6 := h4.trans h6
  refine call_mono (runF 3 (by omega) (some d1, 1, 1) x3 (some d5, 5, 5) [0] P2 phs [0, 1, 0, 1, 1] w6 (S1.up b6) (PA.up h6) S5 vs2 (by decide)) ?_
  rintro (x7 : (Hdr × Hdr × Unit) × Int × Unit) w8 ⟨e7, h8, T7, E7⟩
  refine var_mk (v := .agg #[.slice x7.1.1.1 x7.1.1.2.1 x7.1.1.2.2, .slice x7.1.2.1.1 x7.1.2.1.2.1 x7.1.2.1.2.2]) (z := .agg #[.slice none 0 0, .slice none 0 0]) (by kernel_rfl) (by kernel_rfl) rfl rfl fun x9 w11 X9 h11 _ => ?_
  replace X9 : Box w11 x9 [.slice x7.1.1.1 x7.1.1.2.1 x7.1.1.2.2, .slice x7.1.2.1.1 x7.1.2.1.2.1 x7.1.2.1.2.2] := X9
  refine lit1 0 fun d12 w13 S12 h13 => ?_
  refine call_mono (twoF w13) ?_
  rintro (x14 : Hdr) w15 ⟨⟨phs2, PA2⟩, h15⟩
  refine wr_lit tyI #[.int .i64 0, .int .i64 1, .int .i64 0, .int .i64 1, .int .i64 1] (fillI5 0 1 0 1 1) (by omega) (by omega) rfl (by unfold maxLen; omega) fun d16 w17 O16 h17 _ _ => ?_
  have S16 : SlI w17 (some d16, 5, 5) [0, 1, 0, 1, 1] := (O16 0 (Nat.zero_le _)).sl
  clear O16
  refine call_mono (runF 2 (by omega) (some d12, 1, 1) x14 (some d16, 5, 5) [0] P2 phs2 [0, 1, 0, 1, 1] w17 (S12.up (h15.trans h17)) (PA2.up h17) S16 vs2 (by decide)) ?_
  rintro (x18 : (Hdr × Hdr × Unit) × Int × Unit) w19 ⟨e18, h19, T18, E18⟩
  refine var_mk (v := .agg #[.slice x18.1.1.1 x18.1.1.2.1 x18.1.1.2.2, .slice x18.1.2.1.1 x18.1.2.1.2.1 x18.1.2.1.2.2]) (z := .agg #[.slice none 0 0, .slice none 0 0]) (by kernel_rfl) (by kernel_rfl) rfl rfl fun x20 w22 X20 h22 _ => ?_
  replace X20 : Box w22 x20 [.slice x18.1.1.1 x18.1.1.2.1 x18.1.1.2.2, .slice x18.1.2.1.1 x18.1.2.1.2.1 x18.1.2.1.2.2] := X20
  have b22 : bel w11 w22 := (((h13.trans h15).trans h17).trans h19).trans h22
  have b8 := ((h2.trans h4).trans h6).trans h8
  refine br_t (by rw [e7]; rfl) ?_
  refine br_t (by rw [e18]; rfl) ?_
  refine rd_boxN (X9.up b22) (by kernel_rfl) rfl ?_
  refine call_mono (finalF x7.1.1 x7.1.2.1 [0] (runS 3 [0] P2 [0, 1, 0, 1, 1]).ev w22 ((T7.up h11).up b22) ((E7.up h11).up b22) (by have := aw4; omega) (by decide) (aw5 3 (.inr rfl))) ?_
  rintro (x24 : Hdr) w25 ⟨S24, h25⟩
  have S24' : SlI w25 x24 [2] := by have := aw1; change SlI w25 x24 ((List.range 1).map _) at S24; rw [this] at S24; exact S24
  refine lit1 2 fun d26 w27 S26 h27 => ?_
  refine call_mono (intsF x24 (some d26, 1, 1) [2] [2] w27 (S24'.up h27) S26 rfl) ?_
  rintro (x28 : Bool) w29 ⟨rfl, h29⟩
  refine br_t rfl ?_
  have b29 : bel w22 w29 := (h25.trans h27).trans h29
  refine rd_boxN (X20.up b29) (by kernel_rfl) rfl ?_
  refine call_mono (finalF x18.1.1 x18.1.2.1 [0] (runS 2 [0] P2 [0, 1, 0, 1, 1]).ev w29 ((T18.up h22).up b29) ((E18.up h22).up b29) (by have := aw3; omega) (by decide) (aw5 2 (.inl rfl))) ?_
  rintro (x31 : Hdr) w32 ⟨S31, h32⟩
  have S31' : SlI w32 x31 [1] := by have := aw2; change SlI w32 x31 ((List.range 1).map _) at S31; rw [this] at S31; exact S31
  refine lit1 1 fun d33 w34 S33 h34 => ?_
  refine call_mono (intsF x31 (some d33, 1, 1) [1] [1] w34 (S31'.up h34) S33 rfl) ?_
  rintro (x35 : Bool) w36 ⟨rfl, h36⟩
  refine br_t rfl ?_
  have b36 : bel w29 w36 := (h32.trans h34).trans h36
  refine rd_box (by kernel_rfl) ((X20.up b29).up b36) (i := 1) rfl rfl ?_
  refine ⟨_, rfl, ?_, (((b8.trans h11).trans b22).trans b29).trans b36⟩
  have := EvAt.hn E18
  rw [aw3] at this
  rw [← this]; rfl
end Go.Proofs.Ytcglflifaniolaa

/- The statements' first part; each transaction ends once, and with fair turns all of them end. -/




namespace Go.Proofs.Ytcglflifaniolaa
open Go.RowKit Go.Q Go.V Go.Proofs.Sc

theorem bounds_i64 {n : Int} (h : (Lit.int .i64 n).wf = true) : I64 n := by
  simp only [Lit.wf, Bool.and_eq_true, decide_eq_true_eq] at h
  exact ⟨h.1, h.2⟩
set_option maxRecDepth 100000 in
theorem argTape {w : World} {v : Value} (h : Go.Q.Arg Try.prog w 22 v) : ∃ x xs, v = hv x ∧ SlI w x xs ∧ ∀ n ∈ xs, I64 n := by
  obtain ⟨a, n, c, rfl, h⟩ := Go.V.Arg.slice Try.underlying22 h
  obtain ⟨a1, n1, c1, xs, q1, _, s1, b1⟩ := Go.V.Read.ints Try.underlying22 Try.underlying3 (by kernel_rfl) h
  cases q1
  exact ⟨(a, n, c), xs, rfl, s1, fun x hx => bounds_i64 (b1 x hx)⟩
theorem start_bd {start : List Int} (h : ∀ x ∈ start, -1000000000 ≤ x ∧ x ≤ 1000000000) (k : Nat) : -1000000000 ≤ start.getD k 0 ∧ start.getD k 0 ≤ 1000000000 := by
  rw [List.getD_eq_getElem?_getD]
  cases hk : start[k]? with
  | none => exact ⟨by decide, by decide⟩
  | some x => exact h x (List.mem_of_getElem? hk)
theorem run_len {lev : Nat} {start : List Int} {P : List (List Sp)} {o : List Int} (h123 : 1 ≤ lev ∧ lev ≤ 3) (V : VS' start P) (ho : o.length ≤ 120) : (runS lev start P o).ev.length ≤ 400 := by
  obtain ⟨hSOk, hSB, _⟩ := V.ok
  have hI0 := inv0 (lev := lev) (K := start.length) (start := fun k => start.getD k 0) hSOk
  have hB0 := bd0 (n := P.length) (K := start.length) hSB
  have hBT := Bd.turns (lev := lev) h123 (start_bd V.sm) o _ hI0.1 hI0.2 0 hB0
  have key : ∀ m, m ≤ P.length → Bd P.length start.length (0 + 3 * o.length + m) ((List.range m).foldl fin1 (turns lev P.length start.length (fun k => start.getD k 0) (st0 (P.map wholeP)) o)) := fun m => by
    induction m with
    | zero => exact fun _ => hBT
    | succ m ih => exact fun hm => by rw [fins_snoc]; exact (ih (by omega)).fin (by omega)
  have := (key P.length (Nat.le_refl _)).ev
  have h5 := V.pl
  unfold runS
  omega
structure Pro (lev n : Nat) (start : List Int) (P : List (List Sp)) (o : List Int) (phs : List Hdr) (x3 x5 h0 h1 : Hdr) (w w13 : World) : Prop where
  v : VS' start P
  gp : ∀ p ∈ P, GP start.length p
  pl : 1 ≤ P.length ∧ P.length ≤ n
  sl : 1 ≤ start.length ∧ start.length ≤ 3
  ol : o.length ≤ 120
  S : SlI w13 x3 start
  PA : ProgsAt w13 x5 P phs
  H0 : SlI w13 h0 start
  H1 : EvAt w13 h1 (runS lev start P o).ev
  b : bel w w13
set_option maxHeartbeats 800000 in
theorem pro0 {l : Hdr} {L : List Int} {w : World} (HL : SlI w l L) (hI : ∀ x ∈ L, I64 x) {lev n most : Nat} (h123 : 1 ≤ lev ∧ lev ≤ 3) (hn : 1 ≤ n ∧ n ≤ 5) (hm : most ≤ 30) (Z : (Int → Prop) → Prop) (hZ : ∀ Q : Int → Prop, Q ((lev : Nat) : Int) → Z Q) {KK : Hdr → Hdr → Int → ((Hdr × Hdr × Unit) × Int × Unit) → World → Prop}
    (hK : ∀ x3 x5 x12 w13, (∃ start P o phs, Pro lev n start P o phs x3 x5 x12.1.1 x12.1.2.1 w w13) → x12.2.1 = (0 : Int) → KK x3 x5 ((lev : Nat) : Int) x12 w13) :
    call Try.prog 7 [.slice l.1 l.2.1 l.2.2] (.one (.one .ptr)) w fun (x1 : Option Addr) w2 =>
    call Try.prog 8 [.pointer x1] (.one (.one .slice)) w2 fun (x3 : Hdr) w4 =>
    call Try.prog 9 [.pointer x1, .int .i64 ((x3.2.1 : Nat) : Int), .int .i64 ((n : Nat) : Int)] (.one (.one .slice)) w4 fun (x5 : Hdr) w6 =>
    Z fun z9 => call Try.prog 11 [.pointer x1, .int .i64 ((x5.2.1 : Nat) : Int), .int .i64 ((most : Nat) : Int)] (.one (.one .slice)) w6 fun (x10 : Hdr) w11 =>
    call Try.prog 10 [.int .i64 z9, .slice x3.1 x3.2.1 x3.2.2, .slice x5.1 x5.2.1 x5.2.2, .slice x10.1 x10.2.1 x10.2.2] (.many [.agg [.slice, .slice], .one (.int .i64)]) w11 fun (x12 : (Hdr × Hdr × Unit) × Int × Unit) w13 => KK x3 x5 z9 x12 w13 := by
  refine call_mono (newF l L w HL hI) ?_
  rintro (x1 : Option Addr) w2 ⟨tb, l', L', rfl, etb, ht, h2⟩
  refine call_mono (startF ht) ?_
  rintro (x3 : Hdr) w4 ⟨start, O4, hsl, hsb, T4⟩
  have sl4 := O4.sl.int
  obtain ⟨p4, t4⟩ := T4.ex
  rw [show ((x3.2.1 : Nat) : Int) = ((start.length : Nat) : Int) by omega]
  refine call_mono (programsF t4 (K := start.length) (n := n) (by omega) hn) ?_
  rintro (x5 : Hdr) w6 ⟨P, phs, O6, hpl, hgp, T6⟩
  have pn := O6.at'.hn
  obtain ⟨p6, t6⟩ := T6.ex
  refine hZ _ ?_
  rw [show ((x5.2.1 : Nat) : Int) = ((P.length : Nat) : Int) by omega]
  refine call_mono (turnsF t6 P.length most (by omega) hm) ?_
  rintro (x10 : Hdr) w11 ⟨o, So, hol, T11⟩
  have htb := ht.box.lt
  have htb4 : tb.block < w4.heap.size := by have := T4.g.size; omega
  have S6 : SlI w6 x3 start := (Own.xg O4 T6.g (by omega)).sl
  have S11 : SlI w11 x3 start := (Own.xg (Own.xg O4 T6.g (by omega)) T11.g (by omega)).sl
  have P11 : ProgsAt w11 x5 P phs := (O6.keep T11.g (fun b hb => .inl (by injection hb with hb; omega))).at'
  have V : VS' start P := ⟨by omega, by omega, fun x hx => by have := hsb x hx; omega, fun p hp => (hgp p hp).vp⟩
  refine call_mono (runF lev h123 x3 x5 x10 start P phs o w11 S11 P11 So V hol) ?_
  rintro (x12 : (Hdr × Hdr × Unit) × Int × Unit) w13 ⟨e0, h13, H0, H1⟩
  refine hK x3 x5 x12 w13 ⟨start, P, o, phs, V, hgp, hpl, hsl, hol, S11.up h13, P11.up h13, H0, H1, ?_⟩ e0
  have g : w2.grownBy w11 (some tb.block) := (T4.g.trans T6.g).trans T11.g
  exact (h2.grown g (fun b hb => by injection hb with hb; omega)).trans h13
theorem levZ {lvl : Int} (h : 0 ≤ lvl ∧ lvl ≤ 255) {a b : Operand} {t : TypeId} : ∃ lev : Nat, (1 ≤ lev ∧ lev ≤ 3) ∧ ∀ Q : Int → Prop, Q ((lev : Nat) : Int) → z (IntKind.wrap .i64 lvl) fun z7 => rdp Try.prog (cmpS .rem t a b (.int .i64 z7) (.int .i64 3)) (.one (.int .i64)) fun (x8 : Int) => z (IntKind.wrap .i64 (1 + x8)) fun z9 => Q z9 := by
  have e : lvl.tmod 3 = lvl % 3 := Int.tmod_eq_emod_of_nonneg h.1
  have h1 := Int.emod_nonneg lvl (show (3 : Int) ≠ 0 by decide)
  have h2 := Int.emod_lt_of_pos lvl (show (0 : Int) < 3 by decide)
  refine ⟨(1 + lvl % 3).toNat, by omega, fun Q hQ => ?_⟩
  refine z_i64 (by omega) ?_
  refine rdp_rem (by decide) ?_
  rw [e]
  refine z_i64 (by omega) ?_
  rw [show ((((1 + lvl % 3).toNat : Nat)) : Int) = 1 + lvl % 3 by omega] at hQ
  exact hQ
end Go.Proofs.Ytcglflifaniolaa
