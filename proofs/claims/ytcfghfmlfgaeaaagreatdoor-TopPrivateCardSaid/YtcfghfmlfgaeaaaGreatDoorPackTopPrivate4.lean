import Derived.Shelf.SlSortCmp.NoneTotal
import Derived.Shelf.SlSortCmp.WholeK
import Derived.Shelf.Bits.Mul64
import Derived.KernelRfl
import Derived.Lib.Overlaps
import Derived.Test.YtcfghfmlfgaeaaaGreatDoorPackTopPrivate3

/- Values compared by ==; rows cut to their keys; shapes of rows. -/

namespace Go.Proofs.YtcfghfmlfgaeaaaGreatDoor
open Go.RowKit Go.Q Go.V Go.Bag

/-! ### structs of two ints and a string compared -/
def fsV (P : Program) : List Field → Bool
  | [f, g, h] => (f.name != "_") && (g.name != "_") && (h.name != "_") && f.offset == 0 && g.offset == 1 && h.offset == 2 &&
    (match P.underlying f.type with
    | some (.int _) => true | _ => false) && (match P.underlying g.type with
    | some (.int _) => true | _ => false) && (match P.underlying h.type with
    | some .string => true | _ => false)
  | _ => false
theorem eqF_cons {P : Program} {w : World} {d : Nat} {f : Field} {fs : List Field} {xs ys : Array Value} {a b : Value} {r q : Bool} (h1 : f.name ≠ "_") (hs : scal P f.type = true) (ha : xs[f.offset]? = some a) (hb : ys[f.offset]? = some b)
    (he : (Op.equalIn (d + 1) f.type a b).run P w = .ok r w) (hr : (Op.eqFields (d + 1) xs ys fs).run P w = .ok q w) : (Op.eqFields (d + 1) xs ys (f :: fs)).run P w = .ok (r && q) w := by
  unfold Op.eqFields
  rw [if_pos h1]
  simp only [Sem.run_bind, run_part1 hs ha, run_part1 hs hb, Result.andThen_ok, he]
  cases r with
  | true => simp only [Bool.not_true, Bool.false_eq_true, if_false, Bool.true_and]; exact hr
  | false => simp only [Bool.not_false, if_true, Bool.false_and, Sem.run_pure]
theorem run_eqFV {P : Program} {w : World} {d : Nat} {fs : List Field} (h : fsV P fs = true) (a b : V3) :
    (Op.eqFields (d + 1) (encV a).toArray (encV b).toArray fs).run P w = .ok (decide (a = b)) w := by
  match fs, h with
  | [f, g, k], h =>
    simp only [fsV, Bool.and_eq_true, beq_iff_eq, bne_iff_ne] at h
    obtain ⟨⟨⟨⟨⟨⟨⟨⟨n1, n2⟩, n3⟩, o1⟩, o2⟩, o3⟩, t1⟩, t2⟩, t3⟩ := h
    obtain ⟨k1, u1⟩ : ∃ k', P.underlying f.type = some (.int k') := by
      cases hu : P.underlying f.type with
      | none => rw [hu] at t1; cases t1
      | some t => rw [hu] at t1; cases t <;> first | exact ⟨_, rfl⟩ | cases t1
    obtain ⟨k2, u2⟩ : ∃ k', P.underlying g.type = some (.int k') := by
      cases hu : P.underlying g.type with
      | none => rw [hu] at t2; cases t2
      | some t => rw [hu] at t2; cases t <;> first | exact ⟨_, rfl⟩ | cases t2
    have u3 : P.underlying k.type = some .string := by
      cases hu : P.underlying k.type with
      | none => rw [hu] at t3; cases t3
      | some t => rw [hu] at t3; cases t <;> first | rfl | cases t3
    have e3 : (Op.eqFields (d + 1) (encV a).toArray (encV b).toArray []).run P w = .ok true w := rfl
    have r3 := eqF_cons (d := d) (f := k) (xs := (encV a).toArray) (ys := (encV b).toArray) n3 (by unfold scal; rw [u3]) (by rw [o3]; rfl) (by rw [o3]; rfl) (run_equalIn_string w d k.type a.2.2 b.2.2 u3) e3
    have r2 := eqF_cons (d := d) (f := g) (xs := (encV a).toArray) (ys := (encV b).toArray) n2 (by unfold scal; rw [u2]) (by rw [o2]; rfl) (by rw [o2]; rfl) (run_equalIn_int w d g.type .i64 k2 a.2.1 b.2.1 u2) r3
    have r1 := eqF_cons (d := d) (f := f) (xs := (encV a).toArray) (ys := (encV b).toArray) n1 (by unfold scal; rw [u1]) (by rw [o1]; rfl) (by rw [o1]; rfl) (run_equalIn_int w d f.type .i64 k1 a.1 b.1 u1) r2
    rw [r1]
    congr 1
    obtain ⟨a1, a2, a3⟩ := a
    obtain ⟨b1, b2, b3⟩ := b
    rw [Bool.eq_iff_iff]
    simp only [Bool.and_eq_true, beq_iff_eq, decide_eq_true_eq, Prod.mk.injEq, and_true]
    exact ⟨fun ⟨p, q, r⟩ => ⟨p, q, bytes_inj r⟩, fun ⟨p, q, r⟩ => ⟨p, q, by rw [r]⟩⟩
theorem eqVc : fsV Tryz.prog (Tryz.prog.fieldsOf 55).toList = true := by kernel_rfl
theorem eqVu : Tryz.prog.underlying 55 = some (.struct (Tryz.prog.fieldsOf 55)) := by kernel_rfl
theorem eqV {x y : Operand} (a b : V3) {w : World} {K : Bool → Prop} (hk : K (decide (a = b))) : rd Tryz.prog (Go.V.cmpS .eql 55 x y (.agg (encV a).toArray) (.agg (encV b).toArray)) (.one .bool) w K := by
  refine ⟨_, fun w' _ => ?_, hk⟩
  unfold Go.V.cmpS
  rw [Sem.run_bind, run_eqGuard_agg _ _ _ _ _ _ _ (by kernel_rfl), Result.andThen_ok, run_eql_struct, run_equalIn_agg _ _ _ _ _ eqVu (by kernel_rfl), run_eqFV eqVc]
  rfl
theorem neV {x y : Operand} (a b : V3) {w : World} {K : Bool → Prop} (hk : K (!decide (a = b))) : rd Tryz.prog (Go.V.cmpS .neq 55 x y (.agg (encV a).toArray) (.agg (encV b).toArray)) (.one .bool) w K := by
  refine ⟨_, fun w' _ => ?_, hk⟩
  unfold Go.V.cmpS
  rw [Sem.run_bind, run_eqGuard_agg _ _ _ _ _ _ _ (by kernel_rfl), Result.andThen_ok, run_neq_struct, run_equalIn_agg _ _ _ _ _ eqVu (by kernel_rfl), run_eqFV eqVc]
  rfl

/-! ### rows -/
theorem row_val {I : List Rows} {i n : Nat} {t : TPar} {r : Rw} (ok : t.Ok i) (H : RowOk I t n r) (few : ∀ R ∈ I, R.length ≤ 20) (hn : n < 20) {c : Nat} {y : Col} {p : V3} (hy : t.cols[c]? = some y) (hp : r[c]? = some p) :
    SmallV p ∧ (p.1 = 0 ∧ y.2.2 = true ∧ c ≠ 0 ∨ p.1 ≠ 0 ∧ p.1 = y.2.1) := by
  rcases col_name ok hy with ⟨rfl, rfl⟩ | ⟨k, q, hk, rfl, hq, rfl⟩ | ⟨k, hk, rfl, hk2, rfl⟩
  · rw [H.id] at hp; cases hp
    exact ⟨small_key (by omega), .inr ⟨show (1 : Int) ≠ 0 by decide, rfl⟩⟩
  · have v := H.free k q p hq hp
    refine ⟨v.small', ?_⟩
    rcases v.typ with ⟨a, b⟩ | a
    · exact .inl ⟨a, b, by omega⟩
    · have := ok.ty q (List.mem_of_getElem? hq)
      exact .inr ⟨by omega, a⟩
  · obtain ⟨m, R, h1, h2, h3, h4⟩ := H.key k (t.tos[k]'hk2) (List.getElem?_eq_getElem hk2)
    rw [h1] at hp; cases hp
    have := few R (List.mem_of_getElem? h3)
    exact ⟨small_key (by omega), .inr ⟨show (1 : Int) ≠ 0 by decide, rfl⟩⟩
theorem partP {w : World} {y l : Hdr} {r : Rw} {c : Nat} {p : V3} (R : RowAt w y r) (S : Sl w l.1 l.2.1 l.2.2 1 (ints .i64 [(c : Int)])) (hp : r[c]? = some p) :
    call Tryz.prog 187 [.slice y.1 y.2.1 y.2.2, .slice l.1 l.2.1 l.2.2] (.one (.one .slice)) w (fun (x : Hdr) w' => RowAt w' x [p] ∧ bel w w') := by
  have hl : l.2.1 = 1 := by have := S.int; simpa using this.symm
  have hc := (List.getElem?_eq_some_iff.1 hp).1
  refine call_of (S187_calls y.1 y.2.1 y.2.2 l.1 l.2.1 l.2.2 w _ ?_)
  unfold S187
  refine loop_upA 1 (fun j (s : Hdr) w' => bel w w' ∧ Own w' w.heap.size 55 3 s.1 s.2.1 s.2.2 ((([p] : Rw).take j).flatMap encV)) ⟨bel.refl _, Own.nil _ _ _ _⟩ fun j s w3 hj ⟨hb, O⟩ again hag _ => ?_
  refine br_dec (fun e => ?_) (fun e => ?_)
  · dsimp only at e
    have hj0 : j = 0 := by omega
    subst hj0
    have hs0 : s.2.1 = 0 := by have := O.1; simp at this; omega
    refine at_int tyI (by kernel_rfl) (S.up hb) (j := 0) rfl (by omega) fun z hz => ?_
    obtain rfl : (c : Int) = z := by simpa using hz
    refine row_at (R.up hb) rfl hc fun q hq => ?_
    obtain rfl : p = q := by rw [hp] at hq; cases hq; rfl
    refine wr_app1 tyV (v := .agg (encV p).toArray) O hb.size rfl (by omega) (by omega) rfl rfl (by omega) (by unfold maxLen; omega) fun a' c' w11 O11 g11 _ _ => ?_
    refine z_i64 (by dsimp only; omega) ?_
    exact hag (a', s.2.1 + 1, c') _ (by omega) ⟨bel.own hb O g11 (Nat.le_refl _), O11⟩
  · dsimp only at e
    have hj1 : j = 1 := by omega
    subst hj1
    exact ⟨s, rfl, O.sl, hb⟩
theorem textP {w : World} {x : Hdr} {n : Nat} (R : RowAt w x [keyV n]) (hn : n ≤ 20) :
    call Tryz.prog 189 [.slice x.1 x.2.1 x.2.2] (.one (.one .str)) w (fun (s : ByteArray) w' => s = kt n ∧ bel w w') := by
  have hl : x.2.1 = 1 := by have := RowAt.len R; simpa using this.symm
  refine call_of (S189_calls x.1 x.2.1 x.2.2 w _ ?_)
  unfold S189
  refine loop_upA 1 (fun j (s : ByteArray) w' => bel w w' ∧ s = if j = 0 then ByteArray.empty else kt n) ⟨bel.refl _, rfl⟩ fun j s w3 hj ⟨hb, hs⟩ again hag _ => ?_
  refine br_dec (fun e => ?_) (fun e => ?_)
  · dsimp only at e
    have hj0 : j = 0 := by omega
    subst hj0
    rw [if_pos rfl] at hs
    subst hs
    refine row_at (R.up hb) rfl (by simp) fun q hq => ?_
    obtain rfl : keyV n = q := by simpa using hq
    refine var_mk (z := .agg #[.int .i64 0, .int .i64 0, .string ByteArray.empty]) (v := .agg (encV (keyV n)).toArray) (by kernel_rfl) (by kernel_rfl) rfl rfl fun x6 w8 X h8 _ => ?_
    replace X : Box w8 x6 (encV (keyV n)) := X
    refine rd_boxN X (by kernel_rfl) rfl ?_
    refine call_mono (valTextP n hn w8) ?_
    rintro b w11 ⟨rfl, h11⟩
    have hd := dg_size n (by omega)
    refine addS (by have : (⟨#[44]⟩ : ByteArray).size = 1 := rfl; omega) ?_
    refine addS (by rw [ByteArray.size_append]; have : (⟨#[44]⟩ : ByteArray).size = 1 := rfl; have : ByteArray.empty.size = 0 := rfl; dsimp only; omega) ?_
    refine z_i64 (by dsimp only; omega) ?_
    exact hag _ _ (by omega) ⟨(hb.trans h8).trans h11, rfl⟩
  · dsimp only at e
    have hj1 : j = 1 := by omega
    subst hj1
    exact ⟨s, rfl, hs, hb⟩
theorem partialP {w : World} {x : Hdr} {n : Nat} (R : RowAt w x [keyV n]) :
    call Tryz.prog 188 [.slice x.1 x.2.1 x.2.2] (.one (.one .bool)) w (fun (b : Bool) w' => b = false ∧ bel w w') := by
  have hl : x.2.1 = 1 := by have := RowAt.len R; simpa using this.symm
  refine call_of (S188_calls x.1 x.2.1 x.2.2 w _ ?_)
  unfold S188
  refine call_mono (r := .one (.one .bool)) (Q := fun (b : Bool) w' => b = false ∧ bel w w') (call_of (S240_calls x.1 x.2.1 x.2.2 0 0 ByteArray.empty w _ ?_)) ?_
  · unfold S240
    refine wr_box fun x1 w2 X1 h2 _ _ => ?_
    replace X1 : Box w2 x1 (encV (0, 0, ByteArray.empty)) := X1
    refine rd_boxN X1 (by kernel_rfl) rfl ?_
    refine call_mono (r := .one (.one (.int .i64))) (Q := fun (b : Int) w' => b = -1 ∧ bel w2 w') (call_of (S287_calls x.1 x.2.1 x.2.2 0 0 ByteArray.empty w2 _ ?_)) ?_
    · unfold S287
      refine wr_box fun y1 w3 Y1 h3 _ _ => ?_
      replace Y1 : Box w3 y1 (encV (0, 0, ByteArray.empty)) := Y1
      refine loop_up 1 (fun _ w' => bel w3 w') (bel.refl _) fun j w5 hj hb again hag _ => ?_
      refine br_dec (fun e => ?_) (fun e => ⟨(-1 : Int), rfl, rfl, h3.trans hb⟩)
      dsimp only at e
      have hj0 : j = 0 := by omega
      subst hj0
      refine drw_mk fun w6 h6 _ => ?_
      replace hb := hb.trans h6
      refine rd_boxN (Y1.up hb) (by kernel_rfl) rfl ?_
      refine row_at (((R.up h2).up h3).up hb) rfl (by simp) fun q hq => ?_
      obtain rfl : keyV n = q := by simpa using hq
      refine eqV (0, 0, ByteArray.empty) (keyV n) ?_
      refine br_f (decide_eq_false (by intro q; injection q with q _; cases q)) ?_
      refine z_i64 (by omega) ?_
      exact hag _ (by omega) hb
    · rintro b w5 ⟨rfl, h5⟩
      exact ⟨false, rfl, rfl, h2.trans h5⟩
  · rintro b w2 ⟨rfl, h2⟩
    exact ⟨false, rfl, rfl, h2⟩
end Go.Proofs.YtcfghfmlfgaeaaaGreatDoor

/- Package integrity: shapes, keys, references. -/

namespace Go.Proofs.YtcfghfmlfgaeaaaGreatDoor
open Go.RowKit Go.Q Go.V Go.Bag

theorem inj_b {a b : Bool} (h : Value.bool a = .bool b) : a = b := by injection h
section
variable {w : World} {i : Nat} {x : TH} {t : TPar} {I : List Rows}
theorem mis1P (T : TbAt w i x t) (ok : t.Ok i) {x1 : Addr} (X1 : Box w x1 (tbc x)) {y : Hdr} {r : Rw} {n : Nat} (Y : RowAt w y r) (R : RowOk I t n r) (few : ∀ R ∈ I, R.length ≤ 20) (hn : n < 20) :
    call Tryz.prog 119 [.slice y.1 y.2.1 y.2.2, .pointer (some x1)] (.one (.one .bool)) w (fun (b : Bool) w' => b = false ∧ bel w w') := by
  have hl := RowAt.len Y
  have hnc := T.nc
  have hrl := R.len
  have hle := nc_le ok
  refine call_of (S119_calls y.1 y.2.1 y.2.2 x1 w _ ?_)
  unfold S119
  refine rd_box (by kernel_rfl) X1 (i := 1) rfl rfl ?_
  refine br_ne (fun e => by dsimp only at e; omega) (fun _ => ?_)
  refine loop_up t.nc (fun _ w' => bel w w') (bel.refl _) fun c w4 hc hb again hag _ => ?_
  refine br_dec (fun e => ?_) (fun e => ⟨false, rfl, rfl, hb⟩)
  dsimp only at e
  have hc' : c < t.nc := by omega
  obtain ⟨col, hcol⟩ : ∃ col, t.cols[c]? = some col := ⟨_, List.getElem?_eq_getElem (by rw [cols_len]; omega)⟩
  refine join_mk (fun _ w' => bel w w') (fun K hK => ?_) ?_
  · refine row_at (Y.up hb) rfl (by omega) fun p hp => ?_
    obtain ⟨sm, ht⟩ := row_val ok R few hn hcol hp
    refine var_mk (z := .agg #[.int .i64 0, .int .i64 0, .string ByteArray.empty]) (v := .agg (encV p).toArray) (by kernel_rfl) (by kernel_rfl) rfl rfl fun x11 w13 X h13 _ => ?_
    replace X : Box w13 x11 (encV p) := X
    refine drw_mk fun w14 h14 _ => ?_
    replace X := X.up h14; replace hb := (hb.trans h13).trans h14
    refine flEx_mk (fun i _ v _ => i = 1 → v = .bool true) (fun _ _ _ _ _ h _ => h) ?_
    refine rd_boxN X (by kernel_rfl) rfl ?_
    refine flc_mk (fun w17 _ _ => ?_) (fun x21 => ?_)
    · refine call_mono (vvalidP p sm w17) ?_
      rintro b w20 ⟨rfl, h20⟩
      exact ⟨h20, fun _ => rfl⟩
    refine br_mk (fun e => flend_mk fun w22 h22 f => ?_) (fun e => ?_)
    · have := inj_b (f.1 rfl)
      subst this; cases e
    refine rd_box0 (by kernel_rfl) X rfl rfl ?_
    refine br_ne (fun e1 => ?_) (fun e1 => flend_mk fun w31 h31 _ => hK _ _ (hb.trans h31))
    refine rd_box0 (by kernel_rfl) X rfl rfl ?_
    refine rd_box (by kernel_rfl) (X1.up hb) (i := 1) rfl rfl ?_
    refine ColsAt.typ (T.cols.up hb) rfl hcol ?_
    refine flend_mk fun w29 h29 _ => ?_
    refine br_ne (fun e2 => absurd (by rcases ht with q | q; exact absurd q.1 e1; exact q.2) e2) (fun _ => hK _ _ (hb.trans h29))
  · rintro _ w14 hb _
    refine z_i64 (by omega) ?_
    exact hag _ hc' hb
theorem misP (T : TbAt w i x t) (ok : t.Ok i) {g : Hdr} {Rs : Rows} (G : RowsAt w g Rs) (hR : ∀ n r, Rs[n]? = some r → RowOk I t n r) (hRI : Rs ∈ I) (few : ∀ R ∈ I, R.length ≤ 20) :
    call Tryz.prog 68 [tbv x, .slice g.1 g.2.1 g.2.2] (.one (.one .bool)) w (fun (b : Bool) w' => b = false ∧ bel w w') := by
  have hl := G.len
  have h20 := few Rs hRI
  refine call_of (S68_calls x.1 x.2.1.1 x.2.1.2.1 x.2.1.2.2 x.2.2.1.1 x.2.2.1.2.1 x.2.2.1.2.2 x.2.2.2.1.1 x.2.2.2.1.2.1 x.2.2.2.1.2.2 x.2.2.2.2.1.1 x.2.2.2.2.1.2.1 x.2.2.2.2.1.2.2 x.2.2.2.2.2.1.1 x.2.2.2.2.2.1.2.1 x.2.2.2.2.2.1.2.2 g.1 g.2.1 g.2.2 w _ ?_)
  unfold S68
  refine wr_box fun x1 w2 X1 h _ _ => ?_
  replace X1 : Box w2 x1 (tbc x) := X1
  refine call_mono (r := .one (.one .bool)) (Q := fun (b : Bool) w' => b = false ∧ bel w2 w') (call_of (S118m_calls g.1 g.2.1 g.2.2 x1 w2 _ ?_)) ?_
  · unfold S118m
    refine call_mono (r := .one (.one (.int .i64))) (Q := RIdx (fun _ => false) g.2.1 w2) (call_of (S186m_calls g.1 g.2.1 g.2.2 x1 w2 _ ?_)) ?_
    · unfold S186m
      refine scanC (vs := .one .slice) (fargs := fun z : Hdr => [.slice z.1 z.2.1 z.2.2, .pointer (some x1)]) _ (by omega) (fun j hj w' hb K hK => ?_)
      refine (G.up h).atB hb rfl (by omega) fun y r hr Y => ?_
      refine call_mono (mis1P ((T.up h).up hb) ok (X1.up hb) (Y.up hb) (hR j r hr) few (by omega)) ?_
      rintro b w6 ⟨rfl, h6⟩
      exact hK _ h6
    · rintro r w' ⟨hr, hb⟩
      exact ⟨_, rfl, by rw [hr]; exact any_none fun _ _ => rfl, hb⟩
  · rintro b w4 ⟨rfl, h4⟩
    exact ⟨false, rfl, rfl, h.trans h4⟩
end
abbrev FinC (h g b : Hdr) : List Value := [hv h, hv g, hv b, .slice none 0 0]
section
variable {w : World} {h g b : Hdr} {D : List TPar} {I : List Rows} {fa : Addr}
set_option maxHeartbeats 800000 in
theorem rowsP (F : Box w fa (FinC h g b)) (H : SchAt w h D) (hD : OkD D) (G : InsAt w g I) (oI : OkI D I) {k : Nat} (hk : k < D.length) :
    call Tryz.prog 69 [.pointer (some fa), .int .i64 (k : Int)] (.many []) w (fun (_ : Unit) w' => bel w w') := by
  refine call_of (S69_calls (some fa) k w _ ?_)
  unfold S69
  refine nn_mk rfl ?_
  refine rd_box0 (by kernel_rfl) F rfl rfl ?_
  refine H.at rfl hk fun x t ht T => ?_
  have ok := hD.each k t ht
  have hnc := T.nc
  have hle := nc_le ok
  refine var_mk (z := .agg zTb.toArray) (v := tbv x) (by kernel_rfl) (by kernel_rfl) rfl rfl fun x5 w7 X5 h7 _ => ?_
  replace X5 : Box w7 x5 (tbc x) := X5
  refine nn_mk rfl ?_
  refine rd_box (by kernel_rfl) (F.up h7) (i := 1) rfl rfl ?_
  refine G.atB h7 rfl (by rw [oI.len]; exact hk) fun y Rs hRs YR => ?_
  have h20 := oI.few Rs (List.mem_of_getElem? hRs)
  have hlen := YR.len
  refine loop_up Rs.length (fun _ w' => bel w7 w') (bel.refl _) fun n w14 hn hb again hag _ => ?_
  refine br_dec (fun e => ?_) (fun e => ⟨(), rfl, h7.trans hb⟩)
  dsimp only at e
  have hn' : n < Rs.length := by omega
  refine join_mk (fun _ w' => bel w7 w') (fun K hK => ?_) ?_
  · refine (YR.up h7).atB hb rfl hn' fun z r hr Z => ?_
    have R := oI.row k t Rs n r ht hRs hr
    have hrl := R.len
    have hzl := RowAt.len Z
    refine rd_box (by kernel_rfl) (X5.up hb) (i := 1) rfl rfl ?_
    refine br_ne (fun e => by dsimp only at e; omega) (fun _ => ?_)
    refine loop_up t.nc (fun _ w' => bel w7 w') hb fun c w26 hc hb again2 hag2 _ => ?_
    refine br_dec (fun e => ?_) (fun e => hK _ _ hb)
    dsimp only at e
    have hc' : c < t.nc := by omega
    obtain ⟨col, hcol⟩ : ∃ col, t.cols[c]? = some col := ⟨_, List.getElem?_eq_getElem (by rw [cols_len]; omega)⟩
    refine join_mk (fun _ w' => bel w7 w') (fun K hK => ?_) ?_
    · refine row_at (Z.up hb) rfl (by omega) fun p hp => ?_
      obtain ⟨sm, hty⟩ := row_val ok R oI.few (by omega) hcol hp
      refine var_mk (z := .agg #[.int .i64 0, .int .i64 0, .string ByteArray.empty]) (v := .agg (encV p).toArray) (by kernel_rfl) (by kernel_rfl) rfl rfl fun x33 w35 X h35 _ => ?_
      replace X : Box w35 x33 (encV p) := X
      replace hb := hb.trans h35
      refine join_mk (fun s w' => s.1 = false ∧ bel w35 w') (fun K2 hK2 => ?_) ?_
      · refine drw_mk fun w52 h52 _ => ?_
        replace X := X.up h52
        refine flEx_mk (fun i _ v _ => i = 1 → v = .bool true) (fun _ _ _ _ _ h _ => h) ?_
        refine rd_boxN X (by kernel_rfl) rfl ?_
        refine flc_mk (fun w17 _ _ => ?_) (fun x21 => ?_)
        · refine call_mono (vvalidP p sm w17) ?_
          rintro b w20 ⟨rfl, h20⟩
          exact ⟨h20, fun _ => rfl⟩
        refine br_mk (fun e => flend_mk fun w22 h22 f => ?_) (fun e => ?_)
        · have := inj_b (f.1 rfl)
          subst this; cases e
        refine rd_box0 (by kernel_rfl) X rfl rfl ?_
        refine br_ne (fun e1 => ?_) (fun e1 => flend_mk fun w31 h31 _ => hK2 _ _ ⟨rfl, h52.trans h31⟩)
        refine rd_box0 (by kernel_rfl) X rfl rfl ?_
        refine rd_box (by kernel_rfl) ((X5.up hb).up h52) (i := 1) rfl rfl ?_
        refine ColsAt.typ (((T.cols.up h7).up hb).up h52) rfl hcol ?_
        refine flend_mk fun w29 h29 _ => hK2 _ _ ⟨?_, h52.trans h29⟩
        have : p.1 = col.2.1 := by rcases hty with q | q; exact absurd q.1 e1; exact q.2
        simp [this]
      · rintro ⟨s, u⟩ w38 ⟨hs, h38⟩ _
        dsimp only at hs
        subst hs
        have hb38 := hb.trans h38
        refine br_f rfl ?_
        refine rd_box0 (by kernel_rfl) (X.up h38) rfl rfl ?_
        refine br_eq (fun e1 => ?_) (fun e1 => hK _ _ hb38)
        have hq : col.2.2 = true ∧ c ≠ 0 := by rcases hty with q | q; exact q.2; exact absurd e1 q.1
        refine rd_box (by kernel_rfl) (X5.up hb38) (i := 1) rfl rfl ?_
        refine ColsAt.nul ((T.cols.up h7).up hb38) rfl hcol ?_
        rw [hq.1]
        refine br_f rfl ?_
        refine rd_box (by kernel_rfl) (X5.up hb38) (i := 2) rfl rfl ?_
        refine call_mono (containsI x.2.2.1 [0] (c : Int) w38 ((T.prim.up h7).up hb38)) ?_
        rintro bb w49 ⟨rfl, h49⟩
        refine br_f (decide_eq_false (by have := hq.2; simp; omega)) ?_
        exact hK _ _ (hb38.trans h49)
    · rintro _ w14 hb _
      refine z_i64 (by omega) ?_
      exact hag2 _ hc' hb
  · rintro _ w17 hb _
    refine z_i64 (by omega) ?_
    exact hag _ hn' hb
set_option maxHeartbeats 800000 in
theorem fkeyP (F : Box w fa (FinC h g b)) (G : InsAt w g I) {k : Nat} {t : TPar} {Rs : Rows} (hRs : I[k]? = some Rs) (hR : ∀ n r, Rs[n]? = some r → RowOk I t n r) (few : ∀ R ∈ I, R.length ≤ 20) {l : Hdr} (L : Sl w l.1 l.2.1 l.2.2 1 (ints .i64 [0])) (kind : Int) :
    call Tryz.prog 121 [.pointer (some fa), .int .i64 kind, .int .i64 (k : Int), .int .i64 0, .slice l.1 l.2.1 l.2.2, .bool true] (.many []) w (fun (_ : Unit) w' => bel w w') := by
  have hkI := (List.getElem?_eq_some_iff.1 hRs).1
  have h20 := few Rs (List.mem_of_getElem? hRs)
  refine call_of (S121_calls (some fa) kind k 0 l.1 l.2.1 l.2.2 true w _ ?_)
  unfold S121
  refine mk_made (e := 3) fun w2 M h2 => ?_
  refine nn_mk rfl ?_
  refine rd_box (by kernel_rfl) (F.up h2) (i := 1) rfl rfl ?_
  refine G.atB h2 rfl hkI fun y Rs' hRs' YR => ?_
  obtain rfl : Rs = Rs' := by rw [hRs] at hRs'; cases hRs'; rfl
  have hlen := YR.len
  refine loop_up Rs.length (fun n w' => bel w w' ∧ ∃ S, MapK 3 w' w.heap.size n S ∧ ∀ k, k < 21 → S k = true → k ≤ n) ⟨h2, _, M, fun k _ q => by cases q⟩ fun n w9 hn ⟨hb, S, M, hS⟩ again hag _ => ?_
  refine br_dec (fun e => ?_) (fun e => ⟨(), rfl, hb⟩)
  dsimp only at e
  have hn' : n < Rs.length := by omega
  refine join_mk (fun _ w' => bel w w' ∧ ∃ S, MapK 3 w' w.heap.size (n + 1) S ∧ ∀ k, k < 21 → S k = true → k ≤ n + 1) (fun K hK => ?_) ?_
  · refine YR.atB hb rfl hn' fun z r hr Z => ?_
    have R := hR n r hr
    refine call_mono (partP (c := 0) (Z.up hb) (L.up hb) R.id) ?_
    rintro (x16 : Hdr) w17 ⟨P16, h17⟩
    refine join_mk (fun _ w' => bel w17 w') (fun K2 hK2 => br_f rfl (hK2 _ _ (bel.refl _))) ?_
    rintro _ w20 hb20 _
    refine call_mono (textP (P16.up hb20) (by omega)) ?_
    rintro s w22 ⟨rfl, h22⟩
    have hb22 := hb20.trans h22
    have hbb := (hb.trans h17).trans hb22
    have M22 := (M.up h17).up hb22
    refine mk_look M22 (by omega) fun v => ?_
    have hS0 : S (n + 1) = false := by
      cases hq : S (n + 1) with
      | false => rfl
      | true => have := hS (n + 1) (by omega) hq; omega
    refine br_f hS0 ?_
    refine call_mono (textP (P16.up hb22) (by omega)) ?_
    rintro s w27 ⟨rfl, h27⟩
    refine mk_put undMI (plainElem_int undI (litwf ⟨by dsimp only; omega, by dsimp only; omega⟩)) (M22.up h27) (by omega) (by omega) fun w28 M28 g28 => ?_
    refine hK _ _ ⟨(hbb.trans h27).grownAt g28 (Nat.le_refl _), _, M28, fun k hk q => ?_⟩
    simp only [Bool.or_eq_true, beq_iff_eq] at q
    rcases q with q | q
    · omega
    · have := hS k hk q; omega
  · rintro _ w12 ⟨hb, S, M, hS⟩ _
    refine z_i64 (by omega) ?_
    exact hag _ hn' ⟨hb, S, M, hS⟩
end
end Go.Proofs.YtcfghfmlfgaeaaaGreatDoor

/- Package integrity: references, Violations, Valid. -/

namespace Go.Proofs.YtcfghfmlfgaeaaaGreatDoor
open Go.RowKit Go.Q Go.V Go.Bag

theorem okI_few {D : List TPar} {I : List Rows} (o : OkI D I) {k : Nat} {Rs : Rows} (h : I[k]? = some Rs) : Rs.length ≤ 20 := o.few Rs (List.mem_of_getElem? h)
theorem rd_head {w : World} {a : Addr} {cs : List Value} {h : Hdr} {t : TypeId} {K : (Hdr × Unit) → Prop} (F : Box w a cs) (h0 : cs[0]? = some (.slice h.1 h.2.1 h.2.2)) (ht : aggOf Tryz.prog t 1 = true) (hk : K (h, ())) : rd Tryz.prog (Instr.loadAt t (.pointer (some a))) (.agg [.slice]) w K :=
  rd_cells (vs := [.slice h.1 h.2.1 h.2.2]) ht (fun j v hj => by
    cases j with
    | zero => cases hj; exact F.cell h0
    | succ j => simp at hj) rfl hk
section
variable {w : World} {h g b : Hdr} {D : List TPar} {I : List Rows} {fa : Addr}
set_option maxHeartbeats 1600000 in
theorem foreignP (F : Box w fa (FinC h g b)) (B : Sl w b.1 b.2.1 b.2.2 1 (List.replicate D.length (.bool false))) (H : SchAt w h D) (hD : OkD D) (G : InsAt w g I) (oI : OkI D I) {k f : Nat} {t : TPar} (ht : D[k]? = some t) (hf : f < t.tos.length) :
    call Tryz.prog 122 [.pointer (some fa), .int .i64 (k : Int), .int .i64 (f : Int)] (.many []) w (fun (_ : Unit) w' => bel w w') := by
  have hk := (List.getElem?_eq_some_iff.1 ht).1
  have ok := hD.each k t ht
  obtain ⟨to, hto⟩ : ∃ to, t.tos[f]? = some to := ⟨_, List.getElem?_eq_getElem hf⟩
  have hto2 := ok.to to (List.mem_of_getElem? hto)
  have hbl : b.2.1 = D.length := by have := B.len; simp at this; omega
  refine call_of (S122_calls (some fa) k f w _ ?_)
  unfold S122
  refine nn_mk rfl ?_
  refine rd_head F rfl (by kernel_rfl) ?_
  refine call_mono (targetP H hD ht hto) ?_
  rintro (r : Int × Bool × Unit) w4 ⟨e1, e2, h4⟩
  refine br_f (by rw [e2]; rfl) ?_
  refine nn_mk rfl ?_
  refine rd_box (by kernel_rfl) (F.up h4) (i := 2) rfl rfl ?_
  refine at_mk (s := .bool) tyBo (by kernel_rfl) (B.up h4) (j := to) e1 (v := .bool false) (by rw [List.getElem?_replicate, if_pos (by omega)]) (x := false) rfl ?_
  refine br_f rfl ?_
  refine mt_made fun w10 M h10 => ?_
  have hb10 := h4.trans h10
  refine nn_mk rfl ?_
  refine rd_box (by kernel_rfl) (F.up hb10) (i := 1) rfl rfl ?_
  refine G.atB hb10 e1 (by rw [oI.len]; omega) fun y Rs hRs YR => ?_
  obtain ⟨t', ht'⟩ : ∃ t', D[to]? = some t' := ⟨_, List.getElem?_eq_getElem (by omega)⟩
  have hlen := YR.len
  have h20 := okI_few oI hRs
  refine loop_up Rs.length (fun n w' => bel w w' ∧ ∃ S, MapT w' w4.heap.size n S ∧ ∀ k, 1 ≤ k → k ≤ n → S k = true) ⟨hb10, _, M, fun k _ q => by omega⟩ fun n w17 hn ⟨hb, S, M, hS⟩ again hag _ => ?_
  refine br_dec (fun e => ?_) (fun e => ?_)
  · dsimp only at e
    have hn' : n < Rs.length := by omega
    refine YR.atB hb rfl hn' fun z r0 hr Z => ?_
    have R := oI.row to t' Rs n r0 ht' hRs hr
    refine nn_mk rfl ?_
    refine rd_box0 (by kernel_rfl) (F.up hb) rfl rfl ?_
    refine (H.up hb).fld (o := 2) e1 (by omega) (by kernel_rfl) fun x t'' ht'' T => ⟨x.2.2.1, rfl, ?_⟩
    refine call_mono (partP (c := 0) (Z.up hb) T.prim R.id) ?_
    rintro (x24 : Hdr) w25 ⟨P24, h25⟩
    refine call_mono (textP P24 (by omega)) ?_
    rintro s w27 ⟨rfl, h27⟩
    refine mt_put ((M.up h25).up h27) (by omega) (by omega) fun w28 M28 g28 => ?_
    refine z_i64 (by dsimp only; omega) ?_
    refine hag _ hn' ⟨((hb.trans h25).trans h27).grownAt g28 h4.size, _, M28, fun k h1 h2 => ?_⟩
    simp only [Bool.or_eq_true, beq_iff_eq]
    by_cases q : k = n + 1
    · exact .inl q
    · exact .inr (hS k h1 (by omega))
  · dsimp only at e
    have hnn : n = Rs.length := by omega
    subst hnn
    refine nn_mk rfl ?_
    refine rd_box (by kernel_rfl) (F.up hb) (i := 1) rfl rfl ?_
    refine G.atB hb rfl (by rw [oI.len]; exact hk) fun y2 Rk hRk YK => ?_
    have hlen2 := YK.len
    have h202 := okI_few oI hRk
    refine loop_up Rk.length (fun _ w' => bel w17 w') (bel.refl _) fun n w36 hn hb2 again2 hag2 _ => ?_
    refine br_dec (fun e => ?_) (fun e => ⟨(), rfl, hb.trans hb2⟩)
    dsimp only at e
    have hn' : n < Rk.length := by omega
    have hbb := hb.trans hb2
    refine join_mk (fun _ w' => bel w17 w') (fun K hK => ?_) ?_
    · refine YK.atB hbb rfl hn' fun z r0 hr Z => ?_
      have R := oI.row k t Rk n r0 ht hRk hr
      obtain ⟨m, R2, q1, q2, q3, q4⟩ := R.key f to hto
      obtain rfl : Rs = R2 := by rw [hRs] at q3; cases q3; rfl
      refine nn_mk rfl ?_
      refine rd_box0 (by kernel_rfl) (F.up hbb) rfl rfl ?_
      refine (H.up hbb).fld (o := 4) rfl hk (by kernel_rfl) fun x t2 ht2 T => ⟨x.2.2.2.2.1, rfl, ?_⟩
      obtain rfl : t = t2 := by rw [ht] at ht2; cases ht2; rfl
      refine T.fors.col rfl hf fun l L => ?_
      refine call_mono (partP (c := 1 + t.nf + f) (Z.up hbb) (by
        rw [show ((1 + t.nf + f : Nat) : Int) = 1 + (t.nf : Int) + (f : Int) by omega]; exact L) q1) ?_
      rintro (x49 : Hdr) w50 ⟨P49, h50⟩
      refine call_mono (partialP P49) ?_
      rintro bb w52 ⟨rfl, h52⟩
      refine br_t rfl ?_
      refine call_mono (textP (P49.up h52) (by omega)) ?_
      rintro s w54 ⟨rfl, h54⟩
      have h17 := ((hb2.trans h50).trans h52).trans h54
      refine mt_look (M.up h17) (by omega) ?_
      rw [hS m q2 q4]
      exact br_f rfl (hK _ _ h17)
    · rintro _ w39 hb2 _
      refine z_i64 (by omega) ?_
      exact hag2 _ hn' hb2
set_option maxHeartbeats 1600000 in
theorem constraintsP (F : Box w fa (FinC h g b)) (B : Sl w b.1 b.2.1 b.2.2 1 (List.replicate D.length (.bool false))) (H : SchAt w h D) (hD : OkD D) (G : InsAt w g I) (oI : OkI D I) {k : Nat} (hk : k < D.length) :
    call Tryz.prog 70 [.pointer (some fa), .int .i64 (k : Int)] (.many []) w (fun (_ : Unit) w' => bel w w') := by
  refine call_of (S70_calls (some fa) k w _ ?_)
  unfold S70
  refine nn_mk rfl ?_
  refine rd_box0 (by kernel_rfl) F rfl rfl ?_
  refine H.at rfl hk fun x t ht T => ?_
  have ok := hD.each k t ht
  have hk2 := ok.k2
  have hnt := T.nt
  have hu := T.uniq
  have hc := T.chks
  have e3 : x.2.2.2.1.2.1 = 0 := by rw [hu]
  have e5 : x.2.2.2.2.2.1.2.1 = 0 := by rw [hc]
  obtain ⟨Rs, hRs⟩ : ∃ Rs, I[k]? = some Rs := ⟨_, List.getElem?_eq_getElem (by rw [oI.len]; exact hk)⟩
  refine var_mk (z := .agg zTb.toArray) (v := tbv x) (by kernel_rfl) (by kernel_rfl) rfl rfl fun x5 w7 X5 h7 _ => ?_
  replace X5 : Box w7 x5 (tbc x) := X5
  refine rd_box (by kernel_rfl) X5 (i := 2) rfl rfl ?_
  refine call_mono (fkeyP (F.up h7) (G.up h7) hRs (fun n r hr => oI.row k t Rs n r ht hRs hr) oI.few (T.prim.up h7) 4) ?_
  rintro _ w10 h10
  have hb10 := h7.trans h10
  refine rd_box (by kernel_rfl) (X5.up h10) (i := 3) rfl rfl ?_
  refine loop_up 0 (fun _ w' => bel w7 w') h10 fun j w14 hj hb again hag _ => ?_
  refine br_dec (fun e => by dsimp only at e; omega) (fun _ => ?_)
  refine rd_box (by kernel_rfl) (X5.up hb) (i := 4) rfl rfl ?_
  refine loop_up t.tos.length (fun _ w' => bel w7 w') hb fun f w23 hf hb again2 hag2 _ => ?_
  refine br_dec (fun e => ?_) (fun e => ?_)
  · dsimp only at e
    have hf' : f < t.tos.length := by omega
    have hbb := h7.trans hb
    refine call_mono (foreignP (F.up hbb) (B.up hbb) (H.up hbb) hD (G.up hbb) oI ht hf') ?_
    rintro _ w25 h25
    refine z_i64 (by dsimp only; omega) ?_
    exact hag2 _ hf' (hb.trans h25)
  · refine rd_box (by kernel_rfl) (X5.up hb) (i := 5) rfl rfl ?_
    refine loop_up 0 (fun _ w' => bel w7 w') hb fun j w30 hj hb again hag _ => ?_
    exact br_dec (fun e => by dsimp only at e; omega) (fun _ => ⟨(), rfl, h7.trans hb⟩)
set_option maxHeartbeats 1600000 in
theorem violationsP (H : SchAt w h D) (hD : OkD D) (hm : ML w) (G : InsAt w g I) (oI : OkI D I) :
    call Tryz.prog 33 [.agg #[.slice h.1 h.2.1 h.2.2], .agg #[.slice g.1 g.2.1 g.2.2]] (.many [.one .slice, .one (.int .i64)]) w (fun (x : Hdr × Int × Unit) w' => x.1.2.1 = 0 ∧ x.2.1 = 0 ∧ bel w w') := by
  have hl := H.len
  have hd2 := hD.d2
  have hgl := G.len
  have hil := oI.len
  refine call_of (S33_calls h.1 h.2.1 h.2.2 g.1 g.2.1 g.2.2 w _ ?_)
  unfold S33
  refine wr_box fun x1 w2 X1 h2 _ _ => ?_
  refine wr_box fun x3 w4 X3 h4 _ _ => ?_
  replace X1 : Box w4 x1 [.slice h.1 h.2.1 h.2.2] := Box.up (show Box w2 x1 [.slice h.1 h.2.1 h.2.2] from X1) h4
  replace X3 : Box w4 x3 [.slice g.1 g.2.1 g.2.2] := X3
  have hb4 := h2.trans h4
  refine rd_boxN X1 (by kernel_rfl) rfl ?_
  refine call_mono (validP (H.up hb4) hD (hm.up hb4)) ?_
  rintro r w7 ⟨rfl, h7⟩
  replace X1 := X1.up h7; replace X3 := X3.up h7
  have hb7 := hb4.trans h7
  refine br_f rfl ?_
  refine rd_box0 (by kernel_rfl) X3 rfl rfl ?_
  refine rd_box0 (by kernel_rfl) X1 rfl rfl ?_
  refine br_ne (fun e => by dsimp only at e; omega) (fun _ => ?_)
  refine rd_boxN X1 (by kernel_rfl) rfl ?_
  refine rd_boxN X3 (by kernel_rfl) rfl ?_
  refine wr_box fun fa w13 F h13 hfa _ => ?_
  replace F : Box w13 fa [.slice h.1 h.2.1 h.2.2, .slice g.1 g.2.1 g.2.2, .slice none 0 0, .slice none 0 0] := F
  have hlt1 := X1.lt
  have hlt3 := X3.lt
  replace X1 := X1.up h13; replace X3 := X3.up h13
  refine rd_box0 (by kernel_rfl) X1 rfl rfl ?_
  have hfl := F.lt
  have H7 := H.up hb7
  have G7 := G.up hb7
  refine loop_up h.2.1 (fun j w' => bel w7 w' ∧ w13.heap.size ≤ w'.heap.size ∧ Box w' x1 [.slice h.1 h.2.1 h.2.2] ∧ Box w' x3 [.slice g.1 g.2.1 g.2.2] ∧ ∃ b : Hdr, Box w' fa (FinC h g b) ∧ Own w' w13.heap.size 4 1 b.1 b.2.1 b.2.2 (List.replicate j (.bool false))) ⟨h13, Nat.le_refl _, X1, X3, (none, 0, 0), F, Own.nil _ _ _ _⟩ fun j w17 hj ⟨hb, hz, Y1, Y3, b, FB, O⟩ again hag _ => ?_
  have hbl : b.2.1 = j := by have := O.1; simp at this; omega
  refine br_dec (fun e => ?_) (fun e => ?_)
  · dsimp only at e
    have hj' : j < D.length := by omega
    refine H7.atB hb rfl hj' fun x t ht T => ?_
    have ok := hD.each j t ht
    refine var_mk (z := .agg zTb.toArray) (v := tbv x) (by kernel_rfl) (by kernel_rfl) rfl rfl fun x20 w22 X20 h22 _ => ?_
    replace X20 : Box w22 x20 (tbc x) := X20
    refine drw_mk fun w23 h23 _ => ?_
    replace X20 := X20.up h23
    have h1723 := h22.trans h23
    replace FB := FB.up h1723; replace O := Own.kept O h1723; replace Y1 := Y1.up h1723; replace Y3 := Y3.up h1723
    have hb23 := hb.trans h1723
    refine flEx_mk (fun i ags v w' => (i = 11 → v = .bool false) ∧ (i = 12 → ∃ ad c, v = .slice (some ad) 1 1 ∧ ags = [.bool c] ∧ Sl w' (some ad) 1 1 1 [.bool c])) (fun i ags v w1 w2 q hb => ⟨q.1, fun e => by
      obtain ⟨ad, c, a1, a2, a3⟩ := q.2 e
      exact ⟨ad, c, a1, a2, a3.up hb⟩⟩) ?_
    refine nn_mk rfl ?_
    refine rd_box (by kernel_rfl) FB (i := 2) rfl rfl ?_
    refine rd_boxN X20 (by kernel_rfl) rfl ?_
    refine rd_box0 (by kernel_rfl) Y3 rfl rfl ?_
    refine G7.atB hb23 rfl (by omega) fun y Rs hRs YR => ?_
    refine flc_mk (fun w31 h31 _ => ?_) (fun x35 => ?_)
    · refine call_mono (misP ((T.up hb23).up h31) ok ((YR.up hb23).up h31) (fun n r hr => oI.row j t Rs n r ht hRs hr) (List.mem_of_getElem? hRs) oI.few) ?_
      rintro bb w34 ⟨rfl, h34⟩
      exact ⟨h34, fun _ => rfl, fun e => by cases e⟩
    refine flc_mk (fun w36 h36 _ => ?_) (fun x40 => ?_)
    · refine wr_lit tyBo #[.bool x35] (fill_one 1 (.bool x35) _ rfl (by simp)) (by omega) (by omega) rfl (by unfold maxLen; omega) fun ad w39 O' h39 _ _ => ?_
      refine ⟨h39, ⟨(fun e => by cases e), fun _ => ⟨ad, x35, rfl, rfl, (O' _ (Nat.le_refl _)).sl⟩⟩⟩
    refine flend_mk fun w41 h41 f => ?_
    obtain ⟨ad, c, q1, q2, q3⟩ := f.1.2 rfl
    have hx := inj_b (f.2.1.1 rfl)
    subst hx
    injection q2 with q2 _
    have hcf := inj_b q2
    subst hcf
    obtain ⟨u1, u2, u3⟩ := x40
    injection q1 with q11 q12 q13
    dsimp only at q11 q12 q13
    subst q11; subst q12; subst q13
    have FB41 := FB.up h41
    have O41 := Own.kept O h41
    have hb41 := hb23.trans h41
    have hz41 : w13.heap.size ≤ w41.heap.size := by have := h1723.size; have := h41.size; omega
    refine wr_app tyBo O41 q3 hz41 rfl (by omega) rfl (by omega) (by unfold maxLen; omega) fun a' c' w44 O44 g44 _ s44 => ?_
    have hnb : ∀ {ad : Addr}, ad.block < w13.heap.size → some ad.block ≠ blk b.1 := fun hlt q => by
      have := (O41.lt _ q.symm).1; omega
    have FB44 := FB41.grown g44 (hnb hfl)
    refine nn_mk rfl ?_
    refine wu_boxi FB44 (i := 2) (by kernel_rfl) (by simp) rfl fun w46 F46 g46 s46 => ?_
    refine z_i64 (by dsimp only; omega) ?_
    have O46 := O44.keptBy g46 (by
      cases hq : blk a' with
      | none => exact .inl rfl
      | some k => exact .inr fun q => by have := (O44.lt k hq).1; injection q; omega)
    have hb44 := bel.own hb41 O41 g44 (by have := h13.size; omega)
    refine hag _ (by omega) ⟨hb44.grownAt g46 (by omega), by omega, ?_, ?_, (a', b.2.1 + 1, c'), F46, ?_⟩
    · exact ((Y1.up h41).grown g44 (hnb (by have := X1.lt; omega))).grown g46 (by intro q; injection q; omega)
    · exact ((Y3.up h41).grown g44 (hnb (by have := X3.lt; omega))).grown g46 (by intro q; injection q; omega)
    · rw [List.replicate_succ']
      exact O46
  · dsimp only at e
    have hjD : j = D.length := by omega
    subst hjD
    refine rd_box0 (by kernel_rfl) Y1 rfl rfl ?_
    refine loop_up h.2.1 (fun _ w' => bel w17 w') (bel.refl _) fun k w51 hk hb2 again2 hag2 _ => ?_
    have hbb := hb.trans hb2
    refine br_dec (fun e => ?_) (fun e => ?_)
    · dsimp only at e
      have hk' : k < D.length := by omega
      refine join_mk (fun _ w' => bel w17 w') (fun K hK => ?_) ?_
      · refine call_mono (rowsP (FB.up hb2) (H7.up hbb) hD (G7.up hbb) oI hk') ?_
        rintro _ w57 h57
        refine nn_mk rfl ?_
        refine rd_box (by kernel_rfl) ((FB.up hb2).up h57) (i := 2) rfl rfl ?_
        refine at_mk (s := .bool) tyBo (by kernel_rfl) (O.sl.up (hb2.trans h57)) (j := k) rfl (v := .bool false) (by rw [List.getElem?_replicate, if_pos (by omega)]) (x := false) rfl ?_
        refine br_t rfl ?_
        refine call_mono (constraintsP ((FB.up hb2).up h57) (O.sl.up (hb2.trans h57)) ((H7.up hbb).up h57) hD ((G7.up hbb).up h57) oI hk') ?_
        rintro _ w63 h63
        exact hK _ _ ((hb2.trans h57).trans h63)
      · rintro _ w54 hb2 _
        refine z_i64 (by omega) ?_
        exact hag2 _ (by omega) hb2
    · refine nn_mk rfl ?_
      refine rd_box (by kernel_rfl) (FB.up hb2) (s := .slice) (i := 3) (x := ((none, 0, 0) : Hdr)) rfl rfl ?_
      exact ⟨((none, 0, 0), (0 : Int), ()), rfl, rfl, rfl, hb7.trans hbb⟩
theorem ivalidP (H : SchAt w h D) (hD : OkD D) (hm : ML w) (G : InsAt w g I) (oI : OkI D I) :
    call Tryz.prog 10 [.agg #[.slice h.1 h.2.1 h.2.2], .agg #[.slice g.1 g.2.1 g.2.2]] (.one (.one .bool)) w (fun (b : Bool) w' => b = true ∧ bel w w') := by
  refine call_of (S10_calls h.1 h.2.1 h.2.2 g.1 g.2.1 g.2.2 w _ ?_)
  unfold S10
  refine wr_box fun x1 w2 X1 h2 _ _ => ?_
  refine wr_box fun x3 w4 X3 h4 _ _ => ?_
  replace X1 : Box w4 x1 [.slice h.1 h.2.1 h.2.2] := Box.up (show Box w2 x1 [.slice h.1 h.2.1 h.2.2] from X1) h4
  replace X3 : Box w4 x3 [.slice g.1 g.2.1 g.2.2] := X3
  have hb4 := h2.trans h4
  refine rd_boxN X1 (by kernel_rfl) rfl ?_
  refine rd_boxN X3 (by kernel_rfl) rfl ?_
  refine call_mono (violationsP (H.up hb4) hD (hm.up hb4) (G.up hb4) oI) ?_
  rintro (x7 : Hdr × Int × Unit) w8 ⟨e1, e2, h8⟩
  refine br_t (by rw [e2]; rfl) ⟨true, by rw [e1]; rfl, rfl, hb4.trans h8⟩
end
end Go.Proofs.YtcfghfmlfgaeaaaGreatDoor

/- Package privacy: free columns; what fits. -/

namespace Go.Proofs.YtcfghfmlfgaeaaaGreatDoor
open Go.RowKit Go.Q Go.V Go.Bag

def isFree (t : TPar) (c : Nat) : Bool := decide (1 ≤ c ∧ c ≤ t.nf)
section
variable {w : World} {i : Nat} {x : TH} {t : TPar}
theorem freeP (T : TbAt w i x t) (ok : t.Ok i) {c : Nat} (hc : c < t.nc) :
    call Tryz.prog 23 [tbv x, .int .i64 (c : Int)] (.one (.one .bool)) w (fun (b : Bool) w' => b = isFree t c ∧ bel w w') := by
  have hn := T.nc
  have hf := T.nt
  have hk2 := ok.k2
  refine call_of (S23_calls x.1 x.2.1.1 x.2.1.2.1 x.2.1.2.2 x.2.2.1.1 x.2.2.1.2.1 x.2.2.1.2.2 x.2.2.2.1.1 x.2.2.2.1.2.1 x.2.2.2.1.2.2 x.2.2.2.2.1.1 x.2.2.2.2.1.2.1 x.2.2.2.2.1.2.2 x.2.2.2.2.2.1.1 x.2.2.2.2.2.1.2.1 x.2.2.2.2.2.1.2.2 c w _ ?_)
  unfold S23
  refine wr_box fun x1 w2 X1 h2 _ _ => ?_
  refine wr_box fun x3 w4 X3 h4 _ _ => ?_
  replace X1 : Box w4 x1 (tbc x) := Box.up (show Box w2 x1 (tbc x) from X1) h4
  replace X3 : Box w4 x3 [.int .i64 (c : Int)] := X3
  have hb := h2.trans h4
  refine rd_box (by kernel_rfl) X1 (i := 2) rfl rfl ?_
  refine rd_box0 (by kernel_rfl) X3 rfl rfl ?_
  refine call_mono (containsI x.2.2.1 [0] (c : Int) w4 (T.prim.up hb)) ?_
  rintro b w8 ⟨rfl, h8⟩
  have hb8 := hb.trans h8
  refine br_mk (fun e => ?_) (fun e => ?_)
  · have hc0 : c ≠ 0 := by rintro rfl; simp at e
    refine rd_box (by kernel_rfl) (X1.up h8) (i := 4) rfl rfl ?_
    refine call_mono (r := .one (.one .bool)) (Q := fun (b : Bool) w' => b = decide (t.nf < c) ∧ bel w8 w') (call_of (S49f_calls x.2.2.2.2.1.1 x.2.2.2.2.1.2.1 x.2.2.2.2.1.2.2 x3 w8 _ ?_)) ?_
    · unfold S49f
      refine call_mono (r := .one (.one (.int .i64))) (Q := RIdx (fun j => decide (c = 1 + t.nf + j)) x.2.2.2.2.1.2.1 w8) (call_of (S88f_calls x.2.2.2.2.1.1 x.2.2.2.2.1.2.1 x.2.2.2.2.1.2.2 x3 w8 _ ?_)) ?_
      · unfold S88f
        refine scanC (vs := .agg [.slice, .str]) (fargs := fun z => [.agg #[.slice z.1.1 z.1.2.1 z.1.2.2, .string z.2.1], .pointer (some x3)]) _ (by omega) (fun j hj w' hb' K hK => ?_)
        refine (T.fors.up hb8).atB hb' rfl (by omega) fun y to hto S => ?_
        refine call_of (S50_calls y.1 y.2.1 y.2.2 (nm 116 to) x3 w' _ ?_)
        unfold S50
        refine wr_box fun y1 w5 Y1 h5 _ _ => ?_
        replace Y1 : Box w5 y1 [.slice y.1 y.2.1 y.2.2, .string (nm 116 to)] := Y1
        refine rd_box0 (by kernel_rfl) Y1 rfl rfl ?_
        refine rd_box0 (by kernel_rfl) (((X3.up h8).up hb').up h5) rfl rfl ?_
        refine call_mono (containsI y [1 + (t.nf : Int) + (j : Int)] (c : Int) w5 ((S.up hb').up h5)) ?_
        rintro b w6 ⟨rfl, h6⟩
        refine ⟨_, rfl, ?_⟩
        have := hK w6 (h5.trans h6)
        have e2 : decide ((c : Int) ∈ [1 + (t.nf : Int) + (j : Int)]) = decide (c = 1 + t.nf + j) := by
          simp only [List.mem_singleton]
          exact decide_eq_decide.2 (by omega)
        rw [e2]; exact this
      · rintro r w' ⟨hr, hb⟩
        refine ⟨_, rfl, ?_, hb⟩
        rw [hr]
        by_cases hq : t.nf < c
        · rw [idxN_at (j := c - 1 - t.nf) (by have : t.nc = 1 + t.nf + t.tos.length := rfl; omega) (decide_eq_true (by omega)) (fun k hk => decide_eq_false (by omega)), decide_eq_true (by omega), decide_eq_true hq]
        · rw [any_none (fun j _ => decide_eq_false (by omega)), decide_eq_false hq]
    · rintro b w11 ⟨rfl, h11⟩
      refine ⟨_, rfl, ?_, hb8.trans h11⟩
      unfold isFree
      rw [← decide_not]
      exact decide_eq_decide.2 (by omega)
  · refine ⟨_, rfl, ?_, hb8⟩
    unfold isFree
    have : c = 0 := by simp at e; omega
    rw [decide_eq_false (by omega)]
/-! ### what fits -/
def frees (n : Nat) : List Int := (List.range n).map fun k : Nat => 1 + (k : Int)
theorem frees_get {n j : Nat} (h : j < n) : (frees n)[j]? = some (1 + (j : Int)) := by
  unfold frees; rw [List.getElem?_map, List.getElem?_range h]; rfl
theorem frees_mem {n c : Nat} : (c : Int) ∈ frees n ↔ 1 ≤ c ∧ c ≤ n := by
  unfold frees
  rw [List.mem_map]
  constructor
  · rintro ⟨k, hk, e⟩
    have := List.mem_range.1 hk
    omega
  · rintro ⟨a, b⟩
    exact ⟨c - 1, List.mem_range.2 (by omega), by omega⟩
def ProtAt (w : World) (p : Hdr) (D : List TPar) : Prop := ∃ hs : List Hdr, Sl w p.1 p.2.1 p.2.2 1 (hs.map hv) ∧ hs.length = D.length ∧ ∀ (k : Nat) y t, hs[k]? = some y → D[k]? = some t → Sl w y.1 y.2.1 y.2.2 1 (ints .i64 (frees t.nf))
theorem ProtAt.up {w w' : World} {p : Hdr} {D : List TPar} (H : ProtAt w p D) (hb : bel w w') : ProtAt w' p D := by
  obtain ⟨hs, h1, h2, h3⟩ := H
  exact ⟨hs, h1.up hb, h2, fun k y t a b => (h3 k y t a b).up hb⟩
theorem ProtAt.len {w : World} {p : Hdr} {D : List TPar} (H : ProtAt w p D) : p.2.1 = D.length := by
  obtain ⟨hs, h1, h2, _⟩ := H
  have := h1.len
  simp at this; omega
theorem ProtAt.atB {w w' : World} {p : Hdr} {D : List TPar} (H : ProtAt w p D) (hb : bel w w') {i : Int} {k : Nat} {kk : IntKind} {t : TPar} (hi : i = (k : Int)) (ht : D[k]? = some t) {K : Hdr → Prop} (hk : ∀ y, Sl w y.1 y.2.1 y.2.2 1 (ints .i64 (frees t.nf)) → K y) :
    rdp Tryz.prog (Instr.indexAt 36 (.slice p.1 p.2.1 p.2.2) (.int kk i)) (.one .addr) fun ad => rd Tryz.prog (Instr.loadAt 22 (.pointer (some ad))) (.one .slice) w' K := by
  have hl := H.len
  obtain ⟨hs, h1, h2, h3⟩ := H
  have hkl := (List.getElem?_eq_some_iff.1 ht).1
  exact at_hdr tyLI (by kernel_rfl) (h1.up hb) hi (by omega) fun y hy => hk y (h3 k y t hy ht)
end
section
variable {w : World} {h g p : Hdr} {D : List TPar} {I : List Rows}
set_option maxHeartbeats 800000 in
theorem fitsP (H : SchAt w h D) (hD : OkD D) (hm : ML w) (G : InsAt w g I) (oI : OkI D I) (P : ProtAt w p D) {th : Int} (hth : 1 ≤ th) :
    call Tryz.prog 22 [.agg #[.slice h.1 h.2.1 h.2.2], .agg #[.slice g.1 g.2.1 g.2.2], .slice p.1 p.2.1 p.2.2, .int .i64 th] (.one (.one (.int .i64))) w (fun (r : Int) w' => r = 0 ∧ bel w w') := by
  have hl := H.len
  have hd2 := hD.d2
  have hpl := P.len
  have hgl := G.len
  have hil := oI.len
  refine call_of (S22_calls h.1 h.2.1 h.2.2 g.1 g.2.1 g.2.2 p.1 p.2.1 p.2.2 th w _ ?_)
  unfold S22
  refine wr_box fun x1 w2 X1 h2 _ _ => ?_
  refine wr_box fun x3 w4 X3 h4 _ _ => ?_
  replace X1 : Box w4 x1 [.slice h.1 h.2.1 h.2.2] := Box.up (show Box w2 x1 [.slice h.1 h.2.1 h.2.2] from X1) h4
  replace X3 : Box w4 x3 [.slice g.1 g.2.1 g.2.2] := X3
  have hb4 := h2.trans h4
  refine rd_boxN X1 (by kernel_rfl) rfl ?_
  refine call_mono (PlainP (H.up hb4) hD (hm.up hb4)) ?_
  rintro b w7 ⟨rfl, h7⟩
  replace X1 := X1.up h7; replace X3 := X3.up h7
  have hb7 := hb4.trans h7
  refine br_f rfl ?_
  refine rd_boxN X1 (by kernel_rfl) rfl ?_
  refine rd_boxN X3 (by kernel_rfl) rfl ?_
  refine call_mono (ivalidP (H.up hb7) hD (hm.up hb7) (G.up hb7) oI) ?_
  rintro b w11 ⟨rfl, h11⟩
  replace X1 := X1.up h11; replace X3 := X3.up h11
  have hb11 := hb7.trans h11
  refine br_f rfl ?_
  refine br_dec (fun e => absurd e (by omega)) (fun _ => ?_)
  refine rd_box0 (by kernel_rfl) X3 rfl rfl ?_
  refine call_mono (r := .one (.one .bool)) (Q := fun (b : Bool) w' => b = false ∧ bel w11 w') (call_of (S45f_calls g.1 g.2.1 g.2.2 w11 _ ?_)) ?_
  · unfold S45f
    refine call_mono (r := .one (.one (.int .i64))) (Q := RIdx (fun _ => false) g.2.1 w11) (call_of (S86f_calls g.1 g.2.1 g.2.2 w11 _ ?_)) ?_
    · unfold S86f
      refine scanC (vs := .one .slice) (fargs := fun z : Hdr => [.slice z.1 z.2.1 z.2.2]) _ (by omega) (fun j hj w' hb K hK => ?_)
      refine (G.up hb11).atB hb rfl (by omega) fun y Rs hRs YR => ?_
      have h20 := okI_few oI hRs
      have hyl := YR.len
      refine call_of (S46_calls y.1 y.2.1 y.2.2 w' _ ?_)
      unfold S46
      refine ⟨false, ?_, hK _ (bel.refl _)⟩
      rw [decide_eq_false (by omega)]; rfl
    · rintro r w' ⟨hr, hb⟩
      exact ⟨_, rfl, by rw [hr]; exact any_none fun _ _ => rfl, hb⟩
  rintro b w14 ⟨rfl, h14⟩
  replace X1 := X1.up h14
  have hb14 := hb11.trans h14
  refine br_f rfl ?_
  refine rd_box0 (by kernel_rfl) X1 rfl rfl ?_
  refine br_ne (fun e => by dsimp only at e; omega) (fun _ => ?_)
  refine loop_up p.2.1 (fun _ w' => bel w14 w') (bel.refl _) fun k w18 hk hb again hag _ => ?_
  refine br_dec (fun e => ?_) (fun e => ⟨(0 : Int), rfl, rfl, hb14.trans hb⟩)
  dsimp only at e
  have hk' : k < D.length := by omega
  obtain ⟨t, ht⟩ : ∃ t, D[k]? = some t := ⟨_, List.getElem?_eq_getElem hk'⟩
  have ok := hD.each k t ht
  have hf2 := ok.f2
  have hbb := hb14.trans hb
  refine P.atB hbb rfl ht fun y Y => ?_
  have hyl : y.2.1 = t.nf := by have := Y.int; simp [frees] at this; omega
  refine rd_box0 (by kernel_rfl) (X1.up hb) rfl rfl ?_
  refine (H.up hb14).atB hb rfl hk' fun x t' ht' T => ?_
  obtain rfl : t = t' := by rw [ht] at ht'; cases ht'; rfl
  refine var_mk (z := .agg zTb.toArray) (v := tbv x) (by kernel_rfl) (by kernel_rfl) rfl rfl fun x24 w26 X24 h26 _ => ?_
  replace X24 : Box w26 x24 (tbc x) := X24
  replace hbb := hbb.trans h26
  have T26 := (T.up hb).up h26
  have hnc := T.nc
  refine call_mono (r := .one (.one .bool)) (Q := fun (b : Bool) w' => b = false ∧ bel w26 w') (call_of (S47f_calls y.1 y.2.1 y.2.2 x24 w26 _ ?_)) ?_
  · unfold S47f
    refine call_mono (r := .one (.one (.int .i64))) (Q := RIdx (fun _ => false) y.2.1 w26) (call_of (S87f_calls y.1 y.2.1 y.2.2 x24 w26 _ ?_)) ?_
    · unfold S87f
      refine scanC (vs := .one (.int .i64)) (fargs := fun z : Int => [.int .i64 z, .pointer (some x24)]) _ (by show y.2.1 ≤ _; have : t.nf ≤ 2 := hf2; omega) (fun j hj w' hb' K hK => ?_)
      refine at_int tyI (by kernel_rfl) ((Y.up hbb).up hb') (j := j) rfl (by omega) fun z hz => ?_
      rw [frees_get (by omega)] at hz
      obtain rfl : 1 + (j : Int) = z := by simpa using hz
      refine call_of (S48_calls (1 + (j : Int)) x24 w' _ ?_)
      unfold S48
      refine br_dec (fun e => absurd e (by omega)) (fun _ => ?_)
      refine rd_box (by kernel_rfl) (X24.up hb') (i := 1) rfl rfl ?_
      have hnn : t.nc = 1 + t.nf + t.tos.length := rfl
      refine br_dec (fun e => by dsimp only at e; omega) (fun _ => ?_)
      refine rd_boxN (X24.up hb') (by kernel_rfl) rfl ?_
      rw [show 1 + (j : Int) = ((1 + j : Nat) : Int) by omega]
      refine call_mono (freeP (T26.up hb') ok (c := 1 + j) (by omega)) ?_
      rintro b w4 ⟨rfl, h4⟩
      refine ⟨false, ?_, hK _ h4⟩
      unfold isFree
      rw [decide_eq_true (by omega)]; rfl
    · rintro r w' ⟨hr, hb⟩
      exact ⟨_, rfl, by rw [hr]; exact any_none fun _ _ => rfl, hb⟩
  rintro b w28 ⟨rfl, h28⟩
  refine br_f rfl ?_
  refine z_i64 (by dsimp only; omega) ?_
  exact hag _ (by omega) ((hb.trans h26).trans h28)
end
end Go.Proofs.YtcfghfmlfgaeaaaGreatDoor

/- Library functions: slices.SortFunc at values, math/bits.Mul: the kit's contracts laid at this seat (printed by the kit's shelf tool). -/




namespace Go.Proofs.YtcfghfmlfgaeaaaGreatDoor
open Go.Shelf
def lays54_ren : Go.Shelf.Ren := ⟨fun | 6 => 54 | 15 => 95 | 14 => 94 | 28 => 168 | 29 => 169 | 20 => 160 | 21 => 161 | 22 => 162 | 23 => 163 | 24 => 164 | 25 => 165 | 26 => 166 | 27 => 167 | 46 => 227 | 47 => 228 | 48 => 229 | 49 => 230 | 50 => 231 | 57 => 284 | n => n, fun | 22 => 56 | 24 => 55 | 25 => 103 | 3 => 3 | 39 => 128 | 0 => 0 | 53 => 204 | 55 => 23 | 4 => 4 | 46 => 214 | 45 => 213 | 50 => 73 | 5 => 5 | 9 => 9 | 66 => 262 | 70 => 266 | 76 => 297 | 77 => 298 | n => n, fun | n => n⟩
theorem lays54 : Go.Proofs.SlLaysF0.n6 Tryz.prog lays54_ren := {
  mixed := by kernel_rfl
  f6 := ⟨Tryz.f54.name, by decide, Tryz.func54.trans (congrArg some (by kernel_rfl))⟩
  f14 := ⟨Tryz.f94.name, by decide, Tryz.func94.trans (congrArg some (by kernel_rfl))⟩
  f15 := Tryz.func95.trans (congrArg some (by kernel_rfl))
  f20 := ⟨Tryz.f160.name, by decide, Tryz.func160.trans (congrArg some (by kernel_rfl))⟩
  f21 := ⟨Tryz.f161.name, by decide, Tryz.func161.trans (congrArg some (by kernel_rfl))⟩
  f22 := ⟨Tryz.f162.name, by decide, Tryz.func162.trans (congrArg some (by kernel_rfl))⟩
  f23 := ⟨Tryz.f163.name, by decide, Tryz.func163.trans (congrArg some (by kernel_rfl))⟩
  f24 := ⟨Tryz.f164.name, by decide, Tryz.func164.trans (congrArg some (by kernel_rfl))⟩
  f25 := ⟨Tryz.f165.name, by decide, Tryz.func165.trans (congrArg some (by kernel_rfl))⟩
  f26 := ⟨Tryz.f166.name, by decide, Tryz.func166.trans (congrArg some (by kernel_rfl))⟩
  f27 := ⟨Tryz.f167.name, by decide, Tryz.func167.trans (congrArg some (by kernel_rfl))⟩
  f28 := Tryz.func168.trans (congrArg some (by kernel_rfl))
  f29 := Tryz.func169.trans (congrArg some (by kernel_rfl))
  f46 := ⟨Tryz.f227.name, by decide, Tryz.func227.trans (congrArg some (by kernel_rfl))⟩
  f47 := Tryz.func228.trans (congrArg some (by kernel_rfl))
  f48 := Tryz.func229.trans (congrArg some (by kernel_rfl))
  f49 := ⟨Tryz.f230.name, by decide, Tryz.func230.trans (congrArg some (by kernel_rfl))⟩
  f50 := ⟨Tryz.f231.name, by decide, Tryz.func231.trans (congrArg some (by kernel_rfl))⟩
  f57 := ⟨Tryz.f284.name, by decide, Tryz.func284.trans (congrArg some (by kernel_rfl))⟩
  t0 := Tryz.underlying0
  a0 := Tryz.isAgg0
  z0 := Tryz.sizeOf0
  v0 := Tryz.zeroValue0
  t3 := Tryz.underlying3
  a3 := Tryz.isAgg3
  z3 := Tryz.sizeOf3
  v3 := Tryz.zeroValue3
  t4 := Tryz.underlying4
  a4 := Tryz.isAgg4
  z4 := Tryz.sizeOf4
  v4 := Tryz.zeroValue4
  t5 := Tryz.underlying5
  a5 := Tryz.isAgg5
  z5 := Tryz.sizeOf5
  v5 := Tryz.zeroValue5
  t9 := Tryz.underlying9
  a9 := Tryz.isAgg9
  z9 := Tryz.sizeOf9
  v9 := Tryz.zeroValue9
  t22 := Tryz.underlying56
  a22 := Tryz.isAgg56
  z22 := Tryz.sizeOf56
  v22 := Tryz.zeroValue56
  t25 := Tryz.underlying103
  a25 := Tryz.isAgg103
  z25 := Tryz.sizeOf103
  v25 := Tryz.zeroValue103
  t39 := Tryz.underlying128
  a39 := Tryz.isAgg128
  z39 := Tryz.sizeOf128
  v39 := Tryz.zeroValue128
  t45 := Tryz.underlying213
  a45 := Tryz.isAgg213
  z45 := Tryz.sizeOf213
  v45 := Tryz.zeroValue213
  t46 := Tryz.underlying214
  a46 := Tryz.isAgg214
  z46 := Tryz.sizeOf214
  v46 := Tryz.zeroValue214
  t50 := Tryz.underlying73
  a50 := Tryz.isAgg73
  z50 := Tryz.sizeOf73
  v50 := Tryz.zeroValue73
  t53 := Tryz.underlying204
  a53 := Tryz.isAgg204
  z53 := Tryz.sizeOf204
  v53 := Tryz.zeroValue204
  t55 := Tryz.underlying23
  a55 := Tryz.isAgg23
  z55 := Tryz.sizeOf23
  v55 := Tryz.zeroValue23
  t66 := Tryz.underlying262
  a66 := Tryz.isAgg262
  z66 := Tryz.sizeOf262
  v66 := Tryz.zeroValue262
  t70 := Tryz.underlying266
  a70 := Tryz.isAgg266
  z70 := Tryz.sizeOf266
  v70 := Tryz.zeroValue266
  t76 := Tryz.underlying297
  a76 := Tryz.isAgg297
  z76 := Tryz.sizeOf297
  v76 := Tryz.zeroValue297
  t77 := Tryz.underlying298
  a77 := Tryz.isAgg298
  z77 := Tryz.sizeOf298
  v77 := Tryz.zeroValue298 }
def laysMul_ren : Go.Shelf.Ren := ⟨fun | 212 => 89 | 263 => 152 | 264 => 153 | n => n, fun | 46 => 128 | 51 => 204 | 146 => 205 | 53 => 23 | 148 => 207 | n => n, fun | n => n⟩
theorem laysMul : Go.Proofs.Lays.n212 Tryz.prog laysMul_ren := {
  mixed := by kernel_rfl
  f212 := Tryz.func89.trans (congrArg some (by kernel_rfl))
  f263 := Tryz.func152.trans (congrArg some (by kernel_rfl))
  f264 := Tryz.func153.trans (congrArg some (by kernel_rfl))
  t46 := Tryz.underlying128
  a46 := Tryz.isAgg128
  z46 := Tryz.sizeOf128
  v46 := Tryz.zeroValue128
  t51 := Tryz.underlying204
  a51 := Tryz.isAgg204
  z51 := Tryz.sizeOf204
  v51 := Tryz.zeroValue204
  t53 := Tryz.underlying23
  a53 := Tryz.isAgg23
  z53 := Tryz.sizeOf23
  v53 := Tryz.zeroValue23
  t146 := Tryz.underlying205
  a146 := Tryz.isAgg205
  z146 := Tryz.sizeOf205
  v146 := Tryz.zeroValue205
  t148 := Tryz.underlying207
  a148 := Tryz.isAgg207
  z148 := Tryz.sizeOf207
  v148 := Tryz.zeroValue207 }
end Go.Proofs.YtcfghfmlfgaeaaaGreatDoor

/- The conditions of functions, printed by our tool; each is checked against the code by the kernel. -/



namespace Go.Proofs
open Go Go.V Go.RowKit
open Tryz (prog)
set_option maxRecDepth 100000
def S55d (a_0 a_1 : Int) (a_2 : ByteArray) (b_0 b_1 : Int) (b_2 : ByteArray) (w0 : World) (R : KR) : Prop :=
 wr prog (Instr.box 55 (.agg #[ji a_0, ji a_1, .string a_2])) oA w0 fun (x1 : Addr) w2 =>
 wr prog (Instr.box 55 (.agg #[ji b_0, ji b_1, .string b_2])) oA w2 fun (x3 : Addr) w4 =>
 drw w4 fun w5 => flExC w5 fun E8 G7 Y6 F9 =>
 rdE prog (ER Y6 [4, 9, 14, 15, 16] E8) (jL 3 x1) oI w5 fun (x10 : Int) =>
 rdE prog (ER Y6 [4, 9, 14, 15, 16] E8) (jL 3 x3) oI w5 fun (x11 : Int) =>
 flcC Y6 4 E8 w5 (fun (_D15 : Nat → Bool) _w13 => True) (fun (D14 : Nat → Bool) w12 =>
   call prog 97 [ji x10, ji x11] (.one oI) w12 fun (x16 : Int) w17 =>
 (E8 w12 w17 ∧ G7 4 w12 w17 ∧ Y6 (setD D14 4) w17 ∧ F9 (setD D14 4) 4 [ji x10, ji x11] (ji x16) w17))
  fun (x18 : Int) =>
 rdE prog (ER Y6 [9, 14, 15, 16] E8) (jL 2 (Addr.add x1 1)) oI w5 fun (x19 : Int) =>
 rdE prog (ER Y6 [9, 14, 15, 16] E8) (jL 2 (Addr.add x3 1)) oI w5 fun (x20 : Int) =>
 flcC Y6 9 E8 w5 (fun (D24 : Nat → Bool) w22 => F9 D24 4 [ji x10, ji x11] (ji x18) w22 ∧ True) (fun (D23 : Nat → Bool) w21 =>
   call prog 98 [ji x19, ji x20] (.one oI) w21 fun (x25 : Int) w26 =>
 (E8 w21 w26 ∧ G7 9 w21 w26 ∧ Y6 (setD D23 9) w26 ∧ F9 (setD D23 9) 9 [ji x19, ji x20] (ji x25) w26))
  fun (x27 : Int) =>
 rdE prog (ER Y6 [14, 15, 16] E8) (jL 9 (Addr.add x1 2)) (.one .str) w5 fun (x28 : ByteArray) =>
 rdE prog (ER Y6 [14, 15, 16] E8) (jL 9 (Addr.add x3 2)) (.one .str) w5 fun (x29 : ByteArray) =>
 flendC Y6 [9, 4] E8 w5 (fun D0 w31 => F9 D0 9 [ji x19, ji x20] (ji x27) w31 ∧ F9 D0 4 [ji x10, ji x11] (ji x18) w31 ∧ True) fun w30 =>
 call prog 99 [.string x28, .string x29] (.one oI) w30 fun (x32 : Int) w33 =>
 wr prog (Instr.buildSlice 22 3 #[(0, (ji x18)), (1, (ji x27)), (2, (ji x32))]) oS w33 fun (x34 : Hd3) w35 =>
 call prog 96 [jw x34] (.one oI) w35 fun (x36 : Int) w37 =>
 R (ji x36) w37
def H55d : Hints := ⟨[], [(1, 14)], [], [1000001]⟩
theorem S55d_calls (a_0 a_1 : Int) (a_2 : ByteArray) (b_0 b_1 : Int) (b_2 : ByteArray) (w0 : World) (R : KR) (h : S55d a_0 a_1 a_2 b_0 b_1 b_2 w0 R) : Calls prog 55 #[.agg #[ji a_0, ji a_1, .string a_2], .agg #[ji b_0, ji b_1, .string b_2]] w0 (ret R) :=
 vcFn_sound (H := H55d) follows_ Tryz.func55 (Eq.mpr (by kernel_rfl) h)
end Go.Proofs

/- Values sorted: slices.SortFunc by value.Compare gives the same values in some order. -/



namespace Go.Proofs.YtcfghfmlfgaeaaaGreatDoor
open Go.RowKit Go.Q Go.V Go.Bag Go.Shelf Go.Sort

abbrev belD (w w' : World) : Prop := bel w w' ∧ w.drawn ≤ w'.drawn
theorem belD.refl (w : World) : belD w w := ⟨bel.refl _, Nat.le_refl _⟩
theorem belD.trans {a b c : World} (h : belD a b) (h' : belD b c) : belD a c := ⟨h.1.trans h'.1, Nat.le_trans h.2 h'.2⟩
theorem wr_boxD {P : Program} {w : World} {e : TypeId} {v : Value} {k : Addr → World → Prop}
    (hk : ∀ a w', Box w' a v.cells.toList → belD w w' → k a w') : wr P (Instr.box e v) (.one .addr) w k :=
  ⟨⟨w.heap.size, 0, none⟩, w.alloc (.cells v.cells e), rfl, hk _ _ (box_new w _ _) ⟨bel_alloc _ _, Nat.le_refl _⟩⟩
theorem wr_litD {P : Program} {t e : TypeId} {z : Value} {sz bytes : Nat} (T : TyS P t e z sz bytes) {w : World} {n : Nat} {parts : Array (Nat × Value)} {k : (Option Addr × Nat × Nat) → World → Prop} (cells : Array Value)
    (hf : Instr.fill (fun i => some (i * sz, sz)) ((Array.range (n * sz)).map (z.cells[· % z.cells.size]!)) parts.toList = some cells) (h0 : n * sz ≠ 0) (hl : n * sz ≤ 16777216) (hc : cells.size = n * sz) (hm : n ≤ maxLen)
    (hk : ∀ ad w', Own w' w.heap.size e sz (some ad) n n cells.toList → belD w w' → k (some ad, n, n) w') :
    wr P (Instr.buildSlice t n parts) (.one .slice) w k := by
  refine ⟨(some ⟨w.heap.size, 0, none⟩, n, n), w.alloc (.cells cells e), ?_, hk _ _ (Own.lit w w.heap.size e sz n cells (Nat.le_refl _) hc hm) ⟨bel_alloc _ _, Nat.le_refl _⟩⟩
  obtain ⟨i, hi0, hz0, hz1, hz2⟩ := info_parts T.hi
  subst hz1
  unfold Instr.buildSlice
  simp only [Sem.run_bind, run_underlying T.ht, Result.andThen_ok, T.size]
  rw [if_neg (by omega), if_neg h0]
  simp only [Sem.run_bind, Sem.run_pure, Result.andThen_ok]
  have hzv : (zeroValue e).run P w = .ok z w := by
    unfold zeroValue typeInfo
    simp only [Sem.run_bind, run_program, Result.andThen_ok, hi0, Sem.run_pure, hz0]
  simp only [hzv, Result.andThen_ok, hf]
  rfl
theorem orFD (h : Hdr) (xs : List Int) (w : World) (H : Sl w h.1 h.2.1 h.2.2 1 (ints .i64 xs)) : call Tryz.prog 96 [.slice h.1 h.2.1 h.2.2] (.one (.one (.int .i64))) w (fun (r : Int) w' => r = first0 xs ∧ w' = w) := by
  refine call_of (S96_calls _ _ _ w _ ?_)
  unfold S96
  have hl := H.int
  have hm := H.le
  refine loop_up xs.length (fun i w' => w' = w ∧ first0 xs = first0 (xs.drop i)) ⟨rfl, rfl⟩ fun i w3 hi ⟨hb, he⟩ again hag _ => ?_
  subst hb
  refine br_dec (fun e => ?_) (fun e => ?_)
  · dsimp only at e
    refine at_int tyI (by kernel_rfl) H rfl (by omega) fun x hx => ?_
    rw [first_drop hx] at he
    refine br_ne (fun q => ⟨_, rfl, by rw [he, if_neg q], rfl⟩) (fun q => ?_)
    rw [if_pos q] at he
    refine z_i64 (by dsimp only; omega) ?_
    exact hag _ (by omega) ⟨rfl, he⟩
  · dsimp only at e
    have : i = xs.length := by omega
    subst this
    rw [List.drop_length] at he
    exact ⟨_, rfl, he.symm, rfl⟩
theorem compVD (a b : V3) (w : World) : call Tryz.prog 55 [vv a, vv b] (.one (.one (.int .i64))) w (fun (r : Int) w' => r = cmpV a b ∧ belD w w') := by
  refine call_of (S55d_calls a.1 a.2.1 a.2.2 b.1 b.2.1 b.2.2 w _ ?_)
  unfold S55d
  refine wr_boxD fun x1 w2 X1 h2 => ?_
  refine wr_boxD fun x3 w4 X3 h4 => ?_
  replace X1 : Box w4 x1 (encV a) := X1.up h4.1
  replace X3 : Box w4 x3 (encV b) := X3
  replace h2 := h2.trans h4
  have h5 : belD w4 { w4 with drawn := w4.drawn + 1 } := ⟨bel_drew w4, Nat.le_succ _⟩
  show flExC { w4 with drawn := w4.drawn + 1 } _
  generalize ({ w4 with drawn := w4.drawn + 1 } : World) = w5 at h5 ⊢
  replace X1 := X1.up h5.1
  replace X3 := X3.up h5.1
  replace h2 := h2.trans h5
  refine flExC_mk belD (fun _ _ _ => True) (fun _ _ => True) Φc belD.refl (fun _ _ _ => belD.trans) (fun i j ags v w w' _ h _ _ => h) trivial ?_
  refine rdE_box0 (by kernel_rfl) (fun _ hE => X1.up hE.1.1) rfl rfl ?_
  refine rdE_box0 (by kernel_rfl) (fun _ hE => X3.up hE.1.1) rfl rfl ?_
  refine flcC_mk (fun D w9 _ _ _ _ => call_mono (compI _ _ w9) fun (x : Int) w12 ⟨e1, e2⟩ => ?_) fun (x13 : Int) => ?_
  · subst e1 e2
    exact ⟨belD.refl _, trivial, trivial, fun _ x y he => by injection he with h1 h2; injection h2 with h2 _; injection h1 with _ h1; injection h2 with _ h2; subst h1 h2; rfl, fun q => by omega⟩
  refine rdE_box (by kernel_rfl) (fun _ hE => X1.up hE.1.1) (i := 1) rfl rfl ?_
  refine rdE_box (by kernel_rfl) (fun _ hE => X3.up hE.1.1) (i := 1) rfl rfl ?_
  refine flcC_mk (fun D w9 _ _ _ _ => call_mono (compL _ _ w9) fun (x : Int) w12 ⟨e1, e2⟩ => ?_) fun (x20 : Int) => ?_
  · subst e1 e2
    exact ⟨belD.refl _, trivial, trivial, fun q => by omega, fun _ x y he => by injection he with h1 h2; injection h2 with h2 _; injection h1 with _ h1; injection h2 with _ h2; subst h1 h2; rfl⟩
  refine rdE_box (by kernel_rfl) (fun _ hE => X1.up hE.1.1) (i := 2) rfl rfl ?_
  refine rdE_box (by kernel_rfl) (fun _ hE => X3.up hE.1.1) (i := 2) rfl rfl ?_
  refine flendC_mk fun w23 h23 _ ⟨f9, f4, _⟩ => ?_
  have e13 := f4.1 rfl _ _ rfl
  have e20 := f9.2 rfl _ _ rfl
  injection e13 with _ e13
  injection e20 with _ e20
  refine call_mono (compS _ _ w23) fun (x25 : Int) w26 ⟨e25, ew⟩ => ?_
  subst ew
  refine wr_litD tyI #[.int .i64 x13, .int .i64 x20, .int .i64 x25] (fill_i3 _ _ _) (by omega) (by omega) rfl (by unfold maxLen; omega) fun ad w28 L h28 => ?_
  refine call_mono (orFD (some ad, 3, 3) [x13, x20, x25] w28 L.sl) fun (x29 : Int) w30 ⟨e29, ew⟩ => ?_
  subst ew
  refine ⟨_, rfl, ?_, (h2.trans h23).trans h28⟩
  subst e29 e25 e13 e20
  unfold cmpV or2
  simp only [first0]
  have e : ∀ n : Int, (if n = 0 then 0 else n) = n := fun n => by split <;> omega
  rw [e]

/-! ### worlds that have grown -/
theorem grow_of {W w' : World} (h : belD W w') : ∃ q os', w' = grow (W.drewN q) os' := by
  refine ⟨w'.drawn - W.drawn, w'.heap.extract W.heap.size w'.heap.size, ?_⟩
  obtain ⟨hb, hd⟩ := h
  have h1 := hb.os; have h2 := hb.tape; have h3 := hb.output; have h4 := hb.size; have h5 := hb.block
  cases W with
  | mk heap tape drawn os output =>
  cases w' with
  | mk heap' tape' drawn' os' output' =>
  dsimp only at h1 h2 h3 h4 h5 hd
  subst h1; subst h2; subst h3
  unfold grow World.drewN
  dsimp only
  congr 1
  · apply Array.ext_getElem?
    intro k
    by_cases hk : k < heap.size
    · rw [Array.getElem?_append_left hk, h5 k hk]
    · rw [Array.getElem?_append_right (by omega), Array.getElem?_extract]
      by_cases hk2 : k < heap'.size
      · rw [if_pos (by omega), show heap.size + (k - heap.size) = k by omega]
      · rw [if_neg (by omega), Array.getElem?_eq_none (by omega)]
  · omega
theorem cmpLaysV (blk off size : Nat) (w : World) : CmpLays Tryz.prog 55 #[] encV 3 cmpV blk off size w := fun m os dk _ x y => by
  refine (compVD x y (sortWorldK encV 3 w blk off m dk os)).mono ?_
  rintro e w' ⟨r, h1, h2, h3⟩
  exact ⟨by rw [h1, h2]; rfl, grow_of h3⟩
theorem swoV : SWO (ltOf cmpV) := by
  have key : ∀ x y, ltOf cmpV x y = decide (cmpV x y < 0) := fun x y => rfl
  refine ⟨fun x => ?_, fun x y z h1 h2 => ?_, fun x y z h1 h2 => ?_⟩
  · rw [key, decide_eq_false]; rw [cmpV_to.refl]; omega
  · rw [key, decide_eq_true_eq] at *; exact cmpV_to.tr _ _ _ h1 h2
  · rw [key, decide_eq_false_iff_not] at *
    intro q
    have a1 : cmpV y x ≤ 0 := by have := cmpV_to.sym x y; have := cmpV_to.tot x y; omega
    have a2 : cmpV z y ≤ 0 := by have := cmpV_to.sym y z; have := cmpV_to.tot y z; omega
    have a3 := cmpV_to.le_tr a2 a1
    have := cmpV_to.sym x z
    omega
end Go.Proofs.YtcfghfmlfgaeaaaGreatDoor

/- slices.SortFunc at values: the same values in some order. -/

namespace Go.Proofs.YtcfghfmlfgaeaaaGreatDoor
open Go.RowKit Go.Q Go.V Go.Bag Go.Shelf Go.Sort

theorem flatK_eq (L : List V3) : (flatK encV 3 L.toArray).toList = L.flatMap encV := by
  refine List.ext_getElem? fun t => ?_
  by_cases ht : t < L.length * 3
  · have hq : t / 3 < L.length := by omega
    have h1 := flat_get (enc := encV) encV_len (L := L) (j := t / 3) (p := L[t / 3]) (List.getElem?_eq_getElem hq) (o := t % 3) (by omega)
    rw [show t / 3 * 3 + t % 3 = t by omega] at h1
    rw [h1]
    unfold flatK
    rw [Array.getElem?_toList, Array.getElem?_map, Array.getElem?_range, if_pos (by simpa using ht)]
    simp only [Option.map_some]
    have e : (L.toArray[t / 3]!) = L[t / 3] := by simp [hq]
    rw [e]
    have h3 : t % 3 < 3 := Nat.mod_lt _ (by omega)
    generalize t % 3 = o at h3 ⊢
    have : o = 0 ∨ o = 1 ∨ o = 2 := by omega
    rcases this with rfl | rfl | rfl <;> rfl
  · rw [List.getElem?_eq_none (by rw [Array.length_toList, size_flatK]; simpa using ht), List.getElem?_eq_none (by rw [flat_len encV_len]; omega)]
theorem take_put (F cur : Array Value) (h : F.size ≤ cur.size) : (putCells id 0 F cur).toList.take F.size = F.toList := by
  refine List.ext_getElem? fun j => ?_
  by_cases hj : j < F.size
  · rw [List.getElem?_take_of_lt hj, Array.getElem?_toList, Array.getElem?_toList]
    unfold putCells
    rw [Array.getElem?_mapIdx, Array.getElem?_eq_getElem (by omega)]
    simp only [Option.map_some, Nat.zero_le, Nat.zero_add, true_and, hj, if_true, Nat.sub_zero, id]
    rw [getElem!_pos F j hj, Array.getElem?_eq_getElem hj]
  · rw [List.getElem?_eq_none (by rw [List.length_take]; omega), List.getElem?_eq_none (by rw [Array.length_toList]; omega)]
theorem sortP {w : World} {B : Nat} {h : Hdr} {L : List V3} (O : Own w B 55 3 h.1 h.2.1 h.2.2 (L.flatMap encV)) (hL : L.length ≤ 100) :
    call Tryz.prog 54 [.slice h.1 h.2.1 h.2.2, .func (.func 55) #[] #[]] (.many []) w
      (fun (_ : Unit) w' => ∃ L' : List V3, L'.Perm L ∧ Own w' B 55 3 h.1 h.2.1 h.2.2 (L'.flatMap encV) ∧ w.grownBy w' (blk h.1)) := by
  obtain ⟨ha, hn, hc⟩ := h
  dsimp only at O ⊢
  have hlen := O.1
  rw [flat_len encV_len] at hlen
  have hnL : hn = L.length := by omega
  rcases O.2 with ⟨hv, hn0⟩ | ⟨g, cap, cur, hv, hB, hg, hnc, hcm, hcs, htk⟩
  · subst hn0
    have hL0 : L = [] := List.eq_nil_of_length_eq_zero hnL.symm
    subst hL0
    refine (AnyF.slices_SortFunc_none lays54 ha hc (.func (.func 55) #[] #[]) w).mono ?_
    rintro e w' ⟨h1, rfl⟩
    exact ⟨(), h1, [], List.Perm.refl _, O, grown_refl _ _⟩
  · injection hv with h1 h2 h3
    subst h1; subst h3
    have hgl : g < w.heap.size := by
      rcases Nat.lt_or_ge g w.heap.size with q | q
      · exact q
      · rw [Array.getElem?_eq_none q] at hg; cases hg
    have hH : HoldsK encV 3 w g 0 L.toArray := by
      intro j hj
      have hj' : j < L.length * 3 := by simpa using hj
      have hcell : cur[j]? = (L.flatMap encV)[j]? := by
        rw [← htk, List.getElem?_take_of_lt (by omega), Array.getElem?_toList]
      refine ⟨?_, ?_⟩
      · have e : w.cell? ⟨g, 0 + j, none⟩ = cur[j]? := by
          simp [World.cell?, hg]
        rw [e, hcell, ← flatK_eq, Array.getElem?_toList, getElem!_pos _ j hj, Array.getElem?_eq_getElem hj]; rfl
      · unfold World.frozen?
        simp [hg]
    have hcon := AnyQ.slices_SortFunc lays54 3 (fun w => Tryz.isAgg55 w) (fun w => Tryz.sizeOf55 w) encV encV_len (fun x v hv => by
      simp only [List.mem_cons, List.not_mem_nil, or_false] at hv
      rcases hv with rfl | rfl | rfl <;> rfl) cmpV swoV 55 #[] g 0 hc L.toArray w (enters_of Tryz.func55 (by kernel_rfl) rfl) (cmpLaysV g 0 _ w) hH hgl (by simp; omega)
    have ea : (L.toArray.size : Nat) = hn := by simp [hnL]
    rw [ea] at hcon
    refine hcon.mono ?_
    rintro e w' ⟨h1, d', n', os, ⟨p1, _, p3⟩, _, hw⟩
    have hd' : d'.toList.Perm L := by
      have q1 : d'.extract 0 hn = d' := by
        rw [← ea, ← p1]; simp
      have q2 : L.toArray.extract 0 hn = L.toArray := by rw [← ea]; simp
      rw [q1, q2] at p3
      exact p3
    have hsz : d'.size = hn := by rw [p1, ea]
    have hF : (flatK encV 3 d').toList = d'.toList.flatMap encV := by
      have := flatK_eq d'.toList
      rwa [Array.toArray_toList] at this
    have hFs : (flatK encV 3 d').size = hn * 3 := by rw [size_flatK, hsz]
    have hcz : hn * 3 ≤ cur.size := by rw [hcs]; exact Nat.mul_le_mul_right _ hnc
    have hheap : w'.heap[g]? = some (.cells (putCells id 0 (flatK encV 3 d') cur) 55 (0, 0)) := by
      rw [hw]
      unfold sortWorldK grow putRowK putRow mapBlock Go.Sort.ahead
      dsimp only
      rw [Array.getElem?_append_left (by simpa using hgl), Array.getElem?_modify, if_pos rfl, hg]
      rfl
    refine ⟨(), h1, d'.toList, hd', ⟨by rw [flat_len encV_len, Array.length_toList, hsz], .inr ⟨g, hc, _, rfl, hB, hheap, hnc, hcm, ?_, ?_⟩⟩, ?_⟩
    · unfold putCells; rw [Array.size_mapIdx]; exact hcs
    · have := take_put (flatK encV 3 d') cur (by rw [hFs]; exact hcz)
      rw [hFs, hF] at this
      exact this
    · rw [hw]
      refine ⟨rfl, rfl, rfl, ?_, fun k hk hne => ?_⟩
      · unfold sortWorldK grow putRowK putRow mapBlock Go.Sort.ahead
        dsimp only
        simp
      · unfold sortWorldK grow putRowK putRow mapBlock Go.Sort.ahead
        dsimp only
        rw [Array.getElem?_append_left (by simpa using hk), Array.getElem?_modify, if_neg (fun q => hne (by rw [← q]; rfl))]
end Go.Proofs.YtcfghfmlfgaeaaaGreatDoor

/- Package privacy: tally. -/

namespace Go.Proofs.YtcfghfmlfgaeaaaGreatDoor
open Go.RowKit Go.Q Go.V Go.Bag

theorem keptO {w w' : World} {B B' : Nat} {e e' : TypeId} {sz sz' : Nat} {a a' : Option Addr} {n c n' c' : Nat} {xs ys : List Value} (O : Own w B e sz a n c xs) (O' : Own w B' e' sz' a' n' c' ys) (hne : e ≠ e') (g : w.grownBy w' (blk a')) : Own w' B e sz a n c xs := by
  refine O.keptBy g ?_
  cases hq : blk a with
  | none => exact .inl rfl
  | some k => exact .inr fun q => Own.apart O O' hne k hq q.symm
def cntV (v : V3) (L : List V3) : Nat := L.countP fun x => decide (x = v)
structure TInv (M : List V3) (i : Nat) (vals : List V3) (cnts : List Nat) : Prop where
  len : cnts.length = vals.length
  sum : cnts.sum = i
  le : ∀ (j : Nat) v n, vals[j]? = some v → cnts[j]? = some n → 1 ≤ n ∧ n ≤ cntV v (M.take i)
  last : ∀ v, 0 < i → M[i - 1]? = some v → vals.getLast? = some v
theorem cnt_take {M : List V3} {i : Nat} {x v : V3} (h : M[i]? = some x) : cntV v (M.take (i + 1)) = cntV v (M.take i) + if x = v then 1 else 0 := by
  unfold cntV
  rw [List.take_add_one, h, List.countP_append]
  by_cases e : x = v <;> simp [e]
theorem TInv.new {M : List V3} {i : Nat} {vals : List V3} {cnts : List Nat} (H : TInv M i vals cnts) {v : V3} (hv : M[i]? = some v) : TInv M (i + 1) (vals ++ [v]) (cnts ++ [1]) := by
  refine ⟨by simp [H.len], by simp [H.sum], fun j u n h1 h2 => ?_, fun u _ hu => ?_⟩
  · have hl := H.len
    rw [cnt_take hv]
    rcases Nat.lt_or_ge j vals.length with q | q
    · rw [List.getElem?_append_left q] at h1
      rw [List.getElem?_append_left (by omega)] at h2
      have := H.le j u n h1 h2
      omega
    · have hj : j = vals.length := by
        have := (List.getElem?_eq_some_iff.1 h1).1
        simp at this; omega
      subst hj
      rw [List.getElem?_append_right (by omega)] at h1
      rw [List.getElem?_append_right (by omega), hl] at h2
      simp at h1 h2
      subst h1; subst h2
      simp
  · rw [Nat.add_sub_cancel, hv] at hu
    cases hu
    simp
theorem TInv.same {M : List V3} {i : Nat} {vals : List V3} {c0 : List Nat} {m : Nat} (H : TInv M i vals (c0 ++ [m])) (hi : 0 < i) {v : V3} (hv : M[i]? = some v) (hu : M[i - 1]? = some v) : TInv M (i + 1) vals (c0 ++ [m + 1]) := by
  have hl := H.len
  have hs := H.sum
  have hlast := H.last v hi hu
  simp only [List.length_append, List.length_cons, List.length_nil] at hl
  simp only [List.sum_append, List.sum_cons, List.sum_nil] at hs
  have hat : vals[c0.length]? = some v := by
    rw [List.getLast?_eq_getElem?] at hlast
    rw [← hlast]; congr 1; omega
  refine ⟨by simp only [List.length_append, List.length_cons, List.length_nil]; exact hl, by simp only [List.sum_append, List.sum_cons, List.sum_nil]; omega, fun j u n h1 h2 => ?_, fun u _ hu => ?_⟩
  · rw [cnt_take hv]
    rcases Nat.lt_or_ge j c0.length with q | q
    · rw [List.getElem?_append_left q] at h2
      have := H.le j u n h1 (by rw [List.getElem?_append_left q]; exact h2)
      omega
    · have hj : j = c0.length := by
        have := (List.getElem?_eq_some_iff.1 h1).1
        omega
      subst hj
      rw [hat] at h1; cases h1
      rw [List.getElem?_append_right (by omega)] at h2
      simp at h2
      have := (H.le c0.length v m hat (by simp)).2
      subst h2
      rw [if_pos rfl]; omega
  · rw [Nat.add_sub_cancel, hv] at hu
    cases hu
    exact hlast
def fcol (c : Nat) (Rs : Rows) : List V3 := (Rs.filterMap fun r => r[c]?).filter fun v => decide (v.1 ≠ 0)
theorem fcol_snoc {c : Nat} {Rs : Rows} {r : Rw} {p : V3} (h : r[c]? = some p) : fcol c (Rs ++ [r]) = fcol c Rs ++ if p.1 ≠ 0 then [p] else [] := by
  unfold fcol
  rw [List.filterMap_append, List.filter_append]
  congr 1
  simp only [List.filterMap_cons, h, List.filterMap_nil, List.filter_cons, List.filter_nil]
  by_cases q : p.1 = 0 <;> simp [q]
theorem fcol_len (c : Nat) (Rs : Rows) : (fcol c Rs).length ≤ Rs.length := Nat.le_trans (List.length_filter_le _ _) (List.length_filterMap_le _ _)
abbrev nints (l : List Nat) : List Value := ints .i64 (l.map fun n : Nat => (n : Int))
structure TallyR (w w' : World) (Rs : Rows) (c : Nat) (x : Hdr × Hdr × Int × Unit) (vals : List V3) (cnts : List Nat) : Prop where
  bel : bel w w'
  va : RowAt w' x.1 vals
  ca : Sl w' x.2.1.1 x.2.1.2.1 x.2.1.2.2 1 (nints cnts)
  len : cnts.length = vals.length
  sum : cnts.sum = (fcol c Rs).length
  le : ∀ (j : Nat) v n, vals[j]? = some v → cnts[j]? = some n → 1 ≤ n ∧ n ≤ cntV v (fcol c Rs)
  nul : x.2.2.1 = (Rs.length : Int) - ((fcol c Rs).length : Int)
set_option maxHeartbeats 1600000 in
theorem tallyP {w : World} {g : Hdr} {Rs : Rows} (G : RowsAt w g Rs) {c : Nat} (hc : ∀ r ∈ Rs, c < r.length) (h20 : Rs.length ≤ 20) :
    call Tryz.prog 27 [.slice g.1 g.2.1 g.2.2, .int .i64 (c : Int)] (.many [.one .slice, .one .slice, .one (.int .i64)]) w (fun (x : Hdr × Hdr × Int × Unit) w' => ∃ vals cnts, TallyR w w' Rs c x vals cnts) := by
  have hl := G.len
  refine call_of (S27_calls g.1 g.2.1 g.2.2 c w _ ?_)
  unfold S27
  refine loop_upA Rs.length (fun j (s : Hdr) w' => bel w w' ∧ Own w' w.heap.size 55 3 s.1 s.2.1 s.2.2 ((fcol c (Rs.take j)).flatMap encV)) ⟨bel.refl _, Own.nil _ _ _ _⟩ fun j s w3 hj ⟨hb, O⟩ again hag _ => ?_
  have hsl : s.2.1 = (fcol c (Rs.take j)).length := by have := O.1; rw [flat_len encV_len] at this; omega
  have hle := fcol_len c (Rs.take j)
  rw [List.length_take] at hle
  refine br_dec (fun e => ?_) (fun e => ?_)
  · dsimp only at e
    have hj' : j < Rs.length := by omega
    refine join_mk (fun s' w' => bel w w' ∧ Own w' w.heap.size 55 3 s'.1.1 s'.1.2.1 s'.1.2.2 ((fcol c (Rs.take (j + 1))).flatMap encV)) (fun K hK => ?_) ?_
    · refine G.atB hb rfl hj' fun y r hr Y => ?_
      have hcr := hc r (List.mem_of_getElem? hr)
      obtain ⟨p, hp⟩ : ∃ p, r[c]? = some p := ⟨_, List.getElem?_eq_getElem hcr⟩
      have hsn : fcol c (Rs.take (j + 1)) = fcol c (Rs.take j) ++ if p.1 ≠ 0 then [p] else [] := by
        rw [List.take_add_one, hr]; exact fcol_snoc hp
      refine idx_agg tyV encV_len (by omega) (Y.up hb) rfl hp fun ad had => ?_
      have h0 := had 0 _ rfl
      rw [add_zero] at h0
      refine rd_cell (by kernel_rfl) h0 rfl ?_
      refine br_ne (fun e1 => ?_) (fun e1 => ?_)
      · refine row_at (Y.up hb) rfl hcr fun q hq => ?_
        obtain rfl : p = q := by rw [hp] at hq; cases hq; rfl
        refine wr_app1 tyV (v := .agg (encV p).toArray) O hb.size rfl (by omega) (by omega) rfl rfl (by omega) (by unfold maxLen; omega) fun a' c' w11 O11 g11 _ _ => ?_
        refine hK ((a', s.2.1 + 1, c'), ()) _ ⟨bel.own hb O g11 (Nat.le_refl _), ?_⟩
        rw [hsn, if_pos e1, List.flatMap_append]
        simp only [List.flatMap_cons, List.flatMap_nil, List.append_nil]
        exact O11
      · refine hK (s, ()) _ ⟨hb, ?_⟩
        rw [hsn, if_neg (by intro q; exact q e1), List.append_nil]
        exact O
    · rintro s' w6 ⟨hb, O⟩ _
      refine z_i64 (by dsimp only; omega) ?_
      exact hag _ _ hj' ⟨hb, O⟩
  · dsimp only at e
    have hjl : j = Rs.length := by omega
    subst hjl
    rw [List.take_length] at O hsl hle
    have hLb : (fcol c Rs).length ≤ 100 := by omega
    refine call_mono (sortP O hLb) ?_
    rintro _ w19 ⟨M, hM, OM, g19⟩
    have hb19 := bel.own hb O g19 (Nat.le_refl _)
    have hMl : M.length = (fcol c Rs).length := hM.length_eq
    have hcnt : ∀ v, cntV v M = cntV v (fcol c Rs) := fun v => hM.countP_eq _
    refine loop_gh (G := Nat) (fun i (s' : Hdr × Hdr × Int × Unit) w' => s'.2.2.1 = (i : Int) ∧ i ≤ M.length ∧ bel w19 w' ∧ ∃ vals cnts, TInv M i vals cnts ∧ Own w' w19.heap.size 55 3 s'.1.1 s'.1.2.1 s'.1.2.2 (vals.flatMap encV) ∧ Own w' w19.heap.size 3 1 s'.2.1.1 s'.2.1.2.1 s'.2.1.2.2 (nints cnts)) (fun i => M.length - i) 0
      ⟨rfl, Nat.zero_le _, bel.refl _, [], [], ⟨rfl, rfl, fun j v n h _ => by simp at h, fun v h => by omega⟩, Own.nil _ _ _ _, Own.nil _ _ _ _⟩ ?_
    rintro i ⟨vh, ch, si, u⟩ w22 ⟨hsi, hi, hb22, vals, cnts, TI, OV, OC⟩ again2 hag2 _
    dsimp only at hsi OV OC
    subst hsi
    have hvl : vh.2.1 = vals.length := by have := OV.1; rw [flat_len encV_len] at this; omega
    have hcl : ch.2.1 = cnts.length := by have := OC.1; simp [nints, ints] at this; omega
    have hlen := TI.len
    have hsum := TI.sum
    have hvi : vals.length ≤ i := by
      have : ∀ (l : List Nat) (m : Nat), (∀ k, k < l.length → ∀ n, l[k]? = some n → 1 ≤ n) → l.length ≤ l.sum := by
        intro l
        induction l with
        | nil => intro _ _; simp
        | cons a l ih =>
          intro m hk
          have h0 := hk 0 (by simp) a rfl
          have := ih m fun k hk' n hn => hk (k + 1) (by simp; omega) n (by simpa using hn)
          simp only [List.length_cons, List.sum_cons]; omega
      have := this cnts 0 fun k hk n hn => (TI.le k (vals[k]'(by omega)) n (List.getElem?_eq_getElem (by omega)) hn).1
      omega
    refine br_dec (fun e => ?_) (fun e => ?_)
    · dsimp only at e
      have hi' : i < M.length := by omega
      refine join_mk (fun s' w' => bel w19 w' ∧ ∃ vals cnts, TInv M (i + 1) vals cnts ∧ Own w' w19.heap.size 55 3 s'.1.1 s'.1.2.1 s'.1.2.2 (vals.flatMap encV) ∧ Own w' w19.heap.size 3 1 s'.2.1.1 s'.2.1.2.1 s'.2.1.2.2 (nints cnts)) (fun K hK => ?_) ?_
      · have RM : RowAt w22 s M := Sl.up OM.sl hb22
        refine row_at RM rfl hi' fun p hp => ?_
        refine var_mk (z := .agg #[.int .i64 0, .int .i64 0, .string ByteArray.empty]) (v := .agg (encV p).toArray) (by kernel_rfl) (by kernel_rfl) rfl rfl fun x29 w31 X h31 _ => ?_
        replace X : Box w31 x29 (encV p) := X
        replace OV := Own.kept OV h31; replace OC := Own.kept OC h31; replace hb22 := hb22.trans h31
        refine join_mk (fun s' w' => bel w19 w' ∧ ∃ vals c0 m, TInv M (i + 1) vals (c0 ++ [m + 1]) ∧ m ≤ 100 ∧ s'.2.1.2.1 = c0.length + 1 ∧ Own w' w19.heap.size 55 3 s'.1.1 s'.1.2.1 s'.1.2.2 (vals.flatMap encV) ∧ Own w' w19.heap.size 3 1 s'.2.1.1 s'.2.1.2.1 s'.2.1.2.2 (nints (c0 ++ [m]))) (fun K2 hK2 => ?_) ?_
        · refine drw_mk fun w41 h41 _ => ?_
          replace OV := Own.kept OV h41; replace OC := Own.kept OC h41; replace hb22 := hb22.trans h41; replace X := X.up h41
          have hz19 := hb22.size
          have add : wr Tryz.prog (Instr.buildSlice 56 1 #[(0, .agg (encV p).toArray)]) (.one .slice) w41 fun (x43 : Hdr) w44 =>
              wr Tryz.prog (Builtin.append_ #[56, 56] 56 #[.slice vh.1 vh.2.1 vh.2.2, .slice x43.1 x43.2.1 x43.2.2]) (.one .slice) w44 fun (x45 : Hdr) w46 =>
              wr Tryz.prog (Instr.buildSlice 22 1 #[(0, .int .i64 0)]) (.one .slice) w46 fun (x47 : Hdr) w48 =>
              wr Tryz.prog (Builtin.append_ #[22, 22] 22 #[.slice ch.1 ch.2.1 ch.2.2, .slice x47.1 x47.2.1 x47.2.2]) (.one .slice) w48 fun (x49 : Hdr) w50 =>
              K2 ((x45.1, x45.2.1, x45.2.2), (x49.1, x49.2.1, x49.2.2), ()) w50 := by
            refine wr_app1 tyV (v := .agg (encV p).toArray) OV hz19 rfl (by omega) (by omega) rfl rfl (by omega) (by unfold maxLen; omega) fun a' c' w46 O46 g46 _ _ => ?_
            have hb46 := bel.own hb22 OV g46 (Nat.le_refl _)
            have OC46 := keptO OC OV (by decide) g46
            refine wr_app1 tyI (v := .int .i64 0) OC46 hb46.size rfl (by omega) (by omega) rfl rfl (by omega) (by unfold maxLen; omega) fun a2 c2 w50 O50 g50 _ _ => ?_
            refine hK2 ((a', vh.2.1 + 1, c'), (a2, ch.2.1 + 1, c2), ()) _ ⟨bel.own hb46 OC46 g50 (Nat.le_refl _), vals ++ [p], cnts, 0, TI.new hp, by omega, by dsimp only; omega, ?_, ?_⟩
            · rw [List.flatMap_append]
              have := keptO O46 OC46 (by decide) g50
              simp only [List.flatMap_cons, List.flatMap_nil, List.append_nil]
              exact this
            · rw [nints, List.map_append, ints, List.map_append]
              exact O50
          refine br_eq (fun e1 => ?_) (fun e1 => ?_)
          · refine rd_boxN X (by kernel_rfl) rfl ?_
            exact add
          · refine rd_boxN X (by kernel_rfl) rfl ?_
            have hi0 : 0 < i := by dsimp only at e1; omega
            refine z_i64 (by dsimp only; omega) ?_
            refine row_at (Sl.up OM.sl hb22) (j := i - 1) (by dsimp only; omega) (by omega) fun q hq => ?_
            refine neV p q ?_
            refine br_mk (fun e2 => ?_) (fun e2 => ?_)
            · refine rd_boxN X (by kernel_rfl) rfl ?_
              exact add
            · have hpq : p = q := by simpa using e2
              subst hpq
              have hne : cnts ≠ [] := by
                rintro rfl
                have := TI.last p hi0 hq
                have h0 : vals = [] := List.eq_nil_of_length_eq_zero (by simpa using hlen.symm)
                rw [h0] at this; simp at this
              obtain ⟨c0, m, rfl⟩ : ∃ c0 m, cnts = c0 ++ [m] := ⟨cnts.dropLast, cnts.getLast hne, (List.dropLast_concat_getLast hne).symm⟩
              simp only [List.sum_append, List.sum_cons, List.sum_nil] at hsum
              simp only [List.length_append, List.length_cons, List.length_nil] at hcl
              exact hK2 (vh, ch, ()) _ ⟨hb22, vals, c0, m, TI.same hi0 hp hq, by omega, by dsimp only; omega, OV, OC⟩
        · rintro ⟨vh', ch', u'⟩ w34 ⟨hb34, vals', c0, m, TI', hm, hcn, OV', OC'⟩ _
          dsimp only at hcn OV' OC'
          have hc0 : c0.length ≤ 100 := by
            have h1 := TI'.sum
            have : ∀ (l : List Nat), (∀ (k : Nat) n, l[k]? = some n → 1 ≤ n) → l.length ≤ l.sum := by
              intro l
              induction l with
              | nil => intro _; simp
              | cons a l ih =>
                intro hk
                have h0 := hk 0 a rfl
                have := ih fun k n hn => hk (k + 1) n (by simpa using hn)
                simp only [List.length_cons, List.sum_cons]; omega
            have h3 := this (c0 ++ [m + 1]) fun k n hn => by
              have hlk := (List.getElem?_eq_some_iff.1 hn).1
              have hl' := TI'.len
              exact (TI'.le k (vals'[k]'(by omega)) n (List.getElem?_eq_getElem (by omega)) hn).1
            simp only [List.length_append, List.length_cons, List.length_nil] at h3
            omega
          refine z_i64 (by dsimp only; omega) ?_
          refine at_int tyI (by kernel_rfl) OC'.sl (j := c0.length) (by dsimp only; omega) (by omega) fun y hy => ?_
          obtain rfl : (m : Int) = y := by simpa using hy
          refine z_i64 (by omega) ?_
          refine set_mk tyI OC' (j := c0.length) (by dsimp only; omega) (by omega) rfl fun w40 O40 g40 _ => ?_
          refine hK (vh', ch', ()) _ ⟨bel.own hb34 OC' g40 (Nat.le_refl _), vals', c0 ++ [m + 1], TI', keptO OV' OC' (by decide) g40, ?_⟩
          have es : (nints (c0 ++ [m])).set c0.length (.int .i64 ((m : Int) + 1)) = nints (c0 ++ [m + 1]) := by
            simp [nints, ints]
          rw [← es]; exact O40
      · rintro ⟨vh', ch', u'⟩ w25 ⟨hb25, vals', cnts', TI', OV', OC'⟩ _
        refine z_i64 (by dsimp only; omega) ?_
        exact hag2 (i + 1) _ _ ⟨by dsimp only; omega, hi', hb25, vals', cnts', TI', OV', OC'⟩ (by omega)
    · dsimp only at e
      have hiM : i = M.length := by omega
      refine z_i64 (by dsimp only; omega) ?_
      refine ⟨(vh, ch, ((g.2.1 : Nat) : Int) - ((s.2.1 : Nat) : Int), ()), rfl, vals, cnts, hb19.trans hb22, OV.sl, OC.sl, TI.len, by rw [TI.sum, hiM, hMl], fun j v n h1 h2 => ?_, by dsimp only; omega⟩
      have := TI.le j v n h1 h2
      rw [hiM, List.take_length, hcnt] at this
      exact this
end Go.Proofs.YtcfghfmlfgaeaaaGreatDoor

/- The conditions of functions, printed by our tool; each is checked against the code by the kernel. -/



namespace Go.Proofs
open Go Go.V Go.RowKit
open Tryz (prog)
set_option maxRecDepth 100000
def S24a (values_a : OA) (values_n values_c : Nat) (counts_a : OA) (counts_n counts_c : Nat) (nulls_ threshold_ : Int) (w0 : World) (R : KR) : Prop :=
 wr prog (Instr.alloc 82 true (.tuple #[])) oA w0 fun (x1 : Addr) w2 =>
 wr prog (Instr.alloc 82 true (.tuple #[])) oA w2 fun (x3 : Addr) w4 =>
 wu prog (jS 82 x3 (.agg #[ji nulls_, .slice none 0 0, .slice none 0 0, .slice none 0 0, ji 0])) w4 fun w5 =>
 loop (T := (Int × Unit)) (0, ()) w5 fun (g6 : Int × Unit → World → Prop) (s7 : Int × Unit) w8 => ∀ _ : NV,
 br (decide (s7.1 < ((values_n : Nat) : Int))) (join (T := Unit) (fun (_s10 : Unit) w11 => ∀ _ : NV,
 z (IntKind.wrap .i64 (s7.1 + 1)) fun (z12 : Int) =>
 g6 (z12, ()) w11)
  fun (K9 : Unit → World → Prop) =>
 rdp prog (Instr.indexAt 56 (.slice values_a values_n values_c) (ji s7.1)) oA fun (x13 : Addr) =>
 rd prog (jL 55 x13) (.agg [.int .i64, .int .i64, .str]) w8 fun (x14 : Int × Int × ByteArray × Unit) =>
 wr prog (Instr.alloc 55 true (.tuple #[])) oA w8 fun (x15 : Addr) w16 =>
 wu prog (jS 55 x15 (.agg #[ji x14.1, ji x14.2.1, .string x14.2.2.1])) w16 fun w17 =>
 rdp prog (Instr.indexAt 22 (.slice counts_a counts_n counts_c) (ji s7.1)) oA fun (x18 : Addr) =>
 rd prog (jL 3 x18) oI w17 fun (x19 : Int) =>
 br (decide (x19 < threshold_)) (drw w17 fun w20 =>
 rd prog (jL 3 (Addr.add x3 4)) oI w20 fun (x21 : Int) =>
 rdp prog (Instr.indexAt 22 (.slice counts_a counts_n counts_c) (ji s7.1)) oA fun (x22 : Addr) =>
 rd prog (jL 3 x22) oI w20 fun (x23 : Int) =>
 z (IntKind.wrap .i64 (x21 + x23)) fun (z24 : Int) =>
 wu prog (jS 3 (Addr.add x3 4) (ji z24)) w20 fun w25 =>
 K9 (()) w25)
 (drw w17 fun w26 => flExC w26 fun E29 G28 Y27 F30 =>
 rdE prog (ER Y27 [4, 12, 14, 16] E29) (jL 56 (Addr.add x3 2)) oS w26 fun (x31 : Hd3) =>
 rdE prog (ER Y27 [3, 4, 12, 14, 16] E29) (jL 55 x15) (.agg [.int .i64, .int .i64, .str]) w26 fun (x32 : Int × Int × ByteArray × Unit) =>
 flcC Y27 3 E29 w26 (fun (_D36 : Nat → Bool) _w34 => True) (fun (D35 : Nat → Bool) w33 =>
   wr prog (Instr.buildSlice 56 1 #[(0, (.agg #[ji x32.1, ji x32.2.1, .string x32.2.2.1]))]) oS w33 fun (x37 : Hd3) w38 =>
 (E29 w33 w38 ∧ G28 3 w33 w38 ∧ Y27 (setD D35 3) w38 ∧ F30 (setD D35 3) 3 [.agg #[ji x32.1, ji x32.2.1, .string x32.2.2.1]] (jw x37) w38))
  fun (x39 : Hd3) =>
 flcC Y27 4 E29 w26 (fun (D43 : Nat → Bool) w41 => F30 D43 3 [.agg #[ji x32.1, ji x32.2.1, .string x32.2.2.1]] (jw x39) w41 ∧ True) (fun (D42 : Nat → Bool) w40 =>
   wr prog (Builtin.append_ #[56, 56] 56 #[.slice x31.1 x31.2.1 x31.2.2, .slice x39.1 x39.2.1 x39.2.2]) oS w40 fun (x44 : Hd3) w45 =>
 (E29 w40 w45 ∧ G28 4 w40 w45 ∧ Y27 (setD D42 4) w45 ∧ F30 (setD D42 4) 4 [jw x31, jw x39] (jw x44) w45))
  fun (x46 : Hd3) =>
 rdE prog (ER Y27 [12, 14, 16] E29) (jL 22 (Addr.add x3 3)) oS w26 fun (x47 : Hd3) =>
 rdp prog (Instr.indexAt 22 (.slice counts_a counts_n counts_c) (ji s7.1)) oA fun (x48 : Addr) =>
 rdE prog (ER Y27 [11, 12, 14, 16] E29) (jL 3 x48) oI w26 fun (x49 : Int) =>
 flcC Y27 11 E29 w26 (fun (_D53 : Nat → Bool) _w51 => True) (fun (D52 : Nat → Bool) w50 =>
   wr prog (Instr.buildSlice 22 1 #[(0, (ji x49))]) oS w50 fun (x54 : Hd3) w55 =>
 (E29 w50 w55 ∧ G28 11 w50 w55 ∧ Y27 (setD D52 11) w55 ∧ F30 (setD D52 11) 11 [ji x49] (jw x54) w55))
  fun (x56 : Hd3) =>
 flcC Y27 12 E29 w26 (fun (D60 : Nat → Bool) w58 => F30 D60 11 [ji x49] (jw x56) w58 ∧ F30 D60 4 [jw x31, jw x39] (jw x46) w58 ∧ F30 D60 3 [.agg #[ji x32.1, ji x32.2.1, .string x32.2.2.1]] (jw x39) w58 ∧ True) (fun (D59 : Nat → Bool) w57 =>
   wr prog (Builtin.append_ #[22, 22] 22 #[.slice x47.1 x47.2.1 x47.2.2, .slice x56.1 x56.2.1 x56.2.2]) oS w57 fun (x61 : Hd3) w62 =>
 (E29 w57 w62 ∧ G28 12 w57 w62 ∧ Y27 (setD D59 12) w62 ∧ F30 (setD D59 12) 12 [jw x47, jw x56] (jw x61) w62))
  fun (x63 : Hd3) =>
 flendC Y27 [12, 11, 4, 3] E29 w26 (fun D0 w65 => F30 D0 12 [jw x47, jw x56] (jw x63) w65 ∧ F30 D0 11 [ji x49] (jw x56) w65 ∧ F30 D0 4 [jw x31, jw x39] (jw x46) w65 ∧ F30 D0 3 [.agg #[ji x32.1, ji x32.2.1, .string x32.2.2.1]] (jw x39) w65 ∧ True) fun w64 =>
 wu prog (jS 56 (Addr.add x3 2) (jw x46)) w64 fun w66 =>
 wu prog (jS 22 (Addr.add x3 3) (jw x63)) w66 fun w67 =>
 K9 (()) w67))
 (rd prog (jL 82 x3) (.agg [.int .i64, .slice, .slice, .slice, .int .i64]) w8 fun (x68 : Int × Hd3 × Hd3 × Hd3 × Int × Unit) =>
 wu prog (jS 82 x1 (.agg #[ji x68.1, jw x68.2.1, jw x68.2.2.1, jw x68.2.2.2.1, ji x68.2.2.2.2.1])) w8 fun w69 =>
 rd prog (loadVar 82 x1) (.agg [.int .i64, .slice, .slice, .slice, .int .i64]) w69 fun (x70 : Int × Hd3 × Hd3 × Hd3 × Int × Unit) =>
 R (.agg #[ji x70.1, jw x70.2.1, jw x70.2.2.1, jw x70.2.2.2.1, ji x70.2.2.2.2.1]) w69)
def H24a : Hints := ⟨[(2, 0, [(16, (.one (.int .i64)))]), (1, 1, [])], [(6, 6), (7, 14)], [], [1000007]⟩
theorem S24a_calls (values_a : OA) (values_n values_c : Nat) (counts_a : OA) (counts_n counts_c : Nat) (nulls_ threshold_ : Int) (w0 : World) (R : KR) (h : S24a values_a values_n values_c counts_a counts_n counts_c nulls_ threshold_ w0 R) : Calls prog 24 #[.slice values_a values_n values_c, .slice counts_a counts_n counts_c, ji nulls_, ji threshold_] w0 (ret R) :=
 vcFn_sound (H := H24a) follows_ Tryz.func24 (Eq.mpr (by kernel_rfl) h)
def S5t (t_ : OA) (w0 : World) (R : KR) : Prop :=
 wr prog (Instr.alloc 29 true (.tuple #[])) oA w0 fun (x1 : Addr) w2 =>
 wr prog (Instr.alloc 29 true (.tuple #[])) oA w2 fun (x3 : Addr) w4 =>
 call prog 15 [.pointer t_, ji 3] (.one oI) w4 fun (x5 : Int) w6 =>
 z (IntKind.wrap .i64 (1 + x5)) fun (z7 : Int) =>
 loop (T := (Int × Unit)) (0, ()) w6 fun (g8 : Int × Unit → World → Prop) (s9 : Int × Unit) w10 => ∀ _ : NV,
 br (decide (s9.1 < z7)) (join (T := Unit) (fun (_s12 : Unit) w13 => ∀ _ : NV,
 z (IntKind.wrap .i64 (s9.1 + 1)) fun (z14 : Int) =>
 g8 (z14, ()) w13)
  fun (K11 : Unit → World → Prop) =>
 call prog 16 [.string ⟨#[116]⟩, ji s9.1] (.one (.one .str)) w10 fun (x15 : ByteArray) w16 =>
 wr prog (Instr.buildSlice 37 1 #[(0, (.agg #[.string ⟨#[105, 100]⟩, ji 1, .bool false]))]) oS w16 fun (x17 : Hd3) w18 =>
 wr prog (Instr.buildSlice 22 1 #[(0, (ji 0))]) oS w18 fun (x19 : Hd3) w20 =>
 wr prog (Instr.alloc 41 true (.tuple #[])) oA w20 fun (x21 : Addr) w22 =>
 wu prog (jS 41 x21 (.agg #[.string x15, jw x17, jw x19, .slice none 0 0, .slice none 0 0, .slice none 0 0])) w22 fun w23 =>
 call prog 15 [.pointer t_, ji 2] (.one oI) w23 fun (x24 : Int) w25 =>
 z (IntKind.wrap .i64 (1 + x24)) fun (z26 : Int) =>
 loop (T := (Int × Unit)) (0, ()) w25 fun (g27 : Int × Unit → World → Prop) (s28 : Int × Unit) w29 => ∀ _ : NV,
 br (decide (s28.1 < z26)) (drw w29 fun w30 => flExC w30 fun E33 G32 Y31 F34 =>
 rdE prog (ER Y31 [12, 14] E33) (jL 37 (Addr.add x21 1)) oS w30 fun (x35 : Hd3) =>
 flcC Y31 3 E33 w30 (fun (_D39 : Nat → Bool) _w37 => True) (fun (D38 : Nat → Bool) w36 =>
   call prog 16 [.string ⟨#[99]⟩, ji s28.1] (.one (.one .str)) w36 fun (x40 : ByteArray) w41 =>
 (E33 w36 w41 ∧ G32 3 w36 w41 ∧ Y31 (setD D38 3) w41 ∧ F34 (setD D38 3) 3 [.string ⟨#[99]⟩, ji s28.1] (.string x40) w41))
  fun (x42 : ByteArray) =>
 flcC Y31 5 E33 w30 (fun (D46 : Nat → Bool) w44 => F34 D46 3 [.string ⟨#[99]⟩, ji s28.1] (.string x42) w44 ∧ True) (fun (D45 : Nat → Bool) w43 =>
   call prog 15 [.pointer t_, ji 3] (.one oI) w43 fun (x47 : Int) w48 =>
 (E33 w43 w48 ∧ G32 5 w43 w48 ∧ Y31 (setD D45 5) w48 ∧ F34 (setD D45 5) 5 [.pointer t_, ji 3] (ji x47) w48))
  fun (x49 : Int) =>
 z (IntKind.wrap .i64 (1 + x49)) fun (z50 : Int) =>
 flcC Y31 8 E33 w30 (fun (D54 : Nat → Bool) w52 => F34 D54 5 [.pointer t_, ji 3] (ji x49) w52 ∧ F34 D54 3 [.string ⟨#[99]⟩, ji s28.1] (.string x42) w52 ∧ True) (fun (D53 : Nat → Bool) w51 =>
   call prog 15 [.pointer t_, ji 3] (.one oI) w51 fun (x55 : Int) w56 =>
 (E33 w51 w56 ∧ G32 8 w51 w56 ∧ Y31 (setD D53 8) w56 ∧ F34 (setD D53 8) 8 [.pointer t_, ji 3] (ji x55) w56))
  fun (x57 : Int) =>
 flcC Y31 11 E33 w30 (fun (D61 : Nat → Bool) w59 => F34 D61 8 [.pointer t_, ji 3] (ji x57) w59 ∧ F34 D61 5 [.pointer t_, ji 3] (ji x49) w59 ∧ F34 D61 3 [.string ⟨#[99]⟩, ji s28.1] (.string x42) w59 ∧ True) (fun (D60 : Nat → Bool) w58 =>
   wr prog (Instr.buildSlice 37 1 #[(0, (.agg #[.string x42, ji z50, .bool (x57 == 0)]))]) oS w58 fun (x62 : Hd3) w63 =>
 (E33 w58 w63 ∧ G32 11 w58 w63 ∧ Y31 (setD D60 11) w63 ∧ F34 (setD D60 11) 11 [.agg #[.string x42, ji z50, .bool (x57 == 0)]] (jw x62) w63))
  fun (x64 : Hd3) =>
 flendC Y31 [11, 8, 5, 3] E33 w30 (fun D0 w66 => F34 D0 11 [.agg #[.string x42, ji z50, .bool (x57 == 0)]] (jw x64) w66 ∧ F34 D0 8 [.pointer t_, ji 3] (ji x57) w66 ∧ F34 D0 5 [.pointer t_, ji 3] (ji x49) w66 ∧ F34 D0 3 [.string ⟨#[99]⟩, ji s28.1] (.string x42) w66 ∧ True) fun w65 =>
 wr prog (Builtin.append_ #[37, 37] 37 #[.slice x35.1 x35.2.1 x35.2.2, .slice x64.1 x64.2.1 x64.2.2]) oS w65 fun (x67 : Hd3) w68 =>
 wu prog (jS 37 (Addr.add x21 1) (jw x67)) w68 fun w69 =>
 z (IntKind.wrap .i64 (s28.1 + 1)) fun (z70 : Int) =>
 g27 (z70, ()) w69)
 (join (T := Unit) (fun (_s72 : Unit) w73 => ∀ _ : NV,
 join (T := Unit) (fun (_s75 : Unit) w76 => ∀ _ : NV,
 rd prog (jL 27 x3) oS w76 fun (x77 : Hd3) =>
 rd prog (jL 41 x21) (.agg [.str, .slice, .slice, .slice, .slice, .slice]) w76 fun (x78 : ByteArray × Hd3 × Hd3 × TS) =>
 wr prog (Instr.buildSlice 27 1 #[(0, (.agg #[.string x78.1, jw x78.2.1, jw x78.2.2.1, jw x78.2.2.2.1, jw x78.2.2.2.2.1, jw x78.2.2.2.2.2.1]))]) oS w76 fun (x79 : Hd3) w80 =>
 wr prog (Builtin.append_ #[27, 27] 27 #[.slice x77.1 x77.2.1 x77.2.2, .slice x79.1 x79.2.1 x79.2.2]) oS w80 fun (x81 : Hd3) w82 =>
 wu prog (jS 27 x3 (jw x81)) w82 fun w83 =>
 K11 (()) w83)
  fun (K74 : Unit → World → Prop) =>
 call prog 15 [.pointer t_, ji 4] (.one oI) w73 fun (x84 : Int) w85 =>
 br (x84 == 0) (drw w85 fun w86 => flExC w86 fun E89 G88 Y87 F90 =>
 rdE prog (ER Y87 [7, 9] E89) (jL 39 (Addr.add x21 5)) oS w86 fun (x91 : Hd3) =>
 rdE prog (ER Y87 [4, 5, 6, 7, 9] E89) (jL 41 x21) (.agg [.str, .slice, .slice, .slice, .slice, .slice]) w86 fun (x92 : ByteArray × Hd3 × Hd3 × TS) =>
 flcC Y87 4 E89 w86 (fun (_D96 : Nat → Bool) _w94 => True) (fun (D95 : Nat → Bool) w93 =>
   call prog 18 [.pointer t_, .agg #[.string x92.1, jw x92.2.1, jw x92.2.2.1, jw x92.2.2.2.1, jw x92.2.2.2.2.1, jw x92.2.2.2.2.2.1]] (.one (.agg [.int .i64, .int .i64, .int .i64, .int .i64, .str])) w93 fun (x97 : Int × Int × Int × Int × ByteArray × Unit) w98 =>
 (E89 w93 w98 ∧ G88 4 w93 w98 ∧ Y87 (setD D95 4) w98 ∧ F90 (setD D95 4) 4 [.pointer t_, .agg #[.string x92.1, jw x92.2.1, jw x92.2.2.1, jw x92.2.2.2.1, jw x92.2.2.2.2.1, jw x92.2.2.2.2.2.1]] (.agg #[ji x97.1, ji x97.2.1, ji x97.2.2.1, ji x97.2.2.2.1, .string x97.2.2.2.2.1]) w98))
  fun (x99 : Int × Int × Int × Int × ByteArray × Unit) =>
 flcC Y87 5 E89 w86 (fun (D103 : Nat → Bool) w101 => F90 D103 4 [.pointer t_, .agg #[.string x92.1, jw x92.2.1, jw x92.2.2.1, jw x92.2.2.2.1, jw x92.2.2.2.2.1, jw x92.2.2.2.2.2.1]] (.agg #[ji x99.1, ji x99.2.1, ji x99.2.2.1, ji x99.2.2.2.1, .string x99.2.2.2.2.1]) w101 ∧ True) (fun (D102 : Nat → Bool) w100 =>
   call prog 17 [.agg #[ji x99.1, ji x99.2.1, ji x99.2.2.1, ji x99.2.2.2.1, .string x99.2.2.2.2.1]] (.one (.agg [.int .i64, .int .i64, .int .i64, .str, .int .i64, .slice])) w100 fun (x104 : Int × Int × Int × ByteArray × Int × Hd3 × Unit) w105 =>
 (E89 w100 w105 ∧ G88 5 w100 w105 ∧ Y87 (setD D102 5) w105 ∧ F90 (setD D102 5) 5 [.agg #[ji x99.1, ji x99.2.1, ji x99.2.2.1, ji x99.2.2.2.1, .string x99.2.2.2.2.1]] (.agg #[ji x104.1, ji x104.2.1, ji x104.2.2.1, .string x104.2.2.2.1, ji x104.2.2.2.2.1, jw x104.2.2.2.2.2.1]) w105))
  fun (x106 : Int × Int × Int × ByteArray × Int × Hd3 × Unit) =>
 flcC Y87 6 E89 w86 (fun (D110 : Nat → Bool) w108 => F90 D110 5 [.agg #[ji x99.1, ji x99.2.1, ji x99.2.2.1, ji x99.2.2.2.1, .string x99.2.2.2.2.1]] (.agg #[ji x106.1, ji x106.2.1, ji x106.2.2.1, .string x106.2.2.2.1, ji x106.2.2.2.2.1, jw x106.2.2.2.2.2.1]) w108 ∧ F90 D110 4 [.pointer t_, .agg #[.string x92.1, jw x92.2.1, jw x92.2.2.1, jw x92.2.2.2.1, jw x92.2.2.2.2.1, jw x92.2.2.2.2.2.1]] (.agg #[ji x99.1, ji x99.2.1, ji x99.2.2.1, ji x99.2.2.2.1, .string x99.2.2.2.2.1]) w108 ∧ True) (fun (D109 : Nat → Bool) w107 =>
   wr prog (Instr.buildSlice 39 1 #[(0, (.agg #[ji x106.1, ji x106.2.1, ji x106.2.2.1, .string x106.2.2.2.1, ji x106.2.2.2.2.1, jw x106.2.2.2.2.2.1]))]) oS w107 fun (x111 : Hd3) w112 =>
 (E89 w107 w112 ∧ G88 6 w107 w112 ∧ Y87 (setD D109 6) w112 ∧ F90 (setD D109 6) 6 [.agg #[ji x106.1, ji x106.2.1, ji x106.2.2.1, .string x106.2.2.2.1, ji x106.2.2.2.2.1, jw x106.2.2.2.2.2.1]] (jw x111) w112))
  fun (x113 : Hd3) =>
 flendC Y87 [6, 5, 4] E89 w86 (fun D0 w115 => F90 D0 6 [.agg #[ji x106.1, ji x106.2.1, ji x106.2.2.1, .string x106.2.2.2.1, ji x106.2.2.2.2.1, jw x106.2.2.2.2.2.1]] (jw x113) w115 ∧ F90 D0 5 [.agg #[ji x99.1, ji x99.2.1, ji x99.2.2.1, ji x99.2.2.2.1, .string x99.2.2.2.2.1]] (.agg #[ji x106.1, ji x106.2.1, ji x106.2.2.1, .string x106.2.2.2.1, ji x106.2.2.2.2.1, jw x106.2.2.2.2.2.1]) w115 ∧ F90 D0 4 [.pointer t_, .agg #[.string x92.1, jw x92.2.1, jw x92.2.2.1, jw x92.2.2.2.1, jw x92.2.2.2.2.1, jw x92.2.2.2.2.2.1]] (.agg #[ji x99.1, ji x99.2.1, ji x99.2.2.1, ji x99.2.2.2.1, .string x99.2.2.2.2.1]) w115 ∧ True) fun w114 =>
 wr prog (Builtin.append_ #[39, 39] 39 #[.slice x91.1 x91.2.1 x91.2.2, .slice x113.1 x113.2.1 x113.2.2]) oS w114 fun (x116 : Hd3) w117 =>
 wu prog (jS 39 (Addr.add x21 5) (jw x116)) w117 fun w118 =>
 K74 (()) w118)
 (K74 (()) w85))
  fun (K71 : Unit → World → Prop) =>
 loop (T := (Int × Unit)) (0, ()) w29 fun (g119 : Int × Unit → World → Prop) (s120 : Int × Unit) w121 => ∀ _ : NV,
 br (decide (s120.1 < 2)) (br (decide (s9.1 > 0)) (z (IntKind.wrap .i64 (3 - s120.1)) fun (z122 : Int) =>
 call prog 15 [.pointer t_, ji z122] (.one oI) w121 fun (x123 : Int) w124 =>
 br (decide (x123 > 0)) (drw w124 fun w125 => flEx fun F126 =>
 rd prog (jL 37 (Addr.add x21 1)) oS w125 fun (x127 : Hd3) =>
 flc bel w125 (fun _w129 => True) (fun w128 =>
   call prog 16 [.string ⟨#[102]⟩, ji s120.1] (.one (.one .str)) w128 fun (x130 : ByteArray) w131 =>
 (bel w128 w131 ∧ F126 3 [.string ⟨#[102]⟩, ji s120.1] (.string x130) w131))
  fun (x132 : ByteArray) =>
 flc bel w125 (fun w134 => F126 3 [.string ⟨#[102]⟩, ji s120.1] (.string x132) w134 ∧ True) (fun w133 =>
   wr prog (Instr.buildSlice 37 1 #[(0, (.agg #[.string x132, ji 1, .bool false]))]) oS w133 fun (x135 : Hd3) w136 =>
 (bel w133 w136 ∧ F126 5 [.agg #[.string x132, ji 1, .bool false]] (jw x135) w136))
  fun (x137 : Hd3) =>
 flend bel w125 (fun w139 => F126 5 [.agg #[.string x132, ji 1, .bool false]] (jw x137) w139 ∧ F126 3 [.string ⟨#[102]⟩, ji s120.1] (.string x132) w139 ∧ True) fun w138 =>
 wr prog (Builtin.append_ #[37, 37] 37 #[.slice x127.1 x127.2.1 x127.2.2, .slice x137.1 x137.2.1 x137.2.2]) oS w138 fun (x140 : Hd3) w141 =>
 wu prog (jS 37 (Addr.add x21 1) (jw x140)) w141 fun w142 =>
 drw w142 fun w143 => flExC w143 fun E146 G145 Y144 F147 =>
 rdE prog (ER Y144 [13, 15] E146) (jL 38 (Addr.add x21 4)) oS w143 fun (x148 : Hd3) =>
 rdE prog (ER Y144 [6, 12, 13, 15] E146) (jL 37 (Addr.add x21 1)) oS w143 fun (x149 : Hd3) =>
 z (IntKind.wrap .i64 (((x149.2.1 : Nat) : Int) - 1)) fun (z150 : Int) =>
 flcC Y144 6 E146 w143 (fun (_D154 : Nat → Bool) _w152 => True) (fun (D153 : Nat → Bool) w151 =>
   wr prog (Instr.buildSlice 22 1 #[(0, (ji z150))]) oS w151 fun (x155 : Hd3) w156 =>
 (E146 w151 w156 ∧ G145 6 w151 w156 ∧ Y144 (setD D153 6) w156 ∧ F147 (setD D153 6) 6 [ji z150] (jw x155) w156))
  fun (x157 : Hd3) =>
 flcC Y144 9 E146 w143 (fun (_D161 : Nat → Bool) _w159 => True) (fun (D160 : Nat → Bool) w158 =>
   call prog 15 [.pointer t_, ji s9.1] (.one oI) w158 fun (x162 : Int) w163 =>
 (E146 w158 w163 ∧ G145 9 w158 w163 ∧ Y144 (setD D160 9) w163 ∧ F147 (setD D160 9) 9 [.pointer t_, ji s9.1] (ji x162) w163))
  fun (x164 : Int) =>
 flcC Y144 10 E146 w143 (fun (D168 : Nat → Bool) w166 => F147 D168 9 [.pointer t_, ji s9.1] (ji x164) w166 ∧ True) (fun (D167 : Nat → Bool) w165 =>
   call prog 16 [.string ⟨#[116]⟩, ji x164] (.one (.one .str)) w165 fun (x169 : ByteArray) w170 =>
 (E146 w165 w170 ∧ G145 10 w165 w170 ∧ Y144 (setD D167 10) w170 ∧ F147 (setD D167 10) 10 [.string ⟨#[116]⟩, ji x164] (.string x169) w170))
  fun (x171 : ByteArray) =>
 flcC Y144 12 E146 w143 (fun (D175 : Nat → Bool) w173 => F147 D175 10 [.string ⟨#[116]⟩, ji x164] (.string x171) w173 ∧ F147 D175 9 [.pointer t_, ji s9.1] (ji x164) w173 ∧ F147 D175 6 [ji z150] (jw x157) w173 ∧ True) (fun (D174 : Nat → Bool) w172 =>
   wr prog (Instr.buildSlice 38 1 #[(0, (.agg #[jw x157, .string x171]))]) oS w172 fun (x176 : Hd3) w177 =>
 (E146 w172 w177 ∧ G145 12 w172 w177 ∧ Y144 (setD D174 12) w177 ∧ F147 (setD D174 12) 12 [.agg #[jw x157, .string x171]] (jw x176) w177))
  fun (x178 : Hd3) =>
 flendC Y144 [12, 10, 9, 6] E146 w143 (fun D0 w180 => F147 D0 12 [.agg #[jw x157, .string x171]] (jw x178) w180 ∧ F147 D0 10 [.string ⟨#[116]⟩, ji x164] (.string x171) w180 ∧ F147 D0 9 [.pointer t_, ji s9.1] (ji x164) w180 ∧ F147 D0 6 [ji z150] (jw x157) w180 ∧ True) fun w179 =>
 wr prog (Builtin.append_ #[38, 38] 38 #[.slice x148.1 x148.2.1 x148.2.2, .slice x178.1 x178.2.1 x178.2.2]) oS w179 fun (x181 : Hd3) w182 =>
 wu prog (jS 38 (Addr.add x21 4) (jw x181)) w182 fun w183 =>
 z (IntKind.wrap .i64 (s120.1 + 1)) fun (z184 : Int) =>
 g119 (z184, ()) w183)
 (K71 (()) w124))
 (K71 (()) w121))
 (K71 (()) w121)))
 (rd prog (jL 29 x3) (.agg [.slice]) w10 fun (x185 : Hd3 × Unit) =>
 wu prog (jS 29 x1 (.agg #[jw x185.1])) w10 fun w186 =>
 rd prog (loadVar 29 x1) (.agg [.slice]) w186 fun (x187 : Hd3 × Unit) =>
 R (.agg #[jw x187.1]) w186)
def H5t : Hints := ⟨[(2, 0, [(5, (.one (.int .i64)))]), (2, 2, [(8, (.one (.int .i64)))]), (2, 4, [(9, (.one (.int .i64)))]), (1, 4, []), (0, 86, []), (1, 1, [])], [(11, 12), (15, 6), (16, 13), (18, 7)], [], [1000018, 1000016, 1000011]⟩
theorem S5t_calls (t_ : OA) (w0 : World) (R : KR) (h : S5t t_ w0 R) : Calls prog 5 #[.pointer t_] w0 (ret R) :=
 vcFn_sound (H := H5t) follows_ Tryz.func5 (Eq.mpr (by kernel_rfl) h)
def S6t (t_ s_0a : OA) (s_0n s_0c : Nat) (most_ : Int) (w0 : World) (R : KR) : Prop :=
 wr prog (Instr.box 29 (.agg #[.slice s_0a s_0n s_0c])) oA w0 fun (x1 : Addr) w2 =>
 wr prog (Instr.alloc 34 true (.tuple #[])) oA w2 fun (x3 : Addr) w4 =>
 rd prog (jL 27 x1) oS w4 fun (x5 : Hd3) =>
 wr prog (Instr.makeSlice 32 (ji ((x5.2.1 : Nat) : Int)) (ji ((x5.2.1 : Nat) : Int))) oS w4 fun (x6 : Hd3) w7 =>
 wr prog (Instr.alloc 34 true (.tuple #[])) oA w7 fun (x8 : Addr) w9 =>
 wu prog (jS 34 x8 (.agg #[jw x6])) w9 fun w10 =>
 rd prog (jL 29 x1) (.agg [.slice]) w10 fun (x11 : Hd3 × Unit) =>
 call prog 19 [.agg #[jw x11.1]] (.many [oS, oI]) w10 fun (x12 : Hd3 × Int × Unit) w13 =>
 loop (T := (Int × Unit)) (0, ()) w13 fun (g14 : Int × Unit → World → Prop) (s15 : Int × Unit) w16 => ∀ _ : NV,
 br (decide (s15.1 < ((x12.1.2.1 : Nat) : Int))) (rdp prog (jI 22 x12.1 s15.1) oA fun (x17 : Addr) =>
 rd prog (jL 3 x17) oI w16 fun (x18 : Int) =>
 rd prog (jL 27 x1) oS w16 fun (x19 : Hd3) =>
 rdp prog (jI 27 x19 x18) oA fun (x20 : Addr) =>
 rd prog (jL 41 x20) (.agg [.str, .slice, .slice, .slice, .slice, .slice]) w16 fun (x21 : ByteArray × Hd3 × Hd3 × TS) =>
 wr prog (Instr.alloc 41 true (.tuple #[])) oA w16 fun (x22 : Addr) w23 =>
 wu prog (jS 41 x22 (.agg #[.string x21.1, jw x21.2.1, jw x21.2.2.1, jw x21.2.2.2.1, jw x21.2.2.2.2.1, jw x21.2.2.2.2.2.1])) w23 fun w24 =>
 z (IntKind.wrap .i64 (most_ + 1)) fun (z25 : Int) =>
 call prog 15 [.pointer t_, ji z25] (.one oI) w24 fun (x26 : Int) w27 =>
 loop (T := TF) (x26, 0, ()) w27 fun (g28 : TF → World → Prop) (s29 : TF) w30 => ∀ _ : NV,
 rd prog (jL 38 (Addr.add x22 4)) oS w30 fun (x31 : Hd3) =>
 br (decide (s29.2.1 < ((x31.2.1 : Nat) : Int))) (join (T := (Int × Unit)) (fun (s33 : Int × Unit) w34 => ∀ _ : NV,
 z (IntKind.wrap .i64 (s29.2.1 + 1)) fun (z35 : Int) =>
 g28 (s33.1, z35, ()) w34)
  fun (K32 : Int × Unit → World → Prop) =>
 rd prog (jL 29 x1) (.agg [.slice]) w30 fun (x36 : Hd3 × Unit) =>
 call prog 20 [.agg #[jw x36.1], ji x18, ji s29.2.1] (.many [oI, oB]) w30 fun (x37 : Int × Bool × Unit) w38 =>
 rd prog (jL 32 x8) oS w38 fun (x39 : Hd3) =>
 rdp prog (jI 32 x39 x37.1) oA fun (x40 : Addr) =>
 rd prog (jL 53 x40) oS w38 fun (x41 : Hd3) =>
 br (((x41.2.1 : Nat) : Int) == 0) (K32 (0, ()) w38)
 (K32 (s29.1, ()) w38))
 (loop (T := (Int × Unit)) (0, ()) w30 fun (g42 : Int × Unit → World → Prop) (s43 : Int × Unit) w44 => ∀ _ : NV,
 br (decide (s43.1 < s29.1)) (rd prog (jL 37 (Addr.add x22 1)) oS w44 fun (x45 : Hd3) =>
 wr prog (Instr.makeSlice 56 (ji ((x45.2.1 : Nat) : Int)) (ji ((x45.2.1 : Nat) : Int))) oS w44 fun (x46 : Hd3) w47 =>
 loop (T := (Int × Unit)) (0, ()) w47 fun (g48 : Int × Unit → World → Prop) (s49 : Int × Unit) w50 => ∀ _ : NV,
 br (decide (s49.1 < ((x46.2.1 : Nat) : Int))) (drw w50 fun w51 =>
 rd prog (jL 37 (Addr.add x22 1)) oS w51 fun (x52 : Hd3) =>
 rdp prog (jI 37 x52 s49.1) oA fun (x53 : Addr) =>
 rd prog (jL 3 (Addr.add x53 1)) oI w51 fun (x54 : Int) =>
 rd prog (jL 37 (Addr.add x22 1)) oS w51 fun (x55 : Hd3) =>
 rdp prog (jI 37 x55 s49.1) oA fun (x56 : Addr) =>
 rd prog (jL 4 (Addr.add x56 2)) oB w51 fun (x57 : Bool) =>
 call prog 21 [.pointer t_, ji x54, .bool x57] (.one (.agg [.int .i64, .int .i64, .str])) w51 fun (x58 : Int × Int × ByteArray × Unit) w59 =>
 rdp prog (jI 56 x46 s49.1) oA fun (x60 : Addr) =>
 wu prog (jS 55 x60 (.agg #[ji x58.1, ji x58.2.1, .string x58.2.2.1])) w59 fun w61 =>
 z (IntKind.wrap .i64 (s49.1 + 1)) fun (z62 : Int) =>
 g48 (z62, ()) w61)
 (rd prog (jL 22 (Addr.add x22 2)) oS w50 fun (x63 : Hd3) =>
 rdp prog (jI 22 x63 0) oA fun (x64 : Addr) =>
 rd prog (jL 3 x64) oI w50 fun (x65 : Int) =>
 z (IntKind.wrap .i64 (s43.1 + 1)) fun (z66 : Int) =>
 rdp prog (jI 56 x46 x65) oA fun (x67 : Addr) =>
 wu prog (jS 55 x67 (.agg #[ji 1, ji z66, .string ByteArray.empty])) w50 fun w68 =>
 loop (T := (Int × Unit)) (0, ()) w68 fun (g69 : Int × Unit → World → Prop) (s70 : Int × Unit) w71 => ∀ _ : NV,
 rd prog (jL 38 (Addr.add x22 4)) oS w71 fun (x72 : Hd3) =>
 br (decide (s70.1 < ((x72.2.1 : Nat) : Int))) (rd prog (jL 29 x1) (.agg [.slice]) w71 fun (x73 : Hd3 × Unit) =>
 call prog 20 [.agg #[jw x73.1], ji x18, ji s70.1] (.many [oI, oB]) w71 fun (x74 : Int × Bool × Unit) w75 =>
 drw w75 fun w76 => flExC w76 fun E79 G78 Y77 F80 =>
 rdE prog (ER Y77 [20] E79) (jL 38 (Addr.add x22 4)) oS w76 fun (x81 : Hd3) =>
 rdp prog (jI 38 x81 s70.1) oA fun (x82 : Addr) =>
 rdE prog (ER Y77 [20] E79) (jL 22 x82) oS w76 fun (x83 : Hd3) =>
 rdp prog (jI 22 x83 0) oA fun (x84 : Addr) =>
 rdE prog (ER Y77 [20] E79) (jL 3 x84) oI w76 fun (x85 : Int) =>
 rdE prog (ER Y77 [16, 20] E79) (jL 32 x8) oS w76 fun (x86 : Hd3) =>
 rdp prog (jI 32 x86 x74.1) oA fun (x87 : Addr) =>
 rdE prog (ER Y77 [16, 20] E79) (jL 53 x87) oS w76 fun (x88 : Hd3) =>
 flcC Y77 16 E79 w76 (fun (_D92 : Nat → Bool) _w90 => True) (fun (D91 : Nat → Bool) w89 =>
   call prog 15 [.pointer t_, (ji ((x88.2.1 : Nat) : Int))] (.one oI) w89 fun (x93 : Int) w94 =>
 (E79 w89 w94 ∧ G78 16 w89 w94 ∧ Y77 (setD D91 16) w94 ∧ F80 (setD D91 16) 16 [.pointer t_, (ji ((x88.2.1 : Nat) : Int))] (ji x93) w94))
  fun (x95 : Int) =>
 z (IntKind.wrap .i64 (1 + x95)) fun (z96 : Int) =>
 flendC Y77 [16] E79 w76 (fun D0 w98 => F80 D0 16 [.pointer t_, (ji ((x88.2.1 : Nat) : Int))] (ji x95) w98 ∧ True) fun w97 =>
 rdp prog (jI 56 x46 x85) oA fun (x99 : Addr) =>
 wu prog (jS 55 x99 (.agg #[ji 1, ji z96, .string ByteArray.empty])) w97 fun w100 =>
 z (IntKind.wrap .i64 (s70.1 + 1)) fun (z101 : Int) =>
 g69 (z101, ()) w100)
 (drw w71 fun w102 => flExC w102 fun E105 G104 Y103 F106 =>
 rdE prog (ER Y103 [12] E105) (jL 32 x8) oS w102 fun (x107 : Hd3) =>
 rdE prog (ER Y103 [10, 12] E105) (jL 32 x8) oS w102 fun (x108 : Hd3) =>
 rdp prog (jI 32 x108 x18) oA fun (x109 : Addr) =>
 rdE prog (ER Y103 [10, 12] E105) (jL 53 x109) oS w102 fun (x110 : Hd3) =>
 flcC Y103 9 E105 w102 (fun (_D114 : Nat → Bool) _w112 => True) (fun (D113 : Nat → Bool) w111 =>
   wr prog (Instr.buildSlice 53 1 #[(0, (jw x46))]) oS w111 fun (x115 : Hd3) w116 =>
 (E105 w111 w116 ∧ G104 9 w111 w116 ∧ Y103 (setD D113 9) w116 ∧ F106 (setD D113 9) 9 [jw x46] (jw x115) w116))
  fun (x117 : Hd3) =>
 flcC Y103 10 E105 w102 (fun (D121 : Nat → Bool) w119 => F106 D121 9 [jw x46] (jw x117) w119 ∧ True) (fun (D120 : Nat → Bool) w118 =>
   wr prog (Builtin.append_ #[53, 53] 53 #[.slice x110.1 x110.2.1 x110.2.2, .slice x117.1 x117.2.1 x117.2.2]) oS w118 fun (x122 : Hd3) w123 =>
 (E105 w118 w123 ∧ G104 10 w118 w123 ∧ Y103 (setD D120 10) w123 ∧ F106 (setD D120 10) 10 [jw x110, jw x117] (jw x122) w123))
  fun (x124 : Hd3) =>
 flendC Y103 [10, 9] E105 w102 (fun D0 w126 => F106 D0 10 [jw x110, jw x117] (jw x124) w126 ∧ F106 D0 9 [jw x46] (jw x117) w126 ∧ True) fun w125 =>
 rdp prog (jI 32 x107 x18) oA fun (x127 : Addr) =>
 wu prog (jS 53 x127 (jw x124)) w125 fun w128 =>
 z (IntKind.wrap .i64 (s43.1 + 1)) fun (z129 : Int) =>
 g42 (z129, ()) w128)))
 (z (IntKind.wrap .i64 (s15.1 + 1)) fun (z130 : Int) =>
 g14 (z130, ()) w44)))
 (rd prog (jL 34 x8) (.agg [.slice]) w16 fun (x131 : Hd3 × Unit) =>
 wu prog (jS 34 x3 (.agg #[jw x131.1])) w16 fun w132 =>
 rd prog (loadVar 34 x3) (.agg [.slice]) w132 fun (x133 : Hd3 × Unit) =>
 R (.agg #[jw x133.1]) w132)
def H6t : Hints := ⟨[(2, 0, [(10, (.one (.int .i64)))]), (2, 2, [(13, (.one (.int .i64))), (14, (.one (.int .i64)))]), (1, 3, [(13, (.one (.int .i64)))]), (2, 4, [(17, (.one (.int .i64)))]), (2, 6, [(19, (.one (.int .i64)))]), (2, 8, [(20, (.one (.int .i64)))])], [(22, 15), (28, 19), (29, 11)], [], [1000029, 1000028]⟩
theorem S6t_calls (t_ s_0a : OA) (s_0n s_0c : Nat) (most_ : Int) (w0 : World) (R : KR) (h : S6t t_ s_0a s_0n s_0c most_ w0 R) : Calls prog 6 #[.pointer t_, .agg #[.slice s_0a s_0n s_0c], ji most_] w0 (ret R) :=
 vcFn_sound (H := H6t) follows_ Tryz.func6 (Eq.mpr (by kernel_rfl) h)
end Go.Proofs

/- Package privacy: statistics of a column; frequent. -/


namespace Go.Proofs.YtcfghfmlfgaeaaaGreatDoor
open Go.RowKit Go.Q Go.V Go.Bag

structure ST (w : World) (e : TypeId) (a : Option Addr) (n c sz : Nat) (xs : List Value) : Prop where
  sl : Sl w a n c sz xs
  ty : ∀ ad, a = some ad → ∃ cur fz, w.heap[ad.block]? = some (.cells cur e fz)
theorem ST.keep {w w' : World} {e : TypeId} {a : Option Addr} {n c sz : Nat} {xs : List Value} {o : Option Nat} (H : ST w e a n c sz xs) (hg : w.grownBy w' o) (hne : ∀ ad, a = some ad → some ad.block ≠ o) : ST w' e a n c sz xs := by
  refine ⟨H.sl.grown hg fun ad ha _ => hne ad ha, fun ad ha => ?_⟩
  obtain ⟨cur, fz, h⟩ := H.ty ad ha
  have hlt : ad.block < w.heap.size := by
    rcases Nat.lt_or_ge ad.block w.heap.size with q | q
    · exact q
    · rw [Array.getElem?_eq_none q] at h; cases h
  exact ⟨cur, fz, (hg.block _ hlt (hne ad ha)).trans h⟩
theorem ST.up {w w' : World} {e : TypeId} {a : Option Addr} {n c sz : Nat} {xs : List Value} (H : ST w e a n c sz xs) (hb : bel w w') : ST w' e a n c sz xs := H.keep (grown_of_bel hb none) fun _ _ => by simp
theorem Own.ty {w : World} {B : Nat} {e : TypeId} {sz : Nat} {a : Option Addr} {n c : Nat} {xs : List Value} (O : Own w B e sz a n c xs) : ∀ ad, a = some ad → ∃ cur fz, w.heap[ad.block]? = some (.cells cur e fz) := by
  intro ad ha
  subst ha
  rcases O.2 with ⟨hv, _⟩ | ⟨g, cap, cur, hv, _, hg, _⟩
  · cases hv
  · injection hv with h1
    injection h1 with h1
    subst h1
    exact ⟨cur, _, hg⟩
theorem Own.st {w : World} {B : Nat} {e : TypeId} {sz : Nat} {a : Option Addr} {n c : Nat} {xs : List Value} (O : Own w B e sz a n c xs) : ST w e a n c sz xs := ⟨O.sl, Own.ty O⟩
theorem ST.apart {w w' : World} {e e' : TypeId} {a a' : Option Addr} {n c sz n' c' sz' B : Nat} {xs ys : List Value} (H : ST w e a n c sz xs) (O : Own w B e' sz' a' n' c' ys) (hne : e ≠ e') (hg : w.grownBy w' (blk a')) : ST w' e a n c sz xs := by
  refine H.keep hg fun ad ha q => ?_
  obtain ⟨cur, fz, h⟩ := H.ty ad ha
  cases a' with
  | none => simp [blk] at q
  | some ad' =>
    obtain ⟨cur', fz', h'⟩ := Own.ty O ad' rfl
    have q' : ad.block = ad'.block := by simpa [blk] using q
    rw [q', h'] at h
    injection h with h
    injection h with _ h _
    exact hne h.symm
structure St where
  nulls : Nat
  vals : List V3
  cnts : List Nat
  other : Nat
abbrev CH := Int × Hdr × Hdr × Hdr × Int × Unit
abbrev encCH (c : CH) : List Value := [.int .i64 c.1, .slice c.2.1.1 c.2.1.2.1 c.2.1.2.2, .slice c.2.2.1.1 c.2.2.1.2.1 c.2.2.1.2.2, .slice c.2.2.2.1.1 c.2.2.2.1.2.1 c.2.2.2.1.2.2, .int .i64 c.2.2.2.2.1]
structure CsAt (w : World) (c : CH) (s : St) : Prop where
  nulls : c.1 = (s.nulls : Int)
  bins : c.2.1 = (none, 0, 0)
  vals : ST w 55 c.2.2.1.1 c.2.2.1.2.1 c.2.2.1.2.2 3 (s.vals.flatMap encV)
  cnts : ST w 3 c.2.2.2.1.1 c.2.2.2.1.2.1 c.2.2.2.1.2.2 1 (nints s.cnts)
  other : c.2.2.2.2.1 = (s.other : Int)
structure CsNew (B : Nat) (c : CH) : Prop where
  vals : ∀ ad, c.2.2.1.1 = some ad → B ≤ ad.block
  cnts : ∀ ad, c.2.2.2.1.1 = some ad → B ≤ ad.block
theorem CsAt.up {w w' : World} {c : CH} {s : St} (H : CsAt w c s) (hb : bel w w') : CsAt w' c s := ⟨H.nulls, H.bins, H.vals.up hb, H.cnts.up hb, H.other⟩
theorem sl_eq {v : Hdr} {a : Option Addr} {n c : Nat} (e : Value.slice v.1 v.2.1 v.2.2 = .slice a n c) : v = (a, n, c) := by
  obtain ⟨x, y, z⟩ := v
  simp only [Value.slice.injEq] at e
  obtain ⟨rfl, rfl, rfl⟩ := e
  rfl
structure FInv (th : Int) (V : List V3) (C : List Nat) (i : Nat) (vs : List V3) (cs : List Nat) (o : Nat) : Prop where
  len : cs.length = vs.length
  le : vs.length ≤ i
  sum : o + cs.sum = (C.take i).sum
  each : ∀ (j : Nat) v n, vs[j]? = some v → cs[j]? = some n → th ≤ (n : Int) ∧ ∃ k : Nat, V[k]? = some v ∧ C[k]? = some n
theorem sum_take {C : List Nat} {i n : Nat} (h : C[i]? = some n) : (C.take (i + 1)).sum = (C.take i).sum + n := by
  rw [List.take_add_one, h, List.sum_append]; simp
theorem FInv.add {th : Int} {V : List V3} {C : List Nat} {i : Nat} {vs : List V3} {cs : List Nat} {o : Nat} (H : FInv th V C i vs cs o) {v : V3} {n : Nat} (hv : V[i]? = some v) (hn : C[i]? = some n) (ht : th ≤ (n : Int)) : FInv th V C (i + 1) (vs ++ [v]) (cs ++ [n]) o := by
  have hl := H.len
  have hle := H.le
  have hs := H.sum
  refine ⟨by simp [hl], by simp; omega, by rw [sum_take hn, List.sum_append]; simp; omega, fun j u m h1 h2 => ?_⟩
  rcases Nat.lt_or_ge j vs.length with q | q
  · rw [List.getElem?_append_left q] at h1
    rw [List.getElem?_append_left (by omega)] at h2
    exact H.each j u m h1 h2
  · have hj : j = vs.length := by
      have := (List.getElem?_eq_some_iff.1 h1).1
      simp at this; omega
    subst hj
    rw [List.getElem?_append_right (by omega)] at h1
    rw [List.getElem?_append_right (by omega), hl] at h2
    simp at h1 h2
    subst h1; subst h2
    exact ⟨ht, i, hv, hn⟩
theorem FInv.skip {th : Int} {V : List V3} {C : List Nat} {i : Nat} {vs : List V3} {cs : List Nat} {o : Nat} (H : FInv th V C i vs cs o) {n : Nat} (hn : C[i]? = some n) : FInv th V C (i + 1) vs cs (o + n) :=
  ⟨H.len, Nat.le_succ_of_le H.le, by rw [sum_take hn]; have := H.sum; omega, H.each⟩
theorem take_sum_le (C : List Nat) (i : Nat) : (C.take i).sum ≤ C.sum := by
  conv => rhs; rw [← List.take_append_drop i C]
  rw [List.sum_append]; omega
theorem atE_int {P : Program} {E : Rel} {t e : TypeId} {z : Value} {bytes : Nat} (T : TyS P t e z 1 bytes) (he : scal P e = true) {w : World} {a : Option Addr} {n c j : Nat} {xs : List Int} {k kk : IntKind} {i : Int} {y : Int} {K : Int → Prop} (H0 : Sl w a n c 1 (ints k xs)) (H : ∀ w', E w w' → Sl w' a n c 1 (ints k xs)) (hj : i = (j : Int)) (hy : xs[j]? = some y) (hk : K y) :
    rdp P (Instr.indexAt t (.slice a n c) (.int kk i)) (.one .addr) fun ad => rdE P E (Instr.loadAt e (.pointer (some ad))) (.one (.int k)) w K := by
  have hu : (ints k xs)[j]? = some (.int k y) := by rw [ints, List.getElem?_map, hy]; rfl
  have hl := H0.int
  have hjl := (List.getElem?_eq_some_iff.1 hy).1
  obtain ⟨ad, rfl, _, _⟩ := H0.at' j _ hu
  refine idx_mk T hj (by omega) rfl ?_
  rw [Nat.mul_one]
  refine ⟨y, fun w' hE => ?_, hk⟩
  obtain ⟨ad', q1, q2, _⟩ := (H w' hE).at' j _ hu
  cases q1
  rw [run_loadAt, run_loadVar1 he q2]; rfl
theorem rdE_boxN {P : Program} {E : Rel} {t : TypeId} {l : List Sh} {w : World} {a : Addr} {cs : List Value} {x : LT l} {k : LT l → Prop} (h : ∀ w', E w w' → Box w' a cs) (ht : aggOf P t cs.length = true) (hx : Lget l cs = some x) (hk : k x) :
    rdE P E (Instr.loadAt t (.pointer (some a))) (.agg l) w k :=
  ⟨x, fun w' hE => by rw [run_loadAt, run_loadVarN ht (fun j v hj => (h w' hE).cell hj), Lget_spec hx]; rfl, hk⟩
set_option maxHeartbeats 2000000 in
theorem frequentP {w : World} {vh ch : Hdr} {vals : List V3} {cnts : List Nat} (V : RowAt w vh vals) (C : Sl w ch.1 ch.2.1 ch.2.2 1 (nints cnts)) (hlen : cnts.length = vals.length) (hsum : cnts.sum ≤ 100) (hv100 : vals.length ≤ 100) (nulls : Nat) (th : Int) :
    call Tryz.prog 24 [.slice vh.1 vh.2.1 vh.2.2, .slice ch.1 ch.2.1 ch.2.2, .int .i64 (nulls : Int), .int .i64 th] (.one (.agg [.int .i64, .slice, .slice, .slice, .int .i64])) w
      (fun (c : CH) w' => bel w w' ∧ CsNew w.heap.size c ∧ ∃ s : St, CsAt w' c s ∧ s.nulls = nulls ∧ FInv th vals cnts vals.length s.vals s.cnts s.other) := by
  have hvl := RowAt.len V
  refine call_of (S24a_calls vh.1 vh.2.1 vh.2.2 ch.1 ch.2.1 ch.2.2 nulls th w _ ?_)
  unfold S24a
  refine wr_alloc (z := .agg #[.int .i64 0, .slice none 0 0, .slice none 0 0, .slice none 0 0, .int .i64 0]) (by kernel_rfl) fun x1 w2 X1 h2 _ _ => ?_
  refine var_mk (z := .agg #[.int .i64 0, .slice none 0 0, .slice none 0 0, .slice none 0 0, .int .i64 0]) (v := .agg (encCH (nulls, (none, 0, 0), (none, 0, 0), (none, 0, 0), 0, ())).toArray) (by kernel_rfl) (by kernel_rfl) rfl rfl fun x3 w5 X3 h5 hx3 => ?_
  replace X3 : Box w5 x3 (encCH (nulls, (none, 0, 0), (none, 0, 0), (none, 0, 0), 0, ())) := X3
  have hx1 := X1.lt
  replace X1 := X1.up h5
  have hb5 := h2.trans h5
  have hl3 := X3.lt
  have h25 := h5.size
  have h02 := h2.size
  refine loop_up vals.length (fun i w' => bel w w' ∧ w5.heap.size ≤ w'.heap.size ∧ (Box w' x1 [.int .i64 0, .slice none 0 0, .slice none 0 0, .slice none 0 0, .int .i64 0]) ∧ ∃ (v c : Hdr) (vs : List V3) (cs : List Nat) (o : Nat), Box w' x3 (encCH (nulls, (none, 0, 0), v, c, o, ())) ∧ Own w' w5.heap.size 55 3 v.1 v.2.1 v.2.2 (vs.flatMap encV) ∧ Own w' w5.heap.size 3 1 c.1 c.2.1 c.2.2 (nints cs) ∧ FInv th vals cnts i vs cs o)
    ⟨hb5, Nat.le_refl _, X1, (none, 0, 0), (none, 0, 0), [], [], 0, X3, Own.nil _ _ _ _, Own.nil _ _ _ _, rfl, Nat.zero_le _, by simp, fun j v n h => by simp at h⟩ fun i w8 hi ⟨hb8, hz8, X1, v, c, vs, cs, o, X3, OV, OC, FI⟩ again hag _ => ?_
  have hvl2 : v.2.1 = vs.length := by have := OV.1; rw [flat_len encV_len] at this; omega
  have hcl2 : c.2.1 = cs.length := by have := OC.1; simp [nints, ints] at this; omega
  have hl0 := FI.len
  have hle := FI.le
  have hs0 := FI.sum
  have hst := take_sum_le cnts i
  refine br_dec (fun e => ?_) (fun e => ?_)
  · dsimp only at e
    have hi' : i < vals.length := by omega
    refine join_mk (fun _ w' => bel w w' ∧ w5.heap.size ≤ w'.heap.size ∧ (Box w' x1 [.int .i64 0, .slice none 0 0, .slice none 0 0, .slice none 0 0, .int .i64 0]) ∧ ∃ (v c : Hdr) (vs : List V3) (cs : List Nat) (o : Nat), Box w' x3 (encCH (nulls, (none, 0, 0), v, c, o, ())) ∧ Own w' w5.heap.size 55 3 v.1 v.2.1 v.2.2 (vs.flatMap encV) ∧ Own w' w5.heap.size 3 1 c.1 c.2.1 c.2.2 (nints cs) ∧ FInv th vals cnts (i + 1) vs cs o) (fun K hK => ?_) ?_
    · refine row_at (V.up hb8) rfl hi' fun p hp => ?_
      refine var_mk (z := .agg #[.int .i64 0, .int .i64 0, .string ByteArray.empty]) (v := .agg (encV p).toArray) (by kernel_rfl) (by kernel_rfl) rfl rfl fun x15 w17 X15 h17 hx15 => ?_
      replace X15 : Box w17 x15 (encV p) := X15
      have hvlt : ∀ k, blk v.1 = some k → w5.heap.size ≤ k ∧ k < w8.heap.size := fun k hk => OV.lt k hk
      have hclt : ∀ k, blk c.1 = some k → w5.heap.size ≤ k ∧ k < w8.heap.size := fun k hk => OC.lt k hk
      have s17 := h17.size
      replace hb8 := hb8.trans h17; replace X1 := X1.up h17; replace X3 := X3.up h17; replace OV := Own.kept OV h17; replace OC := Own.kept OC h17
      obtain ⟨n, hn⟩ : ∃ n, cnts[i]? = some n := ⟨_, List.getElem?_eq_getElem (by omega)⟩
      have hstn := take_sum_le cnts (i + 1)
      rw [sum_take hn] at hstn
      have hn' : (cnts.map fun n : Nat => (n : Int))[i]? = some (n : Int) := by rw [List.getElem?_map, hn]; rfl
      refine at_int tyI (by kernel_rfl) (C.up hb8) rfl (by have := C.int; simp at this; omega) fun y hy => ?_
      obtain rfl : (n : Int) = y := by rw [hn'] at hy; cases hy; rfl
      refine br_dec (fun e1 => ?_) (fun e1 => ?_)
      · refine drw_mk fun w20 h20 _ => ?_
        replace hb8 := hb8.trans h20; replace X1 := X1.up h20; replace X3 := X3.up h20; replace OV := Own.kept OV h20; replace OC := Own.kept OC h20
        have s20 := h20.size
        refine rd_box (by kernel_rfl) X3 (i := 4) rfl rfl ?_
        refine at_int tyI (by kernel_rfl) (C.up hb8) rfl (by have := C.int; simp at this; omega) fun y hy => ?_
        obtain rfl : (n : Int) = y := by rw [hn'] at hy; cases hy; rfl
        refine z_i64 (by dsimp only; omega) ?_
        refine wu_boxi X3 (i := 4) (by kernel_rfl) (by simp) rfl fun w25 X3' g25 s25 => ?_
        have kv : some x3.block ≠ blk v.1 := fun q => by have := (hvlt _ q.symm).1; omega
        have kc : some x3.block ≠ blk c.1 := fun q => by have := (hclt _ q.symm).1; omega
        refine hK () _ ⟨hb8.grownAt g25 (by omega), by omega, X1.grown g25 (by intro q; injection q; omega), v, c, vs, cs, o + n, ?_, OV.keptBy g25 (.inr fun q => kv q.symm), OC.keptBy g25 (.inr fun q => kc q.symm), FI.skip hn⟩
        have : (((o + n : Nat) : Int)) = (o : Int) + (n : Int) := by omega
        rw [this]; exact X3'
      · refine drw_mk fun w26 h26 _ => ?_
        replace hb8 := hb8.trans h26; replace X1 := X1.up h26; replace X3 := X3.up h26; replace OV := Own.kept OV h26; replace OC := Own.kept OC h26; replace X15 := X15.up h26
        have s26 := h26.size
        let S : Nat → Prop := fun k => blk v.1 = some k ∨ blk c.1 = some k
        have hS : ∀ k, S k → w5.heap.size ≤ k ∧ k < w8.heap.size := fun k hk => hk.elim (hvlt k) (hclt k)
        have noS : ∀ k, k < w5.heap.size ∨ w8.heap.size ≤ k → ¬ S k := fun k hk q => by have := hS k q; omega
        refine flExC_mk (Xb S) (fun j w' w'' => w'.grownBy w'' (if j = 4 then blk v.1 else if j = 12 then blk c.1 else none))
          (fun D w' => (D 4 = false → Own w' w5.heap.size 55 3 v.1 v.2.1 v.2.2 (vs.flatMap encV)) ∧ (D 12 = false → Own w' w5.heap.size 3 1 c.1 c.2.1 c.2.2 (nints cs)))
          (fun j _ u w' => (j = 3 → ∃ ad, u = .slice (some ad) 1 1 ∧ w26.heap.size ≤ ad.block ∧ Sl w' (some ad) 1 1 3 (encV p)) ∧
            (j = 11 → ∃ ad, u = .slice (some ad) 1 1 ∧ w26.heap.size ≤ ad.block ∧ Sl w' (some ad) 1 1 1 [.int .i64 (n : Int)]) ∧
            (j = 4 → ∃ a' c', u = .slice a' (v.2.1 + 1) c' ∧ Own w' w5.heap.size 55 3 a' (v.2.1 + 1) c' ((vs ++ [p]).flatMap encV) ∧ (blk a' = blk v.1 ∨ ∀ b, blk a' = some b → w26.heap.size ≤ b)) ∧
            (j = 12 → ∃ a' c', u = .slice a' (c.2.1 + 1) c' ∧ Own w' w5.heap.size 3 1 a' (c.2.1 + 1) c' (nints (cs ++ [n])) ∧ (blk a' = blk c.1 ∨ ∀ b, blk a' = some b → w26.heap.size ≤ b)))
          (Xb.refl S) (fun _ _ _ => Xb.trans) (fun j j' ags u w' w'' hne hΦ hE hG => ⟨fun e => ?_, fun e => ?_, fun e => ?_, fun e => ?_⟩) ⟨fun _ => OV, fun _ => OC⟩ ?_
        · obtain ⟨ad, q1, q2, q3⟩ := hΦ.1 e
          exact ⟨ad, q1, q2, q3.xb hE fun ad' ha _ => by cases ha; exact noS _ (.inr (by omega))⟩
        · obtain ⟨ad, q1, q2, q3⟩ := hΦ.2.1 e
          exact ⟨ad, q1, q2, q3.xb hE fun ad' ha _ => by cases ha; exact noS _ (.inr (by omega))⟩
        · obtain ⟨a', c', q1, q2, q3⟩ := hΦ.2.2.1 e
          refine ⟨a', c', q1, q2.keptBy hG ?_, q3⟩
          cases hq : blk a' with
          | none => exact .inl rfl
          | some k =>
            refine .inr fun q => ?_
            rw [if_neg (fun h => hne (e.trans h.symm))] at q
            by_cases h12 : j' = 12
            · rw [if_pos h12] at q
              rcases q3 with q3 | q3
              · exact Own.apart OV OC (by decide) k (by rw [← q3, hq]) q.symm
              · have := q3 k hq; have := (hclt k q.symm).2; omega
            · rw [if_neg h12] at q; cases q
        · obtain ⟨a', c', q1, q2, q3⟩ := hΦ.2.2.2 e
          refine ⟨a', c', q1, q2.keptBy hG ?_, q3⟩
          cases hq : blk a' with
          | none => exact .inl rfl
          | some k =>
            refine .inr fun q => ?_
            by_cases h4 : j' = 4
            · rw [if_pos h4] at q
              rcases q3 with q3 | q3
              · exact Own.apart OV OC (by decide) k q.symm (by rw [← q3, hq])
              · have := q3 k hq; have := (hvlt k q.symm).2; omega
            · rw [if_neg h4, if_neg (fun h => hne (e.trans h.symm))] at q; cases q
        have hx3S : ¬ S x3.block := noS _ (.inl hl3)
        have hx15S : ¬ S x15.block := noS _ (.inr (by omega))
        refine rdE_box (by kernel_rfl) (fun w' hE => X3.xb hE.1 hx3S) (i := 2) rfl rfl ?_
        refine rdE_boxN (fun w' hE => X15.xb hE.1 hx15S) (by kernel_rfl) rfl ?_
        refine flcC_mk (fun D w33 hD hE hSt _ => ?_) (fun x38 => ?_)
        · refine wr_lit tyV (encV p).toArray (fill_one 3 (.agg (encV p).toArray) _ rfl (by simp)) (by omega) (by omega) rfl (by unfold maxLen; omega) fun ad w37 O' h37 hbk _ => ?_
          refine ⟨Xb.of (grown_of_bel h37 none) (fun k hk => by cases hk), grown_of_bel h37 _, ⟨fun hd => Own.kept (hSt.1 ?_) h37, fun hd => Own.kept (hSt.2 ?_) h37⟩, ⟨fun _ => ⟨ad, rfl, by have := hE.size; omega, (O' _ (Nat.le_refl _)).sl⟩, (fun e => by omega), (fun e => by omega), fun e => by omega⟩⟩
          · rw [setD_ne (by decide)] at hd; exact hd
          · rw [setD_ne (by decide)] at hd; exact hd
        refine flcC_mk (fun D w39 hD hE hSt f => ?_) (fun x44 => ?_)
        · obtain ⟨ad, q1, q2, q3⟩ := f.1.1 rfl
          rw [sl_eq q1]
          have O' := hSt.1 hD
          refine wr_app tyV O' q3 (by have := hE.size; omega) rfl (by omega) rfl (by omega) (by unfold maxLen; omega) fun a' c' w43 O43 g43 hnew _ => ?_
          refine ⟨Xb.of g43 (fun k hk => .inl hk), by show World.grownBy w39 w43 (if (4 : Nat) = 4 then blk v.1 else if (4 : Nat) = 12 then blk c.1 else none); rw [if_pos rfl]; exact g43, ⟨(fun hd => by rw [setD_self] at hd; cases hd), fun hd => ?_⟩, ⟨(fun e => by omega), (fun e => by omega), fun _ => ⟨a', c', rfl, ?_, ?_⟩, fun e => by omega⟩⟩
          · rw [setD_ne (by decide)] at hd
            exact keptO (hSt.2 hd) O' (by decide) g43
          · rw [List.flatMap_append]
            simp only [List.flatMap_cons, List.flatMap_nil, List.append_nil]
            exact O43
          · rcases hnew with h | h
            · exact .inl h
            · exact .inr fun b hb => by have := h b hb; have := hE.size; omega
        refine rdE_box (by kernel_rfl) (fun w' hE => X3.xb hE.1 hx3S) (i := 3) rfl rfl ?_
        have hCS : ∀ w', Xb S w26 w' → Sl w' ch.1 ch.2.1 ch.2.2 1 (nints cnts) := fun w' hE => C.up (Xb.bel hb8 hE fun k hk => by have := (hS k hk).1; omega)
        refine atE_int tyI (by kernel_rfl) (C.up hb8) (fun w' hE => hCS w' hE.1) rfl hn' ?_
        refine flcC_mk (fun D w48 hD hE hSt _ => ?_) (fun x53 => ?_)
        · refine wr_lit tyI #[.int .i64 (n : Int)] (fill_one 1 (.int .i64 (n : Int)) _ rfl (by simp)) (by omega) (by omega) rfl (by unfold maxLen; omega) fun ad w52 O' h52 hbk _ => ?_
          refine ⟨Xb.of (grown_of_bel h52 none) (fun k hk => by cases hk), grown_of_bel h52 _, ⟨fun hd => Own.kept (hSt.1 ?_) h52, fun hd => Own.kept (hSt.2 ?_) h52⟩, ⟨(fun e => by omega), fun _ => ⟨ad, rfl, by have := hE.size; omega, (O' _ (Nat.le_refl _)).sl⟩, (fun e => by omega), fun e => by omega⟩⟩
          · rw [setD_ne (by decide)] at hd; exact hd
          · rw [setD_ne (by decide)] at hd; exact hd
        refine flcC_mk (fun D w54 hD hE hSt f => ?_) (fun x59 => ?_)
        · obtain ⟨ad, q1, q2, q3⟩ := f.1.2.1 rfl
          rw [sl_eq q1]
          have O' := hSt.2 hD
          refine wr_app tyI O' q3 (by have := hE.size; omega) rfl (by omega) rfl (by omega) (by unfold maxLen; omega) fun a' c' w58 O58 g58 hnew _ => ?_
          refine ⟨Xb.of g58 (fun k hk => .inr hk), by show World.grownBy w54 w58 (if (12 : Nat) = 4 then blk v.1 else if (12 : Nat) = 12 then blk c.1 else none); rw [if_neg (by decide), if_pos rfl]; exact g58, ⟨fun hd => ?_, (fun hd => by rw [setD_self] at hd; cases hd)⟩, ⟨(fun e => by omega), (fun e => by omega), (fun e => by omega), fun _ => ⟨a', c', rfl, ?_, ?_⟩⟩⟩
          · rw [setD_ne (by decide)] at hd
            exact keptO (hSt.1 hd) O' (by decide) g58
          · rw [nints, List.map_append, ints, List.map_append]
            exact O58
          · rcases hnew with h | h
            · exact .inl h
            · exact .inr fun b hb => by have := h b hb; have := hE.size; omega
        refine flendC_mk fun w60 hE _ f => ?_
        obtain ⟨a2, c2, e2, OC', _⟩ := f.1.2.2.2 rfl
        obtain ⟨a1, c1, e1', OV', _⟩ := f.2.2.1.2.2.1 rfl
        rw [sl_eq e2, sl_eq e1']
        have hb60 := Xb.bel hb8 hE fun k hk => by have := (hS k hk).1; omega
        have s60 := hE.size
        have X60 := X3.xb hE hx3S
        have Y60 := X1.xb hE (noS _ (.inl (by omega)))
        refine wu_boxi X60 (i := 2) (by kernel_rfl) (by simp) rfl fun w62 X62 g62 s62 => ?_
        have kv : ∀ {a : Option Addr} {m q : Nat} {e : TypeId} {sz : Nat} {xs : List Value} {w' : World}, Own w' w5.heap.size e sz a m q xs → blk a ≠ some x3.block := fun O q => by have := (O.lt _ q).1; omega
        have OV62 := OV'.keptBy g62 (.inr (kv OV'))
        have OC62 := OC'.keptBy g62 (.inr (kv OC'))
        refine wu_boxi X62 (i := 3) (by kernel_rfl) (by simp) rfl fun w63 X63 g63 s63 => ?_
        have hne1 : some x1.block ≠ some x3.block := by intro q; injection q; omega
        refine hK () _ ⟨(hb60.grownAt g62 (by omega)).grownAt g63 (by omega), by omega, (Y60.grown g62 hne1).grown g63 hne1, (a1, v.2.1 + 1, c1), (a2, c.2.1 + 1, c2), vs ++ [p], cs ++ [n], o, X63, OV62.keptBy g63 (.inr (kv OV62)), OC62.keptBy g63 (.inr (kv OC62)), FI.add hp hn (by omega)⟩
    · rintro _ w11 H _
      refine z_i64 (by omega) ?_
      exact hag _ hi' H
  · dsimp only at e
    have hiv : i = vals.length := by omega
    refine rd_boxN X3 (by kernel_rfl) rfl ?_
    refine wu_box X1 (v := .agg (encCH (nulls, (none, 0, 0), v, c, o, ())).toArray) (by kernel_rfl) (Nat.le_refl 5) rfl fun w65 Y65 g65 s65 => ?_
    replace Y65 : Box w65 x1 (encCH (nulls, (none, 0, 0), v, c, o, ())) := Y65
    refine rd_boxV Y65 (by kernel_rfl) rfl ?_
    have kx : ∀ {a : Option Addr} {m q : Nat} {e : TypeId} {sz : Nat} {xs : List Value} {w' : World}, Own w' w5.heap.size e sz a m q xs → blk a ≠ some x1.block := fun O q => by have := (O.lt _ q).1; omega
    refine ⟨((nulls : Int), (none, 0, 0), v, c, (o : Int), ()), rfl, hb8.grownAt g65 (by omega), ⟨fun ad ha => ?_, fun ad ha => ?_⟩, ⟨nulls, vs, cs, o⟩, ⟨rfl, rfl, Own.st (OV.keptBy g65 (.inr (kx OV))), Own.st (OC.keptBy g65 (.inr (kx OC))), rfl⟩, rfl, by rw [← hiv]; exact FI⟩
    · have := (OV.lt ad.block (by dsimp only at ha; rw [ha]; rfl)).1; omega
    · have := (OC.lt ad.block (by dsimp only at ha; rw [ha]; rfl)).1; omega
end Go.Proofs.YtcfghfmlfgaeaaaGreatDoor

/- Package privacy: Statistics (plain facts of the columns). -/

namespace Go.Proofs.YtcfghfmlfgaeaaaGreatDoor
open Go.RowKit Go.Q Go.V Go.Bag

/-! ### plain facts -/
theorem fcol_mem {c : Nat} {Rs : Rows} {v : V3} (h : v ∈ fcol c Rs) : ∃ r ∈ Rs, r[c]? = some v ∧ v.1 ≠ 0 := by
  unfold fcol at h
  obtain ⟨h1, h2⟩ := List.mem_filter.1 h
  obtain ⟨r, hr, h3⟩ := List.mem_filterMap.1 h1
  exact ⟨r, hr, h3, by simpa using h2⟩
theorem fcol_all {c : Nat} : ∀ {Rs : Rows}, (∀ r ∈ Rs, ∃ v, r[c]? = some v ∧ v.1 ≠ 0) → (fcol c Rs).length = Rs.length
  | [], _ => rfl
  | r :: Rs, h => by
    obtain ⟨v, h1, h2⟩ := h r (List.mem_cons_self ..)
    have ih := fcol_all (c := c) (Rs := Rs) fun r hr => h r (List.mem_cons_of_mem _ hr)
    unfold fcol at ih ⊢
    rw [List.filterMap_cons, h1, List.filter_cons, if_pos (by simpa using h2)]
    simp only [List.length_cons, ih]
theorem cnt_mem {v : V3} {L : List V3} (h : 1 ≤ cntV v L) : v ∈ L := by
  unfold cntV at h
  obtain ⟨x, hx, e⟩ := List.countP_pos_iff.1 (Nat.lt_of_lt_of_le Nat.zero_lt_one h)
  have : x = v := by simpa using e
  exact this ▸ hx
structure StOk (p : Int × Bool) (Rs : Rows) (c : Nat) (th : Int) (s : St) : Prop where
  len : s.cnts.length = s.vals.length
  pos : ∀ n ∈ s.cnts, 1 ≤ n
  sum : s.nulls + s.other + s.cnts.sum = Rs.length
  nul : 0 < s.nulls → p.2 = true
  val : ∀ v ∈ s.vals, ValOk p v ∧ v.1 = p.1
  occ : ∀ v ∈ s.vals, th ≤ (cntV v (fcol c Rs) : Int)
theorem stOk_of {t : TPar} {i k : Nat} (ok : t.Ok i) {p : Int × Bool} (hp : t.free[k]? = some p) {I : List Rows} {Rs : Rows} (hR : ∀ (n : Nat) r, Rs[n]? = some r → RowOk I t n r) {th : Int} (hth : 1 ≤ th) {vals : List V3} {cnts : List Nat}
    (h1 : cnts.length = vals.length) (h2 : cnts.sum = (fcol (1 + k) Rs).length) (h3 : ∀ (j : Nat) v n, vals[j]? = some v → cnts[j]? = some n → 1 ≤ n ∧ n ≤ cntV v (fcol (1 + k) Rs))
    {s : St} (hs : s.nulls = Rs.length - (fcol (1 + k) Rs).length) (F : FInv th vals cnts vals.length s.vals s.cnts s.other) : StOk p Rs (1 + k) th s := by
  have hk := (List.getElem?_eq_some_iff.1 hp).1
  have hlen := fcol_len (1 + k) Rs
  have hcell : ∀ r ∈ Rs, ∃ v, r[1 + k]? = some v ∧ ValOk p v := fun r hr => by
    obtain ⟨n, hn⟩ := List.getElem?_of_mem hr
    have R := hR n r hn
    have hrl := R.len
    obtain ⟨v, hv⟩ : ∃ v, r[1 + k]? = some v := ⟨_, List.getElem?_eq_getElem (by rw [hrl]; show 1 + k < 1 + t.free.length + t.tos.length; omega)⟩
    exact ⟨v, hv, R.free k p v hp hv⟩
  have hex : ∀ v ∈ s.vals, 1 ≤ cntV v (fcol (1 + k) Rs) ∧ th ≤ (cntV v (fcol (1 + k) Rs) : Int) := fun v hv => by
    obtain ⟨j, hj⟩ := List.getElem?_of_mem hv
    have hjl := (List.getElem?_eq_some_iff.1 hj).1
    obtain ⟨n, hn⟩ : ∃ n, s.cnts[j]? = some n := ⟨_, List.getElem?_eq_getElem (by rw [F.len]; exact hjl)⟩
    obtain ⟨q1, m, q2, q3⟩ := F.each j v n hj hn
    have := h3 m v n q2 q3
    exact ⟨by omega, by omega⟩
  refine ⟨F.len, fun n hn => ?_, ?_, fun h0 => ?_, fun v hv => ?_, fun v hv => (hex v hv).2⟩
  · obtain ⟨j, hj⟩ := List.getElem?_of_mem hn
    have hjl := (List.getElem?_eq_some_iff.1 hj).1
    obtain ⟨v, hv⟩ : ∃ v, s.vals[j]? = some v := ⟨_, List.getElem?_eq_getElem (by rw [← F.len]; exact hjl)⟩
    have := (F.each j v n hv hj).1
    omega
  · have := F.sum
    rw [← h1, List.take_length, h2] at this
    omega
  · cases hq : p.2 with
    | true => rfl
    | false =>
      have : (fcol (1 + k) Rs).length = Rs.length := fcol_all fun r hr => by
        obtain ⟨v, hv, V⟩ := hcell r hr
        refine ⟨v, hv, ?_⟩
        rcases V.typ with q | q
        · rw [hq] at q; exact absurd q.2 (by decide)
        · have := (ok.ty p (List.mem_of_getElem? hp)).1
          omega
      omega
  · obtain ⟨r, hr, hv', hne⟩ := fcol_mem (cnt_mem (hex v hv).1)
    obtain ⟨u, hu, V⟩ := hcell r hr
    rw [hu] at hv'; cases hv'
    refine ⟨V, ?_⟩
    rcases V.typ with q | q
    · exact absurd q.1 hne
    · exact q
/-! ### memory -/
abbrev XH := Int × Hdr × Unit
abbrev encX (x : XH) : List Value := [.int .i64 x.1, .slice x.2.1.1 x.2.1.2.1 x.2.1.2.2]
theorem encX_len (x : XH) : (encX x).length = 2 := rfl
theorem encCH_len (x : CH) : (encCH x).length = 5 := rfl
theorem tyCH : TyS Tryz.prog 77 82 (.agg #[.int .i64 0, .slice none 0 0, .slice none 0 0, .slice none 0 0, .int .i64 0]) 5 88 := ⟨by kernel_rfl, by kernel_rfl⟩
theorem tyXH : TyS Tryz.prog 43 79 (.agg #[.int .i64 0, .slice none 0 0]) 2 32 := ⟨by kernel_rfl, by kernel_rfl⟩
def ColsSt (w : World) (h : Hdr) (ss : List St) : Prop := ∃ L : List CH, ST w 82 h.1 h.2.1 h.2.2 5 (L.flatMap encCH) ∧ L.length = ss.length ∧ ∀ (k : Nat) c s, L[k]? = some c → ss[k]? = some s → CsAt w c s
theorem ColsSt.up {w w' : World} {h : Hdr} {ss : List St} (H : ColsSt w h ss) (hb : bel w w') : ColsSt w' h ss := by
  obtain ⟨L, h1, h2, h3⟩ := H
  exact ⟨L, h1.up hb, h2, fun k c s q1 q2 => (h3 k c s q1 q2).up hb⟩
def StAt (w : World) (l : Hdr) (Q : List (Nat × List St)) : Prop := ∃ L : List XH, Sl w l.1 l.2.1 l.2.2 2 (L.flatMap encX) ∧ L.length = Q.length ∧ ∀ (k : Nat) x q, L[k]? = some x → Q[k]? = some q → x.1 = (q.1 : Int) ∧ ColsSt w x.2.1 q.2
theorem StAt.up {w w' : World} {l : Hdr} {Q : List (Nat × List St)} (H : StAt w l Q) (hb : bel w w') : StAt w' l Q := by
  obtain ⟨L, h1, h2, h3⟩ := H
  exact ⟨L, h1.up hb, h2, fun k c s q1 q2 => ⟨(h3 k c s q1 q2).1, (h3 k c s q1 q2).2.up hb⟩⟩
theorem CsAt.apart {w w' : World} {c : CH} {s : St} {e' : TypeId} {sz' B : Nat} {a' : Option Addr} {n' c' : Nat} {ys : List Value} (H : CsAt w c s) (O : Own w B e' sz' a' n' c' ys) (h1 : 55 ≠ e') (h2 : 3 ≠ e') (hg : w.grownBy w' (blk a')) : CsAt w' c s :=
  ⟨H.nulls, H.bins, H.vals.apart O h1 hg, H.cnts.apart O h2 hg, H.other⟩
theorem ColsSt.apart {w w' : World} {h : Hdr} {ss : List St} {e' : TypeId} {sz' B : Nat} {a' : Option Addr} {n' c' : Nat} {ys : List Value} (H : ColsSt w h ss) (O : Own w B e' sz' a' n' c' ys) (h1 : 55 ≠ e') (h2 : 3 ≠ e') (h3 : 82 ≠ e') (hg : w.grownBy w' (blk a')) : ColsSt w' h ss := by
  obtain ⟨L, q1, q2, q3⟩ := H
  exact ⟨L, q1.apart O h3 hg, q2, fun k c s a b => (q3 k c s a b).apart O h1 h2 hg⟩
structure QOk (D : List TPar) (I : List Rows) (th : Int) (Q : List (Nat × List St)) : Prop where
  len : Q.length = D.length
  at_ : ∀ (i : Nat) t Rs q, D[i]? = some t → I[i]? = some Rs → Q[i]? = some q → q.1 = Rs.length ∧ q.2.length = t.nc ∧ ∀ (k : Nat) p s, t.free[k]? = some p → q.2[1 + k]? = some s → StOk p Rs (1 + k) th s
end Go.Proofs.YtcfghfmlfgaeaaaGreatDoor

/- Package privacy: Statistics. -/

namespace Go.Proofs.YtcfghfmlfgaeaaaGreatDoor
open Go.RowKit Go.Q Go.V Go.Bag

abbrev zCH : CH := (0, (none, 0, 0), (none, 0, 0), (none, 0, 0), 0, ())
def zSt : St := ⟨0, [], [], 0⟩
theorem zCs (w : World) : CsAt w zCH zSt := ⟨rfl, rfl, Own.st (Own.nil w 0 55 3), Own.st (Own.nil w 0 3 1), rfl⟩
theorem zNew (B : Nat) : CsNew B zCH := ⟨(fun _ h => by cases h), (fun _ h => by cases h)⟩
theorem CsAt.keepB {w w' : World} {c : CH} {s : St} {B b : Nat} (H : CsAt w c s) (N : CsNew B c) (hb : b < B) (hg : w.grownBy w' (some b)) : CsAt w' c s :=
  ⟨H.nulls, H.bins, H.vals.keep hg fun ad ha q => by have := N.vals ad ha; injection q; omega, H.cnts.keep hg fun ad ha q => by have := N.cnts ad ha; injection q; omega, H.other⟩
theorem callV_of {P : Program} {g : Nat} {args : Array Value} {args' : List Value} {r : RS} {w : World} {k : r.T → World → Prop} {fn : Func} (hf : P.funcs[g]? = some fn) (hp : plainF fn = true) (ha : args.toList = args') (hc : call P g args' r w k) : callV P none (.func (.func g) #[] #[]) args r w k := by
  have e : ((#[] : Array Value) ++ args ++ #[]).toList = args' := by simpa using ha
  unfold callV callY
  dsimp only
  exact callX_of hf hp e hc
theorem plainFreq : plainF Tryz.f24 = true := by kernel_rfl
set_option maxRecDepth 100000 in
theorem callFreq {args : Array Value} {args' : List Value} {r : RS} {w : World} {k : r.T → World → Prop} (ha : args.toList = args') (hc : call Tryz.prog 24 args' r w k) : callV Tryz.prog none (.func (.func 24) #[] #[]) args r w k :=
  callV_of Tryz.func24 plainFreq ha hc
set_option maxRecDepth 100000 in
set_option maxHeartbeats 4000000 in
theorem statisticsP {w : World} {h g p : Hdr} {D : List TPar} {I : List Rows} (H : SchAt w h D) (hD : OkD D) (hm : ML w) (G : InsAt w g I) (oI : OkI D I) (P : ProtAt w p D) {th : Int} (hth : 1 ≤ th) :
    call Tryz.prog 8 [.agg #[.slice h.1 h.2.1 h.2.2], .agg #[.slice g.1 g.2.1 g.2.2], .slice p.1 p.2.1 p.2.2, .int .i64 th] (.many [.one .slice, .one (.int .i64)]) w
      (fun (x : Hdr × Int × Unit) w' => bel w w' ∧ x.2.1 = 0 ∧ ∃ Q, StAt w' x.1 Q ∧ QOk D I th Q) := by
  have hl := H.len
  have hd2 := hD.d2
  have hgl := G.len
  have hil := oI.len
  refine call_of (S8_calls h.1 h.2.1 h.2.2 g.1 g.2.1 g.2.2 p.1 p.2.1 p.2.2 th w _ ?_)
  unfold S8
  refine wr_box fun x1 w2 X1 h2 _ _ => ?_
  refine wr_box fun x3 w4 X3 h4 _ _ => ?_
  replace X1 : Box w4 x1 [.slice h.1 h.2.1 h.2.2] := Box.up (show Box w2 x1 [.slice h.1 h.2.1 h.2.2] from X1) h4
  replace X3 : Box w4 x3 [.slice g.1 g.2.1 g.2.2] := X3
  have hb4 := h2.trans h4
  refine rd_boxN X1 (by kernel_rfl) rfl ?_
  refine rd_boxN X3 (by kernel_rfl) rfl ?_
  refine call_mono (fitsP (H.up hb4) hD (hm.up hb4) (G.up hb4) oI (P.up hb4) hth) ?_
  rintro r w8 ⟨rfl, h8⟩
  replace X1 := X1.up h8; replace X3 := X3.up h8
  have hb8 := hb4.trans h8
  have H8 := H.up hb8
  have G8 := G.up hb8
  have P8 := P.up hb8
  refine br_f rfl ?_
  refine rd_box0 (by kernel_rfl) X1 rfl rfl ?_
  refine loop_upA D.length (fun i (s : Hdr) w' => bel w8 w' ∧ ∃ (LX : List XH) (Q : List (Nat × List St)), Own w' w8.heap.size 79 2 s.1 s.2.1 s.2.2 (LX.flatMap encX) ∧ LX.length = i ∧ Q.length = i ∧
      (∀ (k : Nat) x q, LX[k]? = some x → Q[k]? = some q → x.1 = (q.1 : Int) ∧ ColsSt w' x.2.1 q.2) ∧
      (∀ (k : Nat) t Rs q, D[k]? = some t → I[k]? = some Rs → Q[k]? = some q → q.1 = Rs.length ∧ q.2.length = t.nc ∧ ∀ (j : Nat) p s, t.free[j]? = some p → q.2[1 + j]? = some s → StOk p Rs (1 + j) th s))
    ⟨bel.refl _, [], [], Own.nil _ _ _ _, rfl, rfl, fun k x q e => by simp at e, fun k t Rs q _ _ e => by simp at e⟩ fun i s w12 hi ⟨hb, LX, Q, O, hLX, hQ, hC, hF⟩ again hag _ => ?_
  have hsl : s.2.1 = i := by have := O.1; rw [flat_len encX_len] at this; omega
  refine br_dec (fun e => ?_) (fun e => ?_)
  · dsimp only at e
    have hi' : i < D.length := by omega
    refine H8.atB hb rfl hi' fun x t ht T => ?_
    have ok := hD.each i t ht
    have hnc := T.nc
    have hle := nc_le ok
    refine var_mk (z := .agg zTb.toArray) (v := tbv x) (by kernel_rfl) (by kernel_rfl) rfl rfl fun x15 w17 X15 h17 _ => ?_
    replace X15 : Box w17 x15 (tbc x) := X15
    have hb17 := hb.trans h17
    refine rd_box0 (by kernel_rfl) (X3.up hb17) rfl rfl ?_
    refine G8.atB hb17 rfl (by omega) fun y Rs hRs YR => ?_
    have h20 := okI_few oI hRs
    have hyl := YR.len
    have hR : ∀ (n : Nat) r, Rs[n]? = some r → RowOk I t n r := fun n r hr => oI.row i t Rs n r ht hRs hr
    have hrc : ∀ r ∈ Rs, r.length = t.nc := fun r hr => by obtain ⟨n, hn⟩ := List.getElem?_of_mem hr; exact (hR n r hn).len
    refine var_mk (z := .agg #[.int .i64 0, .slice none 0 0]) (v := .agg (encX (((y.2.1 : Nat) : Int), (none, 0, 0), ())).toArray) (by kernel_rfl) (by kernel_rfl) rfl rfl fun x21 w23 X21 h23 hx21 => ?_
    replace X21 : Box w23 x21 (encX (((y.2.1 : Nat) : Int), (none, 0, 0), ())) := X21
    have hb23 := hb17.trans h23
    refine rd_box (by kernel_rfl) (X15.up h23) (i := 1) rfl rfl ?_
    have hx21l := X21.lt
    refine loop_up t.nc (fun c w' => bel w17 w' ∧ w23.heap.size ≤ w'.heap.size ∧ ∃ (ch : Hdr) (LC : List CH) (ss : List St), Box w' x21 (encX (((y.2.1 : Nat) : Int), ch, ())) ∧ Own w' w23.heap.size 82 5 ch.1 ch.2.1 ch.2.2 (LC.flatMap encCH) ∧ LC.length = c ∧ ss.length = c ∧
        (∀ (k : Nat) c s, LC[k]? = some c → ss[k]? = some s → CsAt w' c s ∧ CsNew w23.heap.size c) ∧ ∀ (j : Nat) p s, t.free[j]? = some p → ss[1 + j]? = some s → StOk p Rs (1 + j) th s)
      ⟨h23, Nat.le_refl _, (none, 0, 0), [], [], X21, Own.nil _ _ _ _, rfl, rfl, fun k c s e => by simp at e, fun j p s _ e => by simp at e⟩ fun c w27 hc ⟨hb27, hz27, ch, LC, ss, X21, OC, hLC, hss, hCC, hSS⟩ again2 hag2 _ => ?_
    have hcl : ch.2.1 = c := by have := OC.1; rw [flat_len encCH_len] at this; omega
    refine br_dec (fun e => ?_) (fun e => ?_)
    · dsimp only at e
      have hc' : c < t.nc := by omega
      refine join_mk (fun _ w' => bel w17 w' ∧ w23.heap.size ≤ w'.heap.size ∧ ∃ (ch : Hdr) (LC : List CH) (ss : List St), Box w' x21 (encX (((y.2.1 : Nat) : Int), ch, ())) ∧ Own w' w23.heap.size 82 5 ch.1 ch.2.1 ch.2.2 (LC.flatMap encCH) ∧ LC.length = c + 1 ∧ ss.length = c + 1 ∧
        (∀ (k : Nat) c s, LC[k]? = some c → ss[k]? = some s → CsAt w' c s ∧ CsNew w23.heap.size c) ∧ ∀ (j : Nat) p s, t.free[j]? = some p → ss[1 + j]? = some s → StOk p Rs (1 + j) th s) (fun K hK => ?_) ?_
      · obtain ⟨col, hcol⟩ : ∃ col, t.cols[c]? = some col := ⟨_, List.getElem?_eq_getElem (by rw [cols_len]; omega)⟩
        have hbt := hb17.trans hb27
        refine ColsAt.at ((T.cols.up hbt)) rfl hcol ?_
        refine var_mk (z := .agg #[.string ByteArray.empty, .int .i64 0, .bool false]) (v := .agg (encC col).toArray) (by kernel_rfl) (by kernel_rfl) rfl rfl fun x34 w36 X34 h36 _ => ?_
        replace X34 : Box w36 x34 (encC col) := X34
        refine rd_boxN ((X15.up hb27).up h36) (by kernel_rfl) rfl ?_
        refine call_mono (freeP ((T.up hbt).up h36) ok hc') ?_
        rintro b w39 ⟨rfl, h39⟩
        have h2739 := h36.trans h39
        have hb39 := hb27.trans h2739
        have hz39 : w23.heap.size ≤ w39.heap.size := Nat.le_trans hz27 h2739.size
        -- one more column
        have add : ∀ (w1 w2 : World) (ch' : CH) (s' : St) {ty : TypeId} {ad : Addr}, bel w39 w1 → bel w1 w2 → Sl w2 (some ad) 1 1 5 (encCH ch') → CsAt w2 ch' s' → CsNew w23.heap.size ch' → (∀ k p, t.free[k]? = some p → c = 1 + k → StOk p Rs (1 + k) th s') →
            wr Tryz.prog (Builtin.append_ #[77, 77] ty #[.slice ch.1 ch.2.1 ch.2.2, .slice (some ad) 1 1]) (.one .slice) w2 fun (x43 : Hdr) w44 => wu Tryz.prog (Instr.storeAt 77 (.pointer (some (x21.add 1))) (.slice x43.1 x43.2.1 x43.2.2)) w44 fun w45 => K () w45 := by
          intro w1 w2 ch' s' ty ad k1 k2 hS hCs hNew hOk
          have hbw := h2739.trans (k1.trans k2)
          have OC2 := Own.kept OC hbw
          have hz2 : w23.heap.size ≤ w2.heap.size := Nat.le_trans hz27 hbw.size
          refine wr_app tyCH OC2 hS hz2 rfl (by omega) rfl (by omega) (by unfold maxLen; omega) fun a' c' w44 O44 g44 _ s44 => ?_
          have hb44 := bel.own (hb27.trans hbw) OC2 g44 (by have := h23.size; omega)
          have hnb : some x21.block ≠ blk ch.1 := fun q => by have := (OC2.lt _ q.symm).1; omega
          have X44 := (X21.up hbw).grown g44 hnb
          refine wu_boxi X44 (i := 1) (by kernel_rfl) (by simp) rfl fun w45 X45 g45 s45 => ?_
          have hblk : blk a' ≠ some x21.block := fun q => by have := (O44.lt _ q).1; omega
          have hCk : ∀ {u : CH} {v : St}, CsAt w2 u v → CsNew w23.heap.size u → CsAt w45 u v := fun {u v} q q' => (q.apart OC2 (by decide) (by decide) g44).keepB q' hx21l g45
          refine hK () _ ⟨hb44.grownAt g45 (by have := h23.size; omega), by omega, (a', ch.2.1 + 1, c'), LC ++ [ch'], ss ++ [s'], X45, ?_, by simp [hLC], by simp [hss], fun k u v q1 q2 => ?_, fun k p' v q1 q2 => ?_⟩
          · rw [List.flatMap_append]
            simp only [List.flatMap_cons, List.flatMap_nil, List.append_nil]
            exact O44.keptBy g45 (.inr hblk)
          · rcases Nat.lt_or_ge k c with q | q
            · rw [List.getElem?_append_left (by omega)] at q1 q2
              have := hCC k u v q1 q2
              exact ⟨hCk (this.1.up hbw) this.2, this.2⟩
            · have hk : k = c := by have := (List.getElem?_eq_some_iff.1 q1).1; simp at this; omega
              subst hk
              rw [List.getElem?_append_right (by omega), hLC] at q1
              rw [List.getElem?_append_right (by omega), hss] at q2
              simp at q1 q2
              subst q1; subst q2
              exact ⟨hCk hCs hNew, hNew⟩
          · rcases Nat.lt_or_ge (1 + k) c with q | q
            · rw [List.getElem?_append_left (by omega)] at q2
              exact hSS k p' v q1 q2
            · have hk : 1 + k = c := by have := (List.getElem?_eq_some_iff.1 q2).1; simp at this; omega
              rw [List.getElem?_append_right (by omega), show 1 + k - ss.length = 0 by omega] at q2
              simp at q2
              subst q2
              exact hOk k p' q1 hk.symm
        refine br_mk (fun e1 => ?_) (fun e1 => ?_)
        · have hnf : isFree t c = false := by simpa using e1
          refine rd_box (by kernel_rfl) (X21.up h2739) (i := 1) rfl rfl ?_
          refine wr_lit tyCH (encCH zCH).toArray (fill_one 5 (.agg (encCH zCH).toArray) _ rfl (by simp)) (by omega) (by omega) rfl (by unfold maxLen; omega) fun ad w42 O' h42 hbk _ => ?_
          exact add w39 w42 zCH zSt (bel.refl _) h42 (O' _ (Nat.le_refl _)).sl (zCs _) (zNew _) fun k p' q1 q2 => by
            have hk := (List.getElem?_eq_some_iff.1 q1).1
            unfold isFree at hnf
            have := of_decide_eq_false hnf
            exact absurd ⟨by omega, by show c ≤ t.free.length; omega⟩ this
        · have hfr : isFree t c = true := by simpa using e1
          unfold isFree at hfr
          have hfr2 := of_decide_eq_true hfr
          obtain ⟨k, rfl⟩ : ∃ k, c = 1 + k := ⟨c - 1, by omega⟩
          obtain ⟨pc, hpc⟩ : ∃ p, t.free[k]? = some p := ⟨_, List.getElem?_eq_getElem (by have : t.nf = t.free.length := rfl; omega)⟩
          have hb3 := hb17.trans hb39
          refine join_mk (fun s' w' => s'.1 = .func (.func 24) #[] #[] ∧ bel w39 w') (fun K2 hK2 => ?_) ?_
          · refine rd_box (by kernel_rfl) (X34.up h39) (i := 1) rfl rfl ?_
            refine br_eq (fun _ => ?_) (fun _ => hK2 _ _ ⟨rfl, bel.refl _⟩)
            refine P8.atB hb3 rfl ht fun z Z => ?_
            refine call_mono (containsI z (frees t.nf) ((1 + k : Nat) : Int) w39 (Z.up hb3)) ?_
            rintro b w76 ⟨rfl, h76⟩
            refine br_f (by rw [decide_eq_true (frees_mem.2 hfr2)]; rfl) (hK2 _ _ ⟨rfl, h76⟩)
          · rintro ⟨fv, u⟩ w48 ⟨hfv, h48⟩ _
            dsimp only at hfv
            subst hfv
            have hb48 := hb3.trans h48
            refine rd_box0 (by kernel_rfl) (X3.up hb48) rfl rfl ?_
            refine G8.atB hb48 rfl (by omega) fun y' Rs' hRs' YR' => ?_
            obtain rfl : Rs = Rs' := by rw [hRs] at hRs'; cases hRs'; rfl
            refine call_mono (tallyP (YR'.up hb48) (c := 1 + k) (fun r hr => by rw [hrc r hr]; exact hc') h20) ?_
            rintro (x52 : Hdr × Hdr × Int × Unit) w53 ⟨vals, cnts, TR⟩
            have h53 := TR.bel
            refine drw_mk fun w54 h54 _ => ?_
            have hfl := fcol_len (1 + k) Rs
            have hsum := TR.sum
            have hvle : vals.length ≤ cnts.sum := by
              have : ∀ (l : List Nat), (∀ (k : Nat) n, l[k]? = some n → 1 ≤ n) → l.length ≤ l.sum := by
                intro l
                induction l with
                | nil => intro _; simp
                | cons a l ih =>
                  intro hk
                  have h0 := hk 0 a rfl
                  have := ih fun k n hn => hk (k + 1) n (by simpa using hn)
                  simp only [List.length_cons, List.sum_cons]; omega
              have h3 := this cnts fun k n hn => by
                have hlk := (List.getElem?_eq_some_iff.1 hn).1
                have hl' := TR.len
                exact (TR.le k (vals[k]'(by omega)) n (List.getElem?_eq_getElem (by omega)) hn).1
              rw [← TR.len]; exact h3
            have h3954 := (h48.trans h53).trans h54
            have hx : x52.2.2.1 = ((Rs.length - (fcol (1 + k) Rs).length : Nat) : Int) := by rw [TR.nul]; omega
            rw [hx]
            refine flEx_mk (fun i ags v w' => (i = 7 → ∃ (c : CH) (s : St), v = .agg (encCH c).toArray ∧ CsAt w' c s ∧ CsNew w54.heap.size c ∧ StOk pc Rs (1 + k) th s) ∧ (i = 8 → ∃ ad c, ags = [.agg (encCH c).toArray] ∧ v = .slice (some ad) 1 1 ∧ Sl w' (some ad) 1 1 5 (encCH c))) (fun i ags v w1 w2 q hb => ⟨fun e => ?_, fun e => ?_⟩) ?_
            · obtain ⟨c, s, a1, a2, a3⟩ := q.1 e
              exact ⟨c, s, a1, a2.up hb, a3⟩
            · obtain ⟨ad, c, a1, a2, a3⟩ := q.2 e
              exact ⟨ad, c, a1, a2, a3.up hb⟩
            refine rd_box (by kernel_rfl) (X21.up (h2739.trans h3954)) (i := 1) rfl rfl ?_
            refine flc_mk (fun w57 h57 _ => ?_) (fun x61 => ?_)
            · refine callFreq rfl ?_
              refine call_mono (frequentP (Sl.up (Sl.up TR.va h54) h57) ((TR.ca.up h54).up h57) TR.len (by omega) (by omega) (Rs.length - (fcol (1 + k) Rs).length) th) ?_
              rintro (c : CH) w60 ⟨h60, hN, s, hC, hn, FI⟩
              refine ⟨h60, fun _ => ⟨c, s, rfl, hC, ⟨fun ad ha => Nat.le_trans h57.size (hN.vals ad ha), fun ad ha => Nat.le_trans h57.size (hN.cnts ad ha)⟩, stOk_of ok hpc hR hth TR.len hsum TR.le hn FI⟩, fun e => by omega⟩
            refine flc_mk (fun w62 h62 _ => ?_) (fun x66 => ?_)
            · refine wr_lit tyCH (encCH x61).toArray (fill_one 5 (.agg (encCH x61).toArray) _ rfl (by simp)) (by omega) (by omega) rfl (by unfold maxLen; omega) fun ad w65 O' h65 hbk _ => ?_
              exact ⟨h65, (fun e => by omega), fun _ => ⟨ad, x61, rfl, rfl, (O' _ (Nat.le_refl _)).sl⟩⟩
            refine flend_mk fun w67 h67 f => ?_
            obtain ⟨ad, c', a1, a2, a3⟩ := f.1.2 rfl
            obtain ⟨c'', s', b1, b2, b3, b4⟩ := f.2.1.1 rfl
            have hcc : encCH c' = encCH x61 := by injection a1 with a1 _; injection a1 with a1; simpa using a1.symm
            rw [hcc] at a3
            have hc2 : c'' = x61 := by
              have b1' : encCH c'' = encCH x61 := by injection b1 with b1; simpa using b1.symm
              obtain ⟨p1, ⟨p2, p3, p4⟩, ⟨p5, p6, p7⟩, ⟨p8, p9, p10⟩, p11, p12⟩ := c''
              obtain ⟨r1, ⟨r2, r3, r4⟩, ⟨r5, r6, r7⟩, ⟨r8, r9, r10⟩, r11, r12⟩ := x61
              simp at b1'
              simp [b1']
            subst hc2
            rw [sl_eq a2]
            exact add w54 w67 c'' s' h3954 h67 a3 b2 ⟨fun ad ha => by have := b3.vals ad ha; have := h3954.size; omega, fun ad ha => by have := b3.cnts ad ha; have := h3954.size; omega⟩ fun k' p' q1 q2 => by
              obtain rfl : k = k' := by omega
              rw [hpc] at q1; cases q1
              exact b4
      · rintro _ w30 HH _
        refine z_i64 (by omega) ?_
        exact hag2 _ hc' HH
    · dsimp only at e
      have hcn : c = t.nc := by omega
      refine rd_boxN X21 (by kernel_rfl) rfl ?_
      have hb27' := hb17.trans hb27
      have O27 := Own.kept O (h17.trans hb27)
      refine wr_app1 tyXH (v := .agg (encX (((y.2.1 : Nat) : Int), ch, ())).toArray) O27 (Nat.le_trans hb27'.size (Nat.le_refl _)) rfl (by omega) (by omega) rfl rfl (by omega) (by unfold maxLen; omega) fun a' c' w81 O81 g81 _ _ => ?_
      refine z_i64 (by dsimp only; omega) ?_
      have hCol : ColsSt w27 ch ss := ⟨LC, Own.st OC, by omega, fun k u v q1 q2 => (hCC k u v q1 q2).1⟩
      have hbx : bel w12 w27 := h17.trans hb27
      refine hag (a', s.2.1 + 1, c') _ hi' ⟨bel.own (hb.trans hbx) O27 g81 (Nat.le_refl _), LX ++ [(((y.2.1 : Nat) : Int), ch, ())], Q ++ [(Rs.length, ss)], ?_, by simp [hLX], by simp [hQ], fun k u v q1 q2 => ?_, fun k t' Rs' q r1 r2 r3 => ?_⟩
      · rw [List.flatMap_append]
        simp only [List.flatMap_cons, List.flatMap_nil, List.append_nil]
        exact O81
      · rcases Nat.lt_or_ge k i with q | q
        · rw [List.getElem?_append_left (by omega)] at q1 q2
          have := hC k u v q1 q2
          exact ⟨this.1, (this.2.up hbx).apart O27 (by decide) (by decide) (by decide) g81⟩
        · have hk : k = i := by have := (List.getElem?_eq_some_iff.1 q1).1; simp at this; omega
          subst hk
          rw [List.getElem?_append_right (by omega), hLX] at q1
          rw [List.getElem?_append_right (by omega), hQ] at q2
          simp at q1 q2
          subst q1; subst q2
          exact ⟨by dsimp only; omega, hCol.apart O27 (by decide) (by decide) (by decide) g81⟩
      · rcases Nat.lt_or_ge k i with q' | q'
        · rw [List.getElem?_append_left (by omega)] at r3
          exact hF k t' Rs' q r1 r2 r3
        · have hk : k = i := by have := (List.getElem?_eq_some_iff.1 r3).1; simp at this; omega
          subst hk
          rw [List.getElem?_append_right (by omega), hQ] at r3
          simp at r3
          subst r3
          rw [ht] at r1; cases r1
          rw [hRs] at r2; cases r2
          exact ⟨rfl, by rw [← hcn]; exact hss, hSS⟩
  · dsimp only at e
    have hiD : i = D.length := by omega
    exact ⟨(s, (0 : Int), ()), rfl, hb8.trans hb, rfl, Q, ⟨LX, O.sl, by omega, hC⟩, ⟨by omega, hF⟩⟩
end Go.Proofs.YtcfghfmlfgaeaaaGreatDoor

/- Parts of rows: a tail is cleared, a row is shortened, lengthened, copied within. -/


namespace Go.V
open Go Go.RowKit Go.Q

theorem _root_.Go.Q.Own.capn {w : World} {B : Nat} {e : TypeId} {sz : Nat} {a : Option Addr} {n c : Nat} {xs : List Value} (O : Own w B e sz a n c xs) : n ≤ c := by
  rcases O.2 with ⟨h1, h2⟩ | ⟨g, cap, cur, h1, h2, h3, h4, h5, h6, h7⟩
  · omega
  · cases h1; exact h4
abbrev fromH (sz : Nat) (a : Option Addr) (n c m : Nat) : Option Addr × Nat × Nat := (if c = m then a else a.map (·.add (m * sz)), n - m, c - m)
theorem sl_from {P : Program} {t e : TypeId} {z : Value} {sz bytes : Nat} (T : TyS P t e z sz bytes) {a : Option Addr} {n c m : Nat} {k : IntKind} {i : Int} {K : (Option Addr × Nat × Nat) → Prop} (hi : i = (m : Int)) (hm : m ≤ n) (hk : K (fromH sz a n c m)) :
    rdp P (Instr.sliceAt t (.slice a n c) (some (.int k i)) none none) (.one .slice) K := by
  subst hi
  refine ⟨_, fun w => ?_, hk⟩
  have ht : P.underlying t = some (.slice (P.elem t)) := by rw [T.elem]; exact T.ht
  rw [run_sliceAt_slice _ _ _ _ _ _ ht, run_slice_l _ _ _ _ _ ht _ _ (by omega) (by omega), T.elem, T.size]
  simp only [Result.andThen_ok, sliced, Int.toNat_natCast]
  rfl
theorem storeCells_from {P : Program} {sz : Nat} {ad : Addr} {c m : Nat} {vs : List Value} (w : World) (h : c = m → vs = []) : (storeCells (if c = m then ad else ad.add (m * sz)) vs 0).run P w = (storeCells ad vs (m * sz)).run P w := by
  by_cases q : c = m
  · rw [if_pos q, h q]; rfl
  · rw [if_neg q, storeCells_add]; rfl
end Go.V

/- Package privacy: numbers, adds; rows appended, repeated. -/


namespace Go.Proofs.YtcfghfmlfgaeaaaGreatDoor
open Go.RowKit Go.Q Go.V Go.Bag

theorem wr_app0 {P : Program} {t e : TypeId} {z : Value} {sz bytes : Nat} (T : TyS P t e z sz bytes) {w : World} {sa : Option Addr} {n c : Nat} {ty : TypeId} {k : (Option Addr × Nat × Nat) → World → Prop} (hc : n ≤ c) (hk : k (sa, n, c) w) :
    wr P (Builtin.append_ #[t, t] ty #[.slice sa n c, .slice none 0 0]) (.one .slice) w k := by
  obtain ⟨i, hi0, hz0, hz1, hz2⟩ := info_parts T.hi
  refine ⟨(sa, n, c), w, ?_, hk⟩
  cases sa <;> simp [Builtin.append_, run_underlying T.ht, sizeOf, typeInfo, hi0, Builtin.lenOf, Builtin.firstCells, hc, storeCells] <;> rfl
theorem wr_appH {P : Program} {t e : TypeId} {z : Value} {sz bytes : Nat} (T : TyS P t e z sz bytes) {w : World} {B : Nat} {sa : Option Addr} {n c : Nat} {xs : List Value} (O : Own w B e sz sa n c xs) {ty : TypeId} {h : Hdr} {ys : List Value} (H : Sl w h.1 h.2.1 h.2.2 sz ys) {k : (Option Addr × Nat × Nat) → World → Prop}
    (hB : B ≤ w.heap.size) (hz : z.cells.size = sz) (hs : 0 < sz) (hp : plainV ys = true) (hb : (n + h.2.1) * bytes ≤ 140737488355328) (hn : n + h.2.1 ≤ maxLen)
    (hk : ∀ a' c' w', Own w' B e sz a' (n + h.2.1) c' (xs ++ ys) → w.grownBy w' (blk sa) → (blk a' = blk sa ∨ (∀ b, blk a' = some b → w.heap.size ≤ b)) → k (a', n + h.2.1, c') w') :
    wr P (Builtin.append_ #[t, t] ty #[.slice sa n c, .slice h.1 h.2.1 h.2.2]) (.one .slice) w k := by
  obtain ⟨a, m, mc⟩ := h
  dsimp only at H hb hn hk ⊢
  cases a with
  | some ad => exact wr_app T O H hB hz hs hp hb hn fun a' c' w' O' g d _ => hk a' c' w' O' g d
  | none =>
    obtain ⟨rfl, rfl⟩ := H.nil' rfl
    have hy : ys = [] := List.eq_nil_of_length_eq_zero (by have := H.len; omega)
    subst hy
    refine wr_app0 T O.capn (hk sa c w ?_ (grown_refl _ _) (.inl rfl))
    rw [List.append_nil]; exact O
theorem fill_i2 (a b : Int) : Instr.fill (fun i => some (i * 1, 1)) ((Array.range (2 * 1)).map ((Value.int .i64 0).cells[· % (Value.int .i64 0).cells.size]!)) (#[(0, .int .i64 a), (1, .int .i64 b)] : Array (Nat × Value)).toList = some #[.int .i64 a, .int .i64 b] := by kernel_rfl
theorem plainNI (l : List Int) : plainV (ints .i64 l) = true := by
  unfold plainV
  rw [List.all_eq_true]
  intro u hu
  obtain ⟨p, _, hp⟩ := List.mem_map.1 hu
  subst hp; rfl
def numsOf (s : St) : List Nat := s.nulls :: s.other :: s.cnts
theorem numbersP {w : World} {c : CH} {s : St} (C : CsAt w c s) (h100 : s.cnts.length ≤ 100) :
    call Tryz.prog 103 [.agg (encCH c).toArray] (.one (.one .slice)) w (fun (x : Hdr) w' => Sl w' x.1 x.2.1 x.2.2 1 (nints (numsOf s)) ∧ bel w w') := by
  have hb0 : c.2.1.2.1 = 0 := by rw [C.bins]
  have hcl : c.2.2.2.1.2.1 = s.cnts.length := by have := C.cnts.sl.int; simp at this; omega
  refine call_of (S103_calls c.1 c.2.1.1 c.2.1.2.1 c.2.1.2.2 c.2.2.1.1 c.2.2.1.2.1 c.2.2.1.2.2 c.2.2.2.1.1 c.2.2.2.1.2.1 c.2.2.2.1.2.2 c.2.2.2.2.1 w _ ?_)
  unfold S103
  refine wr_box fun x1 w2 X1 h2 _ _ => ?_
  replace X1 : Box w2 x1 (encCH c) := X1
  refine rd_box0 (by kernel_rfl) X1 rfl rfl ?_
  refine rd_box (by kernel_rfl) X1 (i := 4) rfl rfl ?_
  refine wr_lit tyI #[.int .i64 c.1, .int .i64 c.2.2.2.2.1] (fill_i2 _ _) (by omega) (by omega) rfl (by unfold maxLen; omega) fun ad w6 O h6 _ _ => ?_
  have O6 := O w2.heap.size (Nat.le_refl _)
  refine rd_box (by kernel_rfl) (X1.up h6) (i := 3) rfl rfl ?_
  refine wr_appH tyI (h := c.2.2.2.1) O6 ((C.cnts.sl.up h2).up h6) h6.size rfl (by omega) (plainNI _) (by omega) (by unfold maxLen; omega) fun a' c' w9 O9 g9 _ => ?_
  have hb9 := bel.own h6 O6 g9 (Nat.le_refl _)
  refine rd_box (by kernel_rfl) (X1.up hb9) (i := 1) rfl rfl ?_
  refine loop_upA 0 (fun _ (s' : Hdr) w' => s' = (a', 2 + c.2.2.2.1.2.1, c') ∧ bel w9 w') ⟨rfl, bel.refl _⟩ fun j s' w13 hj ⟨hs, hb⟩ again hag _ => ?_
  refine br_dec (fun e => by dsimp only at e; omega) (fun _ => ?_)
  subst hs
  refine ⟨_, rfl, ?_, (h2.trans hb9).trans hb⟩
  have := O9.sl.up hb
  have e : ([Value.int .i64 c.1, Value.int .i64 c.2.2.2.2.1] ++ nints s.cnts : List Value) = nints (numsOf s) := by
    rw [C.nulls, C.other]; rfl
  rw [← e]; exact this
theorem bv_nat {a : Nat} (h : a < 2 ^ 63) : (BitVec.ofInt 64 (a : Int)).toNat = a := by
  rw [BitVec.ofInt_natCast, BitVec.toNat_ofNat]; exact Nat.mod_eq_of_lt (by omega)
theorem wrap_nat {a : Nat} (h : a < 2 ^ 63) : IntKind.i64.wrap (a : Int) = (a : Int) := IntWalk.i64_in _ (by omega)
theorem z_mask {x : Int} {a : Nat} (hx : x = (a : Int)) (ha : a < 2147483648) {k : Int → Prop} (hk : k (a : Int)) : z (iand .i64 x 2147483647) k := by
  subst hx
  unfold z iand
  show k (IntKind.i64.wrap ((BitVec.ofInt 64 (a : Int) &&& BitVec.ofInt 64 ((2147483647 : Nat) : Int)).toNat : Int))
  rw [BitVec.toNat_and, bv_nat (by omega), bv_nat (by omega), show (2147483647 : Nat) = 2 ^ 31 - 1 by decide, Nat.and_two_pow_sub_one_eq_mod, Nat.mod_eq_of_lt (by omega), wrap_nat (by omega)]
  exact hk
theorem addsP {w : World} {x : Hdr} {l : List Nat} (S : Sl w x.1 x.2.1 x.2.2 1 (nints l)) (h : l.sum ≤ 1000) (hl : l.length ≤ 200) :
    call Tryz.prog 102 [.int .i64 (l.sum : Int), .slice x.1 x.2.1 x.2.2] (.one (.one .bool)) w (fun (b : Bool) w' => b = true ∧ bel w w') := by
  have hxl : x.2.1 = l.length := by have := S.int; simp at this; omega
  refine call_of (S102_calls (l.sum : Int) x.1 x.2.1 x.2.2 w _ ?_)
  unfold S102
  refine loop_gh (G := Nat) (fun j (s' : Int × Int × Int × Unit) w' => s' = (0, ((l.take j).sum : Int), (j : Int), ()) ∧ j ≤ l.length ∧ bel w w') (fun j => l.length - j) 0 ⟨rfl, Nat.zero_le _, bel.refl _⟩ ?_
  rintro j s' w3 ⟨rfl, hj, hb⟩ again hag _
  have hs := take_sum_le l j
  refine br_dec (fun e => ?_) (fun e => ?_)
  · dsimp only at e
    obtain ⟨n, hn⟩ : ∃ n, l[j]? = some n := ⟨_, List.getElem?_eq_getElem (by omega)⟩
    have hst := take_sum_le l (j + 1)
    rw [sum_take hn] at hst
    refine at_int tyI (by kernel_rfl) (S.up hb) rfl (by omega) fun y hy => ?_
    obtain rfl : (n : Int) = y := by
      rw [List.getElem?_map, hn] at hy; cases hy; rfl
    refine rdp_shr 31 rfl (by decide) ?_
    have e0 : (n : Int) / 2 ^ 31 = 0 := by omega
    rw [e0]
    refine z_i64 (by dsimp only; omega) ?_
    refine z_mask rfl (by omega) ?_
    refine z_i64 (by dsimp only; omega) ?_
    refine z_i64 (by dsimp only; omega) ?_
    refine hag (j + 1) _ _ ⟨?_, by omega, hb⟩ (by omega)
    rw [sum_take hn]
    simp
  · dsimp only at e
    have hjl : j = l.length := by omega
    subst hjl
    rw [List.take_length]
    refine rdp_shr 31 rfl (by decide) ?_
    have e0 : (l.sum : Int) / 2 ^ 31 = 0 := by omega
    rw [e0]
    refine z_i64 (by dsimp only; omega) ?_
    refine rdp_shr 31 rfl (by decide) ?_
    rw [e0]
    refine br_t rfl ?_
    refine z_mask rfl (by omega) ?_
    refine z_mask rfl (by omega) ?_
    exact ⟨true, by simp [RS.val, VS.val, Sh.val], rfl, hb⟩
end Go.Proofs.YtcfghfmlfgaeaaaGreatDoor

/- slices.Repeat; package privacy: named, list. -/

namespace Go.Proofs.YtcfghfmlfgaeaaaGreatDoor
open Go.RowKit Go.Q Go.V Go.Bag Go.Shelf

theorem wr_copyFromV {P : Program} {t e : TypeId} {z : Value} {sz bytes : Nat} (T : TyS P t e z sz bytes) {w : World} {B : Nat} {ad : Addr} {b : Option Addr} {n c m c' d : Nat} {xs ys : List Value} {ty : TypeId} {k : Int → World → Prop}
    (O : Own w B e sz (some ad) n c xs) (hd : d ≤ n) (S : Sl w b m c' sz ys) (hpl : plainV (ys.take ((n - d) * sz)) = true)
    (hk : ∀ w', Own w' B e sz (some ad) n c (putAt xs (d * sz) (ys.take ((n - d) * sz))) → w.grownBy w' (some ad.block) → w'.heap.size = w.heap.size → k ((Nat.min m (n - d) : Nat) : Int) w') :
    wr P (Builtin.copy_ #[t, t] ty #[.slice (fromH sz (some ad) n c d).1 (fromH sz (some ad) n c d).2.1 (fromH sz (some ad) n c d).2.2, .slice b m c']) (.one (.int .i64)) w k := by
  obtain ⟨i, h1, _, h2, _⟩ := info_parts T.hi
  have hi : i.size = sz := h2
  have hxs := O.1
  have hys := S.len
  have hc := O.capn
  have hdn : d * sz + (n - d) * sz = n * sz := by rw [← Nat.add_mul]; congr 1; omega
  have hcl : (ys.take ((n - d) * sz)).length = (Nat.min m (n - d)) * sz := by
    rw [List.length_take, hys]
    show min ((n - d) * sz) (m * sz) = (min m (n - d)) * sz
    rcases Nat.le_total m (n - d) with q | q
    · rw [Nat.min_eq_left q, Nat.min_eq_right (Nat.mul_le_mul_right _ q)]
    · rw [Nat.min_eq_right q, Nat.min_eq_left (Nat.mul_le_mul_right _ q)]
  have hle : (ys.take ((n - d) * sz)).length ≤ (n - d) * sz := by rw [List.length_take]; omega
  obtain ⟨w', r1, r2, r3, r4⟩ := run_storeOwnA (P := P) (ys.take ((n - d) * sz)) (d * sz) w xs O (by omega) hpl
  have hst : (storeCells (if c = d then ad else ad.add (d * sz)) (ys.take ((n - d) * sz)) 0).run P w = .ok () w' := by
    rw [storeCells_from w (fun q => by
      have : n - d = 0 := by omega
      rw [this, Nat.zero_mul, List.take_zero])]
    exact r1
  refine ⟨((Nat.min m (n - d) : Nat) : Int), w', ?_, hk w' r2 r3 r4⟩
  have hif : (if c = d then some ad else Option.map (·.add (d * sz)) (some ad)) = some (if c = d then ad else ad.add (d * sz)) := by split <;> rfl
  show (Builtin.copy_ #[t, t] ty #[.slice (if c = d then some ad else Option.map (·.add (d * sz)) (some ad)) (n - d) (c - d), .slice b m c']).run P w = _
  rw [hif]
  generalize (if c = d then ad else ad.add (d * sz)) = q at hst
  cases b with
  | none =>
    have hm0 : m = 0 := (S.nil' rfl).1
    subst hm0
    have hy0 : ys = [] := List.eq_nil_of_length_eq_zero (by omega)
    subst hy0
    simp at hst
    simp [Builtin.copy_, run_underlying T.ht, Builtin.lenOf, Builtin.firstCells, sizeOf, typeInfo, h1, goInt, hst]; rfl
  | some b =>
    have hl := run_loadCells_list (P := P) w b (ys.take ((n - d) * sz)) (fun j v h => by
      have hj : ys[j]? = some v := by
        rw [List.getElem?_take] at h
        split at h
        · exact h
        · cases h
      obtain ⟨ad', q1, q2, _⟩ := S.at' j v hj
      cases q1; exact q2)
    rw [hcl] at hl
    simp [Builtin.copy_, run_underlying T.ht, Builtin.lenOf, Builtin.firstCells, sizeOf, typeInfo, h1, hi, hl, hst, goInt]; rfl
theorem flat_take (L : List V3) (j : Nat) : (L.flatMap encV).take (j * 3) = (L.take j).flatMap encV := by
  rcases Nat.lt_or_ge j L.length with h | h
  · have e : L.flatMap encV = (L.take j).flatMap encV ++ (L.drop j).flatMap encV := by rw [← List.flatMap_append, List.take_append_drop]
    rw [e, List.take_left' (by rw [flat_len encV_len, List.length_take]; omega)]
  · rw [List.take_of_length_le (by rw [flat_len encV_len]; omega), List.take_of_length_le h]
theorem flat_put (v : V3) (R : List V3) (m k : Nat) (hk : k ≤ R.length) : putAt ((List.replicate m v ++ R).flatMap encV) (m * 3) ((List.replicate k v).flatMap encV) = (List.replicate (m + k) v ++ R.drop k).flatMap encV := by
  have e : m * 3 = ((List.replicate m v).flatMap encV).length := by rw [flat_len encV_len, List.length_replicate]
  rw [List.flatMap_append, e, putAt_at _ _ _ (by rw [flat_len encV_len, flat_len encV_len, List.length_replicate]; omega), flat_len encV_len, List.length_replicate]
  have e2 : (R.flatMap encV).drop (k * 3) = (R.drop k).flatMap encV := by
    have e : R.flatMap encV = (R.take k).flatMap encV ++ (R.drop k).flatMap encV := by rw [← List.flatMap_append, List.take_append_drop]
    rw [e, List.drop_left' (by rw [flat_len encV_len, List.length_take]; omega)]
  rw [e2, ← List.flatMap_append, ← List.flatMap_append, List.replicate_append_replicate]
set_option maxHeartbeats 1600000 in
theorem repeatP {w : World} {x : Hdr} {v : V3} (S : RowAt w x [v]) {n : Nat} (h1 : 1 ≤ n) (h100 : n ≤ 100) :
    call Tryz.prog 112 [.slice x.1 x.2.1 x.2.2, .int .i64 (n : Int)] (.one (.one .slice)) w (fun (y : Hdr) w' => RowAt w' y (List.replicate n v) ∧ bel w w') := by
  have hxl : x.2.1 = 1 := by have := RowAt.len S; simpa using this.symm
  refine call_of (S112_calls x.1 x.2.1 x.2.2 n w _ ?_)
  unfold S112
  refine join_mk (fun _ w' => w' = w) (fun K hK => br_dec (fun e => absurd e (by omega)) (fun _ => hK _ _ rfl)) ?_
  rintro _ w3 rfl _
  refine z_eq (m := ((1 : Nat) : Int)) (by rw [hxl]; rfl) ?_
  refine z_eq (m := (n : Int)) (IntWalk.u64_in _ (by omega)) ?_
  refine call_mono (r := .many [.one (.int .u64), .one (.int .u64)]) (Q := fun (y : Int × Int × Unit) w' => y = ((0 : Int), (n : Int), ()) ∧ w' = w3) ((Any.bits_Mul laysMul 1 n (by omega) (by omega) w3).mono fun e w' ⟨q1, q2⟩ => ⟨((0 : Int), (n : Int), ()), ?_, rfl, q2⟩) ?_
  · rw [q1, show 1 * n / 18446744073709551616 = 0 by omega, show 1 * n % 18446744073709551616 = n by omega]; rfl
  rintro y w7 ⟨rfl, rfl⟩
  refine join_mk (fun _ w' => w' = w7) (fun K hK => br_dec (fun e => by dsimp only at e; omega) (fun _ => br_dec (fun e => absurd e (by dsimp only; omega)) (fun _ => hK _ _ rfl))) ?_
  rintro _ w10 rfl _
  refine z_i64 (by dsimp only; omega) ?_
  refine wr_make tyV n rfl rfl (by omega) (by unfold maxLen; omega) fun ad w13 O h13 _ _ => ?_
  have O13 := O w10.heap.size (Nat.le_refl _)
  rw [made_flat (enc := encV) encV_len (by omega) ((0, 0, ByteArray.empty) : V3) (Value.agg #[Value.int IntKind.i64 0, Value.int IntKind.i64 0, Value.string ByteArray.empty]).cells rfl n] at O13
  have hf : fromH 3 (some ad) n n 0 = (some ad, n, n) := by
    show (if n = 0 then some ad else some (ad.add (0 * 3)), n - 0, n - 0) = _
    rw [if_neg (by omega), Nat.zero_mul, add_zero]; rfl
  have cp := fun {ty : TypeId} {k : Int → World → Prop} => wr_copyFromV (ty := ty) (k := k) tyV O13 (d := 0) (Nat.zero_le _) (S.up h13) (by
    have e := flat_take [v] n
    rw [Nat.sub_zero, e]; exact plainR _)
  rw [hf] at cp
  refine cp fun w15 O15 g15 _ => ?_
  have e15 : putAt ((List.replicate n ((0, 0, ByteArray.empty) : V3)).flatMap encV) (0 * 3) (List.take ((n - 0) * 3) ([v].flatMap encV)) = (List.replicate (0 + 1) v ++ (List.replicate n ((0, 0, ByteArray.empty) : V3)).drop 1).flatMap encV := by
    have e := flat_put v (List.replicate n ((0, 0, ByteArray.empty) : V3)) 0 1 (by simp; omega)
    rw [Nat.sub_zero, flat_take]
    have e2 : [v].take n = List.replicate 1 v := by
      rw [List.take_of_length_le (by simp; omega)]; rfl
    rw [e2]; exact e
  rw [e15] at O15
  have hb15 := bel.own h13 O13 g15 (Nat.le_refl _)
  have hmin : Nat.min x.2.1 (n - 0) = 1 := by
    show min x.2.1 (n - 0) = 1
    omega
  rw [hmin]
  refine loop_gh (G := Nat) (fun m (s : Int × Unit) w' => s = ((m : Int), ()) ∧ 1 ≤ m ∧ m ≤ n ∧ bel w10 w' ∧ ∃ R : List V3, R.length = n - m ∧ Own w' w10.heap.size 55 3 (some ad) n n ((List.replicate m v ++ R).flatMap encV)) (fun m => n - m) 1 ⟨rfl, Nat.le_refl _, h1, hb15, _, by simp, O15⟩ ?_
  rintro m s w18 ⟨rfl, hm1, hmn, hb, R, hR, OM⟩ again hag _
  refine br_dec (fun e => ?_) (fun e => ?_)
  · dsimp only at e
    refine drw_mk fun w19 h19 _ => ?_
    replace OM := Own.kept OM h19; replace hb := hb.trans h19
    refine sl_from tyV (m := m) rfl hmn ?_
    refine sl_to tyV (m := m) rfl hmn ?_
    have Sm : Sl w19 (some ad) m n 3 ((List.replicate m v).flatMap encV) := by
      have := OM.sl
      refine ⟨by rw [flat_len encV_len, List.length_replicate], hmn, this.most, (fun q => by cases q), fun j u hj => this.at' j u ?_⟩
      have hjl := (List.getElem?_eq_some_iff.1 hj).1
      rw [List.flatMap_append, List.getElem?_append_left hjl]; exact hj
    refine wr_copyFromV tyV OM hmn Sm (by rw [flat_take]; exact plainR _) fun w23 O23 g23 _ => ?_
    rw [flat_take, List.take_replicate] at O23
    have hmm : Nat.min m (n - m) = min (n - m) m := Nat.min_comm _ _
    rw [hmm, flat_put v R m (min (n - m) m) (by omega)] at *
    refine z_i64 (by dsimp only; omega) ?_
    refine hag (m + min (n - m) m) _ _ ⟨by simp, by omega, by omega, bel.own hb OM g23 (Nat.le_refl _), R.drop (min (n - m) m), by simp; omega, O23⟩ (by omega)
  · dsimp only at e
    have hmn' : m = n := by omega
    subst hmn'
    have hR0 : R = [] := List.eq_nil_of_length_eq_zero (by omega)
    subst hR0
    rw [List.append_nil] at OM
    exact ⟨(some ad, m, m), rfl, OM.sl, hb⟩
end Go.Proofs.YtcfghfmlfgaeaaaGreatDoor

/- Package privacy: named, list. -/

namespace Go.Proofs.YtcfghfmlfgaeaaaGreatDoor
open Go.RowKit Go.Q Go.V Go.Bag Go.Shelf

theorem ownLe {w : World} {B B' : Nat} {e : TypeId} {sz : Nat} {a : Option Addr} {n c : Nat} {xs : List Value} (O : Own w B e sz a n c xs) (h : B' ≤ B) : Own w B' e sz a n c xs :=
  ⟨O.1, O.2.imp id fun ⟨g, cap, cur, a, b, r⟩ => ⟨g, cap, cur, a, Nat.le_trans h b, r⟩⟩
abbrev zV : V3 := (0, 0, ByteArray.empty)
structure NamedR (s : St) (L : List V3) : Prop where
  len : L.length = s.cnts.sum
  mem : ∀ u ∈ L, u ∈ s.vals
theorem cnts_le {s : St} (pos : ∀ n ∈ s.cnts, 1 ≤ n) : s.cnts.length ≤ s.cnts.sum := by
  have : ∀ (l : List Nat), (∀ n ∈ l, 1 ≤ n) → l.length ≤ l.sum := by
    intro l
    induction l with
    | nil => intro _; simp
    | cons a l ih =>
      intro hk
      have h0 := hk a (List.mem_cons_self ..)
      have := ih fun n hn => hk n (List.mem_cons_of_mem _ hn)
      simp only [List.length_cons, List.sum_cons]; omega
  exact this _ pos
set_option maxHeartbeats 1600000 in
theorem namedP {w : World} {c : CH} {s : St} (C : CsAt w c s) (hlen : s.cnts.length = s.vals.length) (pos : ∀ n ∈ s.cnts, 1 ≤ n) (h100 : s.cnts.sum ≤ 100) :
    call Tryz.prog 65 [.agg (encCH c).toArray] (.one (.one .slice)) w (fun (x : Hdr) w' => bel w w' ∧ ∃ L, NamedR s L ∧ Own w' w.heap.size 55 3 x.1 x.2.1 x.2.2 (L.flatMap encV)) := by
  have hcl := cnts_le pos
  have hb0 : c.2.1.2.1 = 0 := by rw [C.bins]
  have hvl : c.2.2.1.2.1 = s.vals.length := by have := RowAt.len C.vals.sl; omega
  have hkl : c.2.2.2.1.2.1 = s.cnts.length := by have := C.cnts.sl.int; simp at this; omega
  refine call_of (S65_calls c.1 c.2.1.1 c.2.1.2.1 c.2.1.2.2 c.2.2.1.1 c.2.2.1.2.1 c.2.2.1.2.2 c.2.2.2.1.1 c.2.2.2.1.2.1 c.2.2.2.1.2.2 c.2.2.2.2.1 w _ ?_)
  unfold S65
  refine wr_box fun x1 w2 X1 h2 _ _ => ?_
  replace X1 : Box w2 x1 (encCH c) := X1
  refine rd_box (by kernel_rfl) X1 (i := 1) rfl rfl ?_
  refine loop_upA 0 (fun _ (s' : Hdr) w' => s' = (none, 0, 0) ∧ bel w2 w') ⟨rfl, bel.refl _⟩ fun j s' w6 hj ⟨hs, hb6⟩ again hag _ => ?_
  refine br_dec (fun e => by dsimp only at e; omega) (fun _ => ?_)
  subst hs
  have C6 := (C.up h2).up hb6
  replace X1 := X1.up hb6
  refine rd_box (by kernel_rfl) X1 (i := 2) rfl rfl ?_
  refine loop_upA s.vals.length (fun i (o : Hdr) w' => bel w6 w' ∧ ∃ L : List V3, L.length = (s.cnts.take i).sum ∧ (∀ u ∈ L, u ∈ s.vals) ∧ Own w' w6.heap.size 55 3 o.1 o.2.1 o.2.2 (L.flatMap encV)) ⟨bel.refl _, [], rfl, (fun u hu => by simp at hu), Own.nil _ _ _ _⟩ fun i o w31 hi ⟨hb, L, hL, hm, O⟩ again2 hag2 _ => ?_
  have hts := take_sum_le s.cnts i
  have hol : o.2.1 = L.length := by have := O.1; rw [flat_len encV_len] at this; omega
  refine br_dec (fun e => ?_) (fun e => ?_)
  · dsimp only at e
    have hi' : i < s.vals.length := by omega
    obtain ⟨n, hn⟩ : ∃ n, s.cnts[i]? = some n := ⟨_, List.getElem?_eq_getElem (by omega)⟩
    have hn1 := pos n (List.mem_of_getElem? hn)
    have hts2 := take_sum_le s.cnts (i + 1)
    rw [sum_take hn] at hts2
    refine row_at (C6.vals.sl.up hb) rfl hi' fun p hp => ?_
    refine var_mk (z := .agg #[.int .i64 0, .int .i64 0, .string ByteArray.empty]) (v := .agg (encV p).toArray) (by kernel_rfl) (by kernel_rfl) rfl rfl fun x34 w36 X34 h36 _ => ?_
    replace X34 : Box w36 x34 (encV p) := X34
    refine drw_mk fun w37 h37 _ => ?_
    replace X34 := X34.up h37
    have h3137 := h36.trans h37
    have hb37 := hb.trans h3137
    refine flEx_mk (fun i ags v w' => i = 2 → ∃ ad, v = .slice (some ad) 1 1 ∧ RowAt w' (some ad, 1, 1) [p]) (fun i ags v w1 w2 q hb e => by
      obtain ⟨ad, a1, a2⟩ := q e
      exact ⟨ad, a1, Sl.up a2 hb⟩) ?_
    refine rd_boxN X34 (by kernel_rfl) rfl ?_
    refine flc_mk (fun w40 h40 _ => ?_) (fun x44 => ?_)
    · refine wr_lit tyV (encV p).toArray (fill_one 3 (.agg (encV p).toArray) _ rfl (by simp)) (by omega) (by omega) rfl (by unfold maxLen; omega) fun ad w43 O' h43 _ _ => ?_
      exact ⟨h43, fun _ => ⟨ad, rfl, (O' _ (Nat.le_refl _)).sl⟩⟩
    refine rd_box (by kernel_rfl) (X1.up hb37) (i := 3) rfl rfl ?_
    refine at_int tyI (by kernel_rfl) (C6.cnts.sl.up hb37) rfl (by omega) fun y hy => ?_
    obtain rfl : (n : Int) = y := by rw [List.getElem?_map, hn] at hy; cases hy; rfl
    refine flend_mk fun w48 h48 f => ?_
    obtain ⟨ad, a1, a2⟩ := f.1 rfl
    rw [sl_eq a1]
    refine call_mono (repeatP a2 hn1 (by omega)) ?_
    rintro (x50 : Hdr) w51 ⟨R50, h51⟩
    have hb51 := (h3137.trans h48).trans h51
    have O51 := Own.kept O hb51
    have hxl : x50.2.1 = n := by have := RowAt.len R50; simp at this; omega
    have hsz : w6.heap.size ≤ w51.heap.size := (hb.trans hb51).size
    refine wr_appH tyV (h := x50) O51 R50 hsz rfl (by omega) (plainR _) (by omega) (by unfold maxLen; omega) fun a' c' w53 O53 g53 _ => ?_
    refine z_i64 (by dsimp only; omega) ?_
    refine hag2 (a', o.2.1 + x50.2.1, c') _ hi' ⟨bel.own (hb.trans hb51) O51 g53 (Nat.le_refl _), L ++ List.replicate n p, ?_, fun u hu => ?_, ?_⟩
    · rw [List.length_append, List.length_replicate, sum_take hn, hL]
    · rcases List.mem_append.1 hu with q | q
      · exact hm u q
      · rw [(List.mem_replicate.1 q).2]; exact List.mem_of_getElem? hp
    · rw [List.flatMap_append]; exact O53
  · dsimp only at e
    have hiv : i = s.vals.length := by omega
    rw [hiv, ← hlen, List.take_length] at hL
    exact ⟨o, rfl, (h2.trans hb6).trans hb, L, ⟨hL, hm⟩, ownLe O (h2.trans hb6).size⟩
structure ListR (s : St) (L : List V3) : Prop where
  len : L.length = s.nulls + s.cnts.sum + s.other
  mem : ∀ u ∈ L, u ∈ s.vals ∨ (u = zV ∧ (0 < s.nulls ∨ (0 < s.other ∧ s.cnts.sum = 0)))
set_option maxHeartbeats 1600000 in
theorem listP {w : World} {c : CH} {s : St} (C : CsAt w c s) (hlen : s.cnts.length = s.vals.length) (pos : ∀ n ∈ s.cnts, 1 ≤ n) (h100 : s.nulls + s.other + s.cnts.sum ≤ 100) :
    call Tryz.prog 31 [.agg (encCH c).toArray] (.one (.one .slice)) w (fun (x : Hdr) w' => bel w w' ∧ ∃ L, ListR s L ∧ Own w' w.heap.size 55 3 x.1 x.2.1 x.2.2 (L.flatMap encV)) := by
  refine call_of (S31_calls c.1 c.2.1.1 c.2.1.2.1 c.2.1.2.2 c.2.2.1.1 c.2.2.1.2.1 c.2.2.1.2.2 c.2.2.2.1.1 c.2.2.2.1.2.1 c.2.2.2.1.2.2 c.2.2.2.2.1 w _ ?_)
  unfold S31
  refine wr_box fun x1 w2 X1 h2 _ _ => ?_
  replace X1 : Box w2 x1 (encCH c) := X1
  refine rd_box0 (by kernel_rfl) X1 rfl rfl ?_
  refine wr_make tyV s.nulls C.nulls C.nulls (by omega) (by unfold maxLen; omega) fun ad w5 O h5 _ _ => ?_
  have O5 := O w2.heap.size (Nat.le_refl _)
  rw [made_flat (enc := encV) encV_len (by omega) zV (Value.agg #[Value.int IntKind.i64 0, Value.int IntKind.i64 0, Value.string ByteArray.empty]).cells rfl s.nulls] at O5
  refine rd_boxN (X1.up h5) (by kernel_rfl) rfl ?_
  refine call_mono (namedP ((C.up h2).up h5) hlen pos (by omega)) ?_
  rintro (x7 : Hdr) w8 ⟨h8, L7, N, OR7⟩
  have R7 : RowAt w8 x7 L7 := OR7.sl
  have hxl : x7.2.1 = L7.length := (RowAt.len R7).symm
  have hNl := N.len
  have O8 := Own.kept O5 h8
  have hb8 := h5.trans h8
  have hx7 : ∀ k, blk x7.1 = some k → w5.heap.size ≤ k ∧ k < w8.heap.size := fun k hk => OR7.lt k hk
  have h8x := Own.lt O5
  refine wr_appH tyV (h := x7) O8 R7 hb8.size rfl (by omega) (plainR _) (by omega) (by unfold maxLen; omega) fun a' c' w10 O10 g10 hnew => ?_
  have hb10 := bel.own hb8 O8 g10 (Nat.le_refl _)
  have hap : ∀ k, blk a' = some k → blk x7.1 ≠ some k := fun k hk q => by
    have q1 := hx7 k q
    rcases hnew with h | h
    · have := (h8x k (by rw [← h, hk])).2; omega
    · have := h k hk; omega
  have R10 : Own w10 w5.heap.size 55 3 x7.1 x7.2.1 x7.2.2 (L7.flatMap encV) := by
    refine OR7.keptBy g10 ?_
    cases hq : blk x7.1 with
    | none => exact .inl rfl
    | some k => exact .inr fun q => by have := (h8x k q.symm).2; have := (hx7 k hq).1; omega
  refine rd_box (by kernel_rfl) (X1.up hb10) (i := 4) rfl rfl ?_
  have hot := C.other
  refine loop_upA s.other (fun i (o : Hdr) w' => bel w2 w' ∧ Own w' w5.heap.size 55 3 x7.1 x7.2.1 x7.2.2 (L7.flatMap encV) ∧ (∀ k, blk o.1 = some k → blk x7.1 ≠ some k) ∧ ∃ L : List V3, L.length = s.nulls + s.cnts.sum + i ∧ (∀ u ∈ L, u ∈ s.vals ∨ (u = zV ∧ (0 < s.nulls ∨ (0 < s.other ∧ s.cnts.sum = 0)))) ∧ Own w' w2.heap.size 55 3 o.1 o.2.1 o.2.2 (L.flatMap encV))
    ⟨hb10, R10, hap, List.replicate s.nulls zV ++ L7, by simp; omega, fun u hu => ?_, by rw [List.flatMap_append]; exact O10⟩ fun i o w14 hi ⟨hb, OX, hne, L, hL, hm, O⟩ again hag _ => ?_
  · rcases List.mem_append.1 hu with q | q
    · have := List.mem_replicate.1 q
      exact .inr ⟨this.2, .inl (by omega)⟩
    · exact .inl (N.mem u q)
  have hol : o.2.1 = L.length := by have := O.1; rw [flat_len encV_len] at this; omega
  refine br_dec (fun e => ?_) (fun e => ?_)
  · dsimp only at e
    have hi' : i < s.other := by omega
    have step : ∀ (u : V3) {ty : TypeId} {k : (Option Addr × Nat × Nat) → World → Prop}, (u ∈ s.vals ∨ (u = zV ∧ (0 < s.nulls ∨ (0 < s.other ∧ s.cnts.sum = 0)))) →
        (∀ a' c' w', bel w2 w' → Own w' w5.heap.size 55 3 x7.1 x7.2.1 x7.2.2 (L7.flatMap encV) → (∀ k, blk a' = some k → blk x7.1 ≠ some k) → Own w' w2.heap.size 55 3 a' (o.2.1 + 1) c' ((L ++ [u]).flatMap encV) → k (a', o.2.1 + 1, c') w') →
        wr Tryz.prog (Instr.buildSlice 56 1 #[(0, .agg (encV u).toArray)]) (.one .slice) w14 fun (x43 : Hdr) w44 =>
          wr Tryz.prog (Builtin.append_ #[56, 56] ty #[.slice o.1 o.2.1 o.2.2, .slice x43.1 x43.2.1 x43.2.2]) (.one .slice) w44 k := by
      intro u ty k hu hk
      refine wr_app1 tyV (v := .agg (encV u).toArray) O hb.size rfl (by omega) (by omega) rfl rfl (by omega) (by unfold maxLen; omega) fun a' c' w' O' g' hnew' _ => ?_
      refine hk a' c' w' (bel.own hb O g' (Nat.le_refl _)) (OX.keptBy g' ?_) (fun k hk q => ?_) ?_
      · cases hq : blk x7.1 with
        | none => exact .inl rfl
        | some k => exact .inr fun q => hne k q.symm hq
      · rcases hnew' with h | h
        · exact hne k (by rw [← h, hk]) q
        · have := h k hk; have := (OX.lt k q).2; omega
      · rw [List.flatMap_append]
        simp only [List.flatMap_cons, List.flatMap_nil, List.append_nil]
        exact O'
    refine join_mk (fun (s' : Hdr × Unit) w' => bel w2 w' ∧ Own w' w5.heap.size 55 3 x7.1 x7.2.1 x7.2.2 (L7.flatMap encV) ∧ (∀ k, blk s'.1.1 = some k → blk x7.1 ≠ some k) ∧ ∃ L : List V3, L.length = s.nulls + s.cnts.sum + (i + 1) ∧ (∀ u ∈ L, u ∈ s.vals ∨ (u = zV ∧ (0 < s.nulls ∨ (0 < s.other ∧ s.cnts.sum = 0)))) ∧ Own w' w2.heap.size 55 3 s'.1.1 s'.1.2.1 s'.1.2.2 (L.flatMap encV)) (fun K hK => ?_) ?_
    · have fin : ∀ (u : V3), (u ∈ s.vals ∨ (u = zV ∧ (0 < s.nulls ∨ (0 < s.other ∧ s.cnts.sum = 0)))) → ∀ a' c' w', bel w2 w' → Own w' w5.heap.size 55 3 x7.1 x7.2.1 x7.2.2 (L7.flatMap encV) → (∀ k, blk a' = some k → blk x7.1 ≠ some k) → Own w' w2.heap.size 55 3 a' (o.2.1 + 1) c' ((L ++ [u]).flatMap encV) → K ((a', o.2.1 + 1, c'), ()) w' := fun u hu a' c' w' q1 q2 q3 q4 =>
        hK ((a', o.2.1 + 1, c'), ()) w' ⟨q1, q2, q3, L ++ [u], by simp; omega, fun y hy => by
          rcases List.mem_append.1 hy with q | q
          · exact hm y q
          · rw [List.mem_singleton.1 q]; exact hu, q4⟩
      refine br_eq (fun e1 => ?_) (fun e1 => ?_)
      · have hu : zV ∈ s.vals ∨ (zV = zV ∧ (0 < s.nulls ∨ (0 < s.other ∧ s.cnts.sum = 0))) := .inr ⟨rfl, .inr ⟨by omega, by omega⟩⟩
        exact step zV hu (fin zV hu)
      · have hpos : 0 < L7.length := by omega
        refine rdp_rem (by omega) ?_
        have hr : (i : Int).tmod ((x7.2.1 : Nat) : Int) = ((i % x7.2.1 : Nat) : Int) := (Int.ofNat_tmod i x7.2.1).symm
        rw [hr]
        have hlt : i % x7.2.1 < L7.length := by rw [hxl]; exact Nat.mod_lt _ hpos
        refine row_at OX.sl rfl hlt fun p hp => ?_
        have hu : p ∈ s.vals ∨ (p = zV ∧ (0 < s.nulls ∨ (0 < s.other ∧ s.cnts.sum = 0))) := .inl (N.mem p (List.mem_of_getElem? hp))
        exact step p hu (fin p hu)
    · rintro ⟨s', u'⟩ w17 HH _
      refine z_i64 (by dsimp only; omega) ?_
      exact hag _ _ hi' HH
  · dsimp only at e
    have hio : i = s.other := by omega
    exact ⟨o, rfl, h2.trans hb, L, ⟨by rw [hL, hio], hm⟩, ownLe O h2.size⟩
end Go.Proofs.YtcfghfmlfgaeaaaGreatDoor

/- Package privacy: what is looked at in each column. -/

namespace Go.Proofs.YtcfghfmlfgaeaaaGreatDoor
open Go.RowKit Go.Q Go.V Go.Bag Go.Shelf

section
variable {w w' : World} {kk : IntKind} {i : Int} {j : Nat}
theorem StAt.len {l : Hdr} {Q : List (Nat × List St)} (H : StAt w l Q) : l.2.1 = Q.length := by
  obtain ⟨L, h1, h2, _⟩ := H
  have := h1.len
  rw [flat_len encX_len] at this; omega
theorem ColsSt.len {h : Hdr} {ss : List St} (H : ColsSt w h ss) : h.2.1 = ss.length := by
  obtain ⟨L, h1, h2, _⟩ := H
  have := h1.sl.len
  rw [flat_len encCH_len] at this; omega
theorem StAt.rows {l : Hdr} {Q : List (Nat × List St)} (H : StAt w l Q) (hb : bel w w') (hi : i = (j : Int)) {q : Nat × List St} (hq : Q[j]? = some q) {K : Int → Prop} (hk : K (q.1 : Int)) :
    rdp Tryz.prog (Instr.indexAt 43 (.slice l.1 l.2.1 l.2.2) (.int kk i)) (.one .addr) fun ad => rd Tryz.prog (Instr.loadAt 3 (.pointer (some ad))) (.one (.int .i64)) w' K := by
  have hl := H.len
  have hjl := (List.getElem?_eq_some_iff.1 hq).1
  obtain ⟨L, h1, h2, h3⟩ := H
  obtain ⟨x, hx⟩ : ∃ x, L[j]? = some x := ⟨_, List.getElem?_eq_getElem (by omega)⟩
  have e := (h3 j x q hx hq).1
  refine idx_agg tyXH encX_len (by omega) (h1.up hb) hi hx fun ad hc => ?_
  have := hc 0 (.int .i64 x.1) rfl
  rw [add_zero] at this
  exact rd_cell (by kernel_rfl) this rfl (by rw [e]; exact hk)
theorem StAt.colsB {l : Hdr} {Q : List (Nat × List St)} (H : StAt w l Q) (hb : bel w w') (hi : i = (j : Int)) {q : Nat × List St} (hq : Q[j]? = some q) {K : Hdr → Prop} (hk : ∀ y, ColsSt w y q.2 → K y) :
    rdp Tryz.prog (Instr.indexAt 43 (.slice l.1 l.2.1 l.2.2) (.int kk i)) (.one .addr) fun ad => rd Tryz.prog (Instr.loadAt 77 (.pointer (some (ad.add 1)))) (.one .slice) w' K := by
  have hl := H.len
  have hjl := (List.getElem?_eq_some_iff.1 hq).1
  obtain ⟨L, h1, h2, h3⟩ := H
  obtain ⟨x, hx⟩ : ∃ x, L[j]? = some x := ⟨_, List.getElem?_eq_getElem (by omega)⟩
  exact idx_agg tyXH encX_len (by omega) (h1.up hb) hi hx fun ad hc => rd_cell (by kernel_rfl) (hc 1 _ rfl) rfl (hk x.2.1 (h3 j x q hx hq).2)
theorem ColsSt.atB {h : Hdr} {ss : List St} (H : ColsSt w h ss) (hb : bel w w') (hi : i = (j : Int)) {s : St} (hs : ss[j]? = some s) {K : CH → Prop} (hk : ∀ c, CsAt w c s → K c) :
    rdp Tryz.prog (Instr.indexAt 77 (.slice h.1 h.2.1 h.2.2) (.int kk i)) (.one .addr) fun ad => rd Tryz.prog (Instr.loadAt 82 (.pointer (some ad))) (.agg [.int .i64, .slice, .slice, .slice, .int .i64]) w' K := by
  have hl := H.len
  have hjl := (List.getElem?_eq_some_iff.1 hs).1
  obtain ⟨L, h1, h2, h3⟩ := H
  obtain ⟨x, hx⟩ : ∃ x, L[j]? = some x := ⟨_, List.getElem?_eq_getElem (by omega)⟩
  exact at_agg tyCH (by kernel_rfl) encCH_len (by omega) (h1.sl.up hb) hi hx rfl (hk x (h3 j x s hx hs))
end
theorem st_small {p : Int × Bool} {Rs : Rows} {c : Nat} {th : Int} {s : St} (S : StOk p Rs c th s) (h20 : Rs.length ≤ 20) : s.nulls + s.other + s.cnts.sum ≤ 20 := by rw [S.sum]; exact h20
section
variable {w : World} {ch : CH} {s : St} {p : Int × Bool} {Rs : Rows} {c k i : Nat} {th : Int}
theorem formed1P (C : CsAt w ch s) (S : StOk p Rs c th s) (h20 : Rs.length ≤ 20) :
    call Tryz.prog 101 [.int .i64 (i : Int), .agg (encC (nm 99 k, p.1, p.2)).toArray, .int .i64 (Rs.length : Int), .agg (encCH ch).toArray] (.one (.one (.int .i64))) w (fun (r : Int) w' => r = 0 ∧ bel w w') := by
  have hsm := st_small S h20
  have hcl := cnts_le S.pos
  have hvl : ch.2.2.1.2.1 = s.vals.length := by have := RowAt.len C.vals.sl; omega
  have hkl : ch.2.2.2.1.2.1 = s.cnts.length := by have := C.cnts.sl.int; simp at this; omega
  refine call_of (S101_calls (i : Int) (nm 99 k) p.1 p.2 Rs.length ch.1 ch.2.1.1 ch.2.1.2.1 ch.2.1.2.2 ch.2.2.1.1 ch.2.2.1.2.1 ch.2.2.1.2.2 ch.2.2.2.1.1 ch.2.2.2.1.2.1 ch.2.2.2.1.2.2 ch.2.2.2.2.1 w _ ?_)
  unfold S101
  refine wr_box fun x1 w2 X1 h2 _ _ => ?_
  refine wr_box fun x3 w4 X3 h4 _ _ => ?_
  replace X3 : Box w4 x3 (encCH ch) := X3
  have hb := h2.trans h4
  refine rd_box (by kernel_rfl) X3 (i := 2) rfl rfl ?_
  refine rd_box (by kernel_rfl) X3 (i := 3) rfl rfl ?_
  refine br_ne (fun e => by dsimp only at e; have := S.len; omega) (fun _ => ?_)
  refine rd_boxN X3 (by kernel_rfl) rfl ?_
  refine call_mono (numbersP (C.up hb) (by omega)) ?_
  rintro (x8 : Hdr) w9 ⟨N, h9⟩
  have hsum : (numsOf s).sum = Rs.length := by
    have := S.sum
    unfold numsOf
    simp only [List.sum_cons]; omega
  have hN := addsP N (by rw [hsum]; omega) (by unfold numsOf; simp; omega)
  rw [hsum] at hN
  refine call_mono hN ?_
  rintro b w11 ⟨rfl, h11⟩
  exact br_f rfl ⟨(0 : Int), rfl, rfl, (hb.trans h9).trans h11⟩
set_option maxHeartbeats 800000 in
theorem typedP (C : CsAt w ch s) (S : StOk p Rs c th s) (h20 : Rs.length ≤ 20) :
    call Tryz.prog 63 [.int .i64 (i : Int), .agg (encC (nm 99 k, p.1, p.2)).toArray, .int .i64 (Rs.length : Int), .agg (encCH ch).toArray] (.one (.one (.int .i64))) w (fun (r : Int) w' => r = 0 ∧ bel w w') := by
  have hsm := st_small S h20
  have hcl := cnts_le S.pos
  have hbn : ch.2.1.2.1 = 0 := by rw [C.bins]
  have hvl : ch.2.2.1.2.1 = s.vals.length := by have := RowAt.len C.vals.sl; omega
  have hln := S.len
  refine call_of (S63_calls (i : Int) (nm 99 k) p.1 p.2 Rs.length ch.1 ch.2.1.1 ch.2.1.2.1 ch.2.1.2.2 ch.2.2.1.1 ch.2.2.1.2.1 ch.2.2.1.2.2 ch.2.2.2.1.1 ch.2.2.2.1.2.1 ch.2.2.2.1.2.2 ch.2.2.2.2.1 w _ ?_)
  unfold S63
  refine wr_box fun x1 w2 X1 h2 _ _ => ?_
  refine wr_box fun x3 w4 X3 h4 _ _ => ?_
  replace X1 : Box w4 x1 (encC (nm 99 k, p.1, p.2)) := Box.up (show Box w2 x1 (encC (nm 99 k, p.1, p.2)) from X1) h4
  replace X3 : Box w4 x3 (encCH ch) := X3
  have hb := h2.trans h4
  refine join_mk (fun s' w' => s'.1 = false ∧ bel w4 w') (fun K hK => ?_) ?_
  · refine br_dec (fun e => absurd e (by omega)) (fun _ => ?_)
    refine rd_boxN X3 (by kernel_rfl) rfl ?_
    refine call_mono (numbersP (C.up hb) (by omega)) ?_
    rintro (x9 : Hdr) w10 ⟨N, h10⟩
    have hnl : x9.2.1 = (numsOf s).length := by have := N.int; simp at this; omega
    have hn3 : (numsOf s).length = s.cnts.length + 2 := rfl
    refine call_mono (r := .one (.one .bool)) (Q := fun (b : Bool) w' => b = false ∧ bel w10 w') (call_of (S47t_calls x9.1 x9.2.1 x9.2.2 w10 _ ?_)) ?_
    · unfold S47t
      refine call_mono (r := .one (.one (.int .i64))) (Q := RIdx (fun _ => false) x9.2.1 w10) (call_of (S87t_calls x9.1 x9.2.1 x9.2.2 w10 _ ?_)) ?_
      · unfold S87t
        refine scanC (vs := .one (.int .i64)) (fargs := fun z : Int => [.int .i64 z]) _ (by omega) (fun j hj w' hb' K hK => ?_)
        refine at_int tyI (by kernel_rfl) (N.up hb') (j := j) rfl (by omega) fun y hy => ?_
        obtain ⟨n, rfl⟩ : ∃ n : Nat, y = (n : Int) := by
          rw [List.getElem?_map] at hy
          obtain ⟨n, _, e⟩ := Option.map_eq_some_iff.1 hy
          exact ⟨n, e.symm⟩
        refine call_of (S105_calls (n : Int) w' _ ?_)
        unfold S105
        refine ⟨false, ?_, hK _ (bel.refl _)⟩
        rw [decide_eq_false (by omega)]; rfl
      · rintro r w' ⟨hr, hb⟩
        exact ⟨_, rfl, by rw [hr]; exact any_none fun _ _ => rfl, hb⟩
    rintro b w12 ⟨rfl, h12⟩
    have hb12 := h10.trans h12
    refine br_f rfl ?_
    refine rd_box (by kernel_rfl) (X3.up hb12) (i := 2) rfl rfl ?_
    refine call_mono (r := .one (.one .bool)) (Q := fun (b : Bool) w' => b = false ∧ bel w12 w') (call_of (S106t_calls ch.2.2.1.1 ch.2.2.1.2.1 ch.2.2.1.2.2 x1 w12 _ ?_)) ?_
    · unfold S106t
      refine call_mono (r := .one (.one (.int .i64))) (Q := RIdx (fun _ => false) ch.2.2.1.2.1 w12) (call_of (S173t_calls ch.2.2.1.1 ch.2.2.1.2.1 ch.2.2.1.2.2 x1 w12 _ ?_)) ?_
      · unfold S173t
        refine scanC (vs := .agg [.int .i64, .int .i64, .str]) (fargs := fun z => [.agg #[.int .i64 z.1, .int .i64 z.2.1, .string z.2.2.1], .pointer (some x1)]) _ (by omega) (fun j hj w' hb' K hK => ?_)
        refine row_at ((C.vals.sl.up (hb.trans hb12)).up hb') rfl (by omega) fun q hq => ?_
        obtain ⟨V, hk⟩ := S.val q (List.mem_of_getElem? hq)
        refine call_of (S107_calls q.1 q.2.1 q.2.2 x1 w' _ ?_)
        unfold S107
        refine wr_box fun y1 w5 Y1 h5 _ _ => ?_
        replace Y1 : Box w5 y1 (encV q) := Y1
        refine rd_boxN Y1 (by kernel_rfl) rfl ?_
        refine call_mono (vvalidP q V.small' w5) ?_
        rintro b w6 ⟨rfl, h6⟩
        refine br_f rfl ?_
        refine rd_box0 (by kernel_rfl) (Y1.up h6) rfl rfl ?_
        refine rd_box (by kernel_rfl) (((X1.up hb12).up hb').up (h5.trans h6)) (i := 1) rfl rfl ?_
        refine ⟨false, ?_, hK _ (h5.trans h6)⟩
        rw [hk]; simp [RS.val, VS.val, Sh.val]
      · rintro r w' ⟨hr, hb⟩
        exact ⟨_, rfl, by rw [hr]; exact any_none fun _ _ => rfl, hb⟩
    rintro b w15 ⟨rfl, h15⟩
    have hb15 := hb12.trans h15
    have bins : ∀ w1, bel w4 w1 → rd Tryz.prog (Instr.loadAt 80 (.pointer (some (x3.add 1)))) (.one .slice) w1 fun (x21 : Hdr) => call Tryz.prog 109 [.slice x21.1 x21.2.1 x21.2.2, .func (.func 110) #[] #[]] (.one (.one .bool)) w1 fun (x22 : Bool) w23 => K (x22, ()) w23 := by
      intro w1 hw1
      refine rd_box (by kernel_rfl) (X3.up hw1) (i := 1) rfl rfl ?_
      refine call_mono (r := .one (.one .bool)) (Q := fun (b : Bool) w' => b = false ∧ bel w1 w') (call_of (S109t_calls ch.2.1.1 ch.2.1.2.1 ch.2.1.2.2 w1 _ ?_)) ?_
      · unfold S109t
        refine call_mono (r := .one (.one (.int .i64))) (Q := RIdx (fun _ => false) ch.2.1.2.1 w1) (call_of (S175t_calls ch.2.1.1 ch.2.1.2.1 ch.2.1.2.2 w1 _ ?_)) ?_
        · unfold S175t
          refine scanC (vs := .agg [.int .i64, .int .i64, .int .i64]) (fargs := fun z => [.agg #[.int .i64 z.1, .int .i64 z.2.1, .int .i64 z.2.2.1]]) _ (by omega) (fun j hj w' hb' K hK => by omega)
        · rintro r w' ⟨hr, hb⟩
          exact ⟨_, rfl, by rw [hr]; exact any_none fun _ _ => rfl, hb⟩
      · rintro b w' ⟨rfl, hb'⟩
        exact hK _ _ ⟨rfl, hw1.trans hb'⟩
    refine br_f rfl ?_
    refine rd_box (by kernel_rfl) (X3.up hb15) (i := 1) rfl rfl ?_
    refine br_dec (fun e => by dsimp only at e; omega) (fun _ => ?_)
    refine rd_box0 (by kernel_rfl) (X3.up hb15) rfl rfl ?_
    refine br_dec (fun e => ?_) (fun _ => bins _ hb15)
    have hnul := S.nul (by have := C.nulls; omega)
    refine rd_box (by kernel_rfl) (X1.up hb15) (i := 2) rfl rfl ?_
    dsimp only
    rw [hnul]
    exact br_f rfl (bins _ hb15)
  · rintro ⟨s', u⟩ w7 ⟨hs, h7⟩ _
    dsimp only at hs
    subst hs
    exact br_f rfl ⟨(0 : Int), rfl, rfl, hb.trans h7⟩
def OthOk (p : Int × Bool) (s : St) : Prop := 0 < s.other → p.2 = true ∨ 0 < s.cnts.sum
theorem possible4P (C : CsAt w ch s) (S : StOk p Rs c th s) (h20 : Rs.length ≤ 20) :
    call Tryz.prog 64 [.int .i64 (i : Int), .agg (encC (nm 99 k, p.1, p.2)).toArray, .int .i64 (Rs.length : Int), .agg (encCH ch).toArray] (.one (.one (.int .i64))) w (fun (r : Int) w' => (r = 0 ∧ OthOk p s ∨ r = 12) ∧ bel w w') := by
  have hsm := st_small S h20
  refine call_of (S64_calls (i : Int) (nm 99 k) p.1 p.2 Rs.length ch.1 ch.2.1.1 ch.2.1.2.1 ch.2.1.2.2 ch.2.2.1.1 ch.2.2.1.2.1 ch.2.2.1.2.2 ch.2.2.2.1.1 ch.2.2.2.1.2.1 ch.2.2.2.1.2.2 ch.2.2.2.2.1 w _ ?_)
  unfold S64
  refine wr_box fun x1 w2 X1 h2 _ _ => ?_
  refine wr_box fun x3 w4 X3 h4 _ _ => ?_
  replace X1 : Box w4 x1 (encC (nm 99 k, p.1, p.2)) := Box.up (show Box w2 x1 (encC (nm 99 k, p.1, p.2)) from X1) h4
  replace X3 : Box w4 x3 (encCH ch) := X3
  have hb := h2.trans h4
  have ho := C.other
  refine rd_box (by kernel_rfl) X3 (i := 4) rfl rfl ?_
  refine br_dec (fun e => ?_) (fun e => ⟨(0 : Int), rfl, .inl ⟨rfl, fun h => by omega⟩, hb⟩)
  refine rd_box (by kernel_rfl) X1 (i := 2) rfl rfl ?_
  refine br_mk (fun e2 => ?_) (fun e2 => ⟨(0 : Int), rfl, .inl ⟨rfl, fun _ => .inl (by simpa using e2)⟩, hb⟩)
  refine rd_boxN X3 (by kernel_rfl) rfl ?_
  refine call_mono (namedP (C.up hb) S.len S.pos (by omega)) ?_
  rintro (x8 : Hdr) w9 ⟨h9, L, N, O⟩
  have hxl : x8.2.1 = L.length := by have := O.1; rw [flat_len encV_len] at this; omega
  have hNl := N.len
  refine br_eq (fun e3 => ⟨(12 : Int), rfl, .inr rfl, hb.trans h9⟩) (fun e3 => ⟨(0 : Int), rfl, .inl ⟨rfl, fun _ => .inr (by omega)⟩, hb.trans h9⟩)
end
end Go.Proofs.YtcfghfmlfgaeaaaGreatDoor

/- Package privacy: each column is looked at; what is possible. -/

namespace Go.Proofs.YtcfghfmlfgaeaaaGreatDoor
open Go.RowKit Go.Q Go.V Go.Bag Go.Shelf

set_option maxHeartbeats 800000 in
theorem eachtP {w : World} {h l : Hdr} {D : List TPar} {I : List Rows} {th : Int} {Q : List (Nat × List St)} (H : SchAt w h D) (hD : OkD D) (oI : OkI D I) (SA : StAt w l Q) (QO : QOk D I th Q) :
    call Tryz.prog 62 [.agg #[.slice h.1 h.2.1 h.2.2], .slice l.1 l.2.1 l.2.2, .func (.func 63) #[] #[]] (.one (.one (.int .i64))) w (fun (r : Int) w' => r = 0 ∧ bel w w') := by
  have hl := H.len
  have hd2 := hD.d2
  refine call_of (S62t_calls h.1 h.2.1 h.2.2 l.1 l.2.1 l.2.2 w _ ?_)
  unfold S62t
  refine wr_box fun x1 w2 X1 h2 _ _ => ?_
  replace X1 : Box w2 x1 [.slice h.1 h.2.1 h.2.2] := X1
  refine rd_box0 (by kernel_rfl) X1 rfl rfl ?_
  refine loop_up D.length (fun i w' => bel w2 w' ∧ True) ⟨bel.refl _, trivial⟩ fun i w6 hi ⟨hb, _⟩ again hag _ => ?_
  refine br_dec (fun e => ?_) (fun e => ?_)
  · dsimp only at e
    have hi' : i < D.length := by omega
    refine (H.up h2).atB hb rfl hi' fun x t ht T => ?_
    have ok := hD.each i t ht
    have hnc := T.nc
    have hle := nc_le ok
    obtain ⟨Rs, hRs⟩ : ∃ Rs, I[i]? = some Rs := ⟨_, List.getElem?_eq_getElem (by rw [oI.len]; exact hi')⟩
    obtain ⟨q, hq⟩ : ∃ q, Q[i]? = some q := ⟨_, List.getElem?_eq_getElem (by rw [QO.len]; exact hi')⟩
    obtain ⟨e1, e2, hS⟩ := QO.at_ i t Rs q ht hRs hq
    have h20 := okI_few oI hRs
    refine var_mk (z := .agg zTb.toArray) (v := tbv x) (by kernel_rfl) (by kernel_rfl) rfl rfl fun x9 w11 X9 h11 _ => ?_
    replace X9 : Box w11 x9 (tbc x) := X9
    have hb11 := hb.trans h11
    refine rd_box (by kernel_rfl) X9 (i := 1) rfl rfl ?_
    refine loop_up t.nc (fun c w' => bel w11 w' ∧ True) ⟨bel.refl _, trivial⟩ fun c w15 hc ⟨hb15, _⟩ again2 hag2 _ => ?_
    refine br_dec (fun e => ?_) (fun e => ?_)
    · dsimp only at e
      have hc' : c < t.nc := by omega
      refine join_mk (fun _ w' => bel w11 w' ∧ True) (fun K hK => ?_) ?_
      · obtain ⟨col, hcol⟩ : ∃ col, t.cols[c]? = some col := ⟨_, List.getElem?_eq_getElem (by rw [cols_len]; omega)⟩
        have hbt := hb11.trans hb15
        refine ColsAt.at (T.cols.up hbt) rfl hcol ?_
        refine var_mk (z := .agg #[.string ByteArray.empty, .int .i64 0, .bool false]) (v := .agg (encC col).toArray) (by kernel_rfl) (by kernel_rfl) rfl rfl fun x22 w24 X22 h24 _ => ?_
        replace X22 : Box w24 x22 (encC col) := X22
        refine rd_boxN ((X9.up hb15).up h24) (by kernel_rfl) rfl ?_
        refine call_mono (freeP ((T.up hbt).up h24) ok hc') ?_
        rintro b w27 ⟨rfl, h27⟩
        have hb27 := (hb15.trans h24).trans h27
        refine br_mk (fun _ => ?_) (fun e3 => ?_)
        · refine hK _ _ ⟨hb27, trivial⟩
        · have hfr : isFree t c = true := by simpa using e3
          unfold isFree at hfr
          have hfr2 := of_decide_eq_true hfr
          obtain ⟨k, rfl⟩ : ∃ k, c = 1 + k := ⟨c - 1, by omega⟩
          obtain ⟨p, hp⟩ : ∃ p, t.free[k]? = some p := ⟨_, List.getElem?_eq_getElem (by have : t.nf = t.free.length := rfl; omega)⟩
          obtain ⟨s, hs⟩ : ∃ s, q.2[1 + k]? = some s := ⟨_, List.getElem?_eq_getElem (by omega)⟩
          have S := hS k p s hp hs
          obtain rfl : col = (nm 99 k, p.1, p.2) := by rw [cols_free hp] at hcol; cases hcol; rfl
          refine drw_mk fun w28 h28 _ => ?_
          have hb28 := hb27.trans h28
          have hbb := (h2.trans hb11).trans hb28
          refine rd_boxN ((X22.up h27).up h28) (by kernel_rfl) rfl ?_
          refine SA.rows hbb rfl hq ?_
          refine SA.colsB hbb rfl hq fun y Y => ?_
          refine Y.atB hbb rfl hs fun ch C => ?_
          rw [e1]
          refine call_mono (typedP (C.up hbb) S h20) ?_
          rintro r w37 ⟨hr, h37⟩
          have hb37 := hb28.trans h37
          subst hr
          exact br_f rfl (hK _ _ ⟨hb37, trivial⟩)
      · rintro _ w18 ⟨hb, _⟩ _
        refine z_i64 (by omega) ?_
        exact hag2 _ hc' ⟨hb, trivial⟩
    · refine z_i64 (by dsimp only; omega) ?_
      exact hag _ hi' ⟨hb11.trans hb15, trivial⟩
  · exact ⟨(0 : Int), rfl, rfl, h2.trans hb⟩
set_option maxHeartbeats 800000 in
theorem eachfP {w : World} {h l : Hdr} {D : List TPar} {I : List Rows} {th : Int} {Q : List (Nat × List St)} (H : SchAt w h D) (hD : OkD D) (oI : OkI D I) (SA : StAt w l Q) (QO : QOk D I th Q) :
    call Tryz.prog 62 [.agg #[.slice h.1 h.2.1 h.2.2], .slice l.1 l.2.1 l.2.2, .func (.func 101) #[] #[]] (.one (.one (.int .i64))) w (fun (r : Int) w' => r = 0 ∧ bel w w') := by
  have hl := H.len
  have hd2 := hD.d2
  refine call_of (S62f_calls h.1 h.2.1 h.2.2 l.1 l.2.1 l.2.2 w _ ?_)
  unfold S62f
  refine wr_box fun x1 w2 X1 h2 _ _ => ?_
  replace X1 : Box w2 x1 [.slice h.1 h.2.1 h.2.2] := X1
  refine rd_box0 (by kernel_rfl) X1 rfl rfl ?_
  refine loop_up D.length (fun i w' => bel w2 w' ∧ True) ⟨bel.refl _, trivial⟩ fun i w6 hi ⟨hb, _⟩ again hag _ => ?_
  refine br_dec (fun e => ?_) (fun e => ?_)
  · dsimp only at e
    have hi' : i < D.length := by omega
    refine (H.up h2).atB hb rfl hi' fun x t ht T => ?_
    have ok := hD.each i t ht
    have hnc := T.nc
    have hle := nc_le ok
    obtain ⟨Rs, hRs⟩ : ∃ Rs, I[i]? = some Rs := ⟨_, List.getElem?_eq_getElem (by rw [oI.len]; exact hi')⟩
    obtain ⟨q, hq⟩ : ∃ q, Q[i]? = some q := ⟨_, List.getElem?_eq_getElem (by rw [QO.len]; exact hi')⟩
    obtain ⟨e1, e2, hS⟩ := QO.at_ i t Rs q ht hRs hq
    have h20 := okI_few oI hRs
    refine var_mk (z := .agg zTb.toArray) (v := tbv x) (by kernel_rfl) (by kernel_rfl) rfl rfl fun x9 w11 X9 h11 _ => ?_
    replace X9 : Box w11 x9 (tbc x) := X9
    have hb11 := hb.trans h11
    refine rd_box (by kernel_rfl) X9 (i := 1) rfl rfl ?_
    refine loop_up t.nc (fun c w' => bel w11 w' ∧ True) ⟨bel.refl _, trivial⟩ fun c w15 hc ⟨hb15, _⟩ again2 hag2 _ => ?_
    refine br_dec (fun e => ?_) (fun e => ?_)
    · dsimp only at e
      have hc' : c < t.nc := by omega
      refine join_mk (fun _ w' => bel w11 w' ∧ True) (fun K hK => ?_) ?_
      · obtain ⟨col, hcol⟩ : ∃ col, t.cols[c]? = some col := ⟨_, List.getElem?_eq_getElem (by rw [cols_len]; omega)⟩
        have hbt := hb11.trans hb15
        refine ColsAt.at (T.cols.up hbt) rfl hcol ?_
        refine var_mk (z := .agg #[.string ByteArray.empty, .int .i64 0, .bool false]) (v := .agg (encC col).toArray) (by kernel_rfl) (by kernel_rfl) rfl rfl fun x22 w24 X22 h24 _ => ?_
        replace X22 : Box w24 x22 (encC col) := X22
        refine rd_boxN ((X9.up hb15).up h24) (by kernel_rfl) rfl ?_
        refine call_mono (freeP ((T.up hbt).up h24) ok hc') ?_
        rintro b w27 ⟨rfl, h27⟩
        have hb27 := (hb15.trans h24).trans h27
        refine br_mk (fun _ => ?_) (fun e3 => ?_)
        · refine hK _ _ ⟨hb27, trivial⟩
        · have hfr : isFree t c = true := by simpa using e3
          unfold isFree at hfr
          have hfr2 := of_decide_eq_true hfr
          obtain ⟨k, rfl⟩ : ∃ k, c = 1 + k := ⟨c - 1, by omega⟩
          obtain ⟨p, hp⟩ : ∃ p, t.free[k]? = some p := ⟨_, List.getElem?_eq_getElem (by have : t.nf = t.free.length := rfl; omega)⟩
          obtain ⟨s, hs⟩ : ∃ s, q.2[1 + k]? = some s := ⟨_, List.getElem?_eq_getElem (by omega)⟩
          have S := hS k p s hp hs
          obtain rfl : col = (nm 99 k, p.1, p.2) := by rw [cols_free hp] at hcol; cases hcol; rfl
          refine drw_mk fun w28 h28 _ => ?_
          have hb28 := hb27.trans h28
          have hbb := (h2.trans hb11).trans hb28
          refine rd_boxN ((X22.up h27).up h28) (by kernel_rfl) rfl ?_
          refine SA.rows hbb rfl hq ?_
          refine SA.colsB hbb rfl hq fun y Y => ?_
          refine Y.atB hbb rfl hs fun ch C => ?_
          rw [e1]
          refine call_mono (formed1P (C.up hbb) S h20) ?_
          rintro r w37 ⟨hr, h37⟩
          have hb37 := hb28.trans h37
          subst hr
          exact br_f rfl (hK _ _ ⟨hb37, trivial⟩)
      · rintro _ w18 ⟨hb, _⟩ _
        refine z_i64 (by omega) ?_
        exact hag2 _ hc' ⟨hb, trivial⟩
    · refine z_i64 (by dsimp only; omega) ?_
      exact hag _ hi' ⟨hb11.trans hb15, trivial⟩
  · exact ⟨(0 : Int), rfl, rfl, h2.trans hb⟩
set_option maxHeartbeats 800000 in
theorem eachpP {w : World} {h l : Hdr} {D : List TPar} {I : List Rows} {th : Int} {Q : List (Nat × List St)} (H : SchAt w h D) (hD : OkD D) (oI : OkI D I) (SA : StAt w l Q) (QO : QOk D I th Q) :
    call Tryz.prog 62 [.agg #[.slice h.1 h.2.1 h.2.2], .slice l.1 l.2.1 l.2.2, .func (.func 64) #[] #[]] (.one (.one (.int .i64))) w (fun (r : Int) w' => (r = 0 ∧ (∀ (i : Nat) t q (k : Nat) p s, D[i]? = some t → Q[i]? = some q → t.free[k]? = some p → q.2[1 + k]? = some s → OthOk p s) ∨ r = 12) ∧ bel w w') := by
  have hl := H.len
  have hd2 := hD.d2
  refine call_of (S62p_calls h.1 h.2.1 h.2.2 l.1 l.2.1 l.2.2 w _ ?_)
  unfold S62p
  refine wr_box fun x1 w2 X1 h2 _ _ => ?_
  replace X1 : Box w2 x1 [.slice h.1 h.2.1 h.2.2] := X1
  refine rd_box0 (by kernel_rfl) X1 rfl rfl ?_
  refine loop_up D.length (fun i w' => bel w2 w' ∧ ∀ (j : Nat) t q (k : Nat) p s, j < i → D[j]? = some t → Q[j]? = some q → t.free[k]? = some p → q.2[1 + k]? = some s → OthOk p s) ⟨bel.refl _, fun j t q k p s h => by omega⟩ fun i w6 hi ⟨hb, hA⟩ again hag _ => ?_
  refine br_dec (fun e => ?_) (fun e => ?_)
  · dsimp only at e
    have hi' : i < D.length := by omega
    refine (H.up h2).atB hb rfl hi' fun x t ht T => ?_
    have ok := hD.each i t ht
    have hnc := T.nc
    have hle := nc_le ok
    obtain ⟨Rs, hRs⟩ : ∃ Rs, I[i]? = some Rs := ⟨_, List.getElem?_eq_getElem (by rw [oI.len]; exact hi')⟩
    obtain ⟨q, hq⟩ : ∃ q, Q[i]? = some q := ⟨_, List.getElem?_eq_getElem (by rw [QO.len]; exact hi')⟩
    obtain ⟨e1, e2, hS⟩ := QO.at_ i t Rs q ht hRs hq
    have h20 := okI_few oI hRs
    refine var_mk (z := .agg zTb.toArray) (v := tbv x) (by kernel_rfl) (by kernel_rfl) rfl rfl fun x9 w11 X9 h11 _ => ?_
    replace X9 : Box w11 x9 (tbc x) := X9
    have hb11 := hb.trans h11
    refine rd_box (by kernel_rfl) X9 (i := 1) rfl rfl ?_
    refine loop_up t.nc (fun c w' => bel w11 w' ∧ ∀ (k : Nat) p s, 1 + k < c → t.free[k]? = some p → q.2[1 + k]? = some s → OthOk p s) ⟨bel.refl _, fun k p s h => by omega⟩ fun c w15 hc ⟨hb15, hA2⟩ again2 hag2 _ => ?_
    refine br_dec (fun e => ?_) (fun e => ?_)
    · dsimp only at e
      have hc' : c < t.nc := by omega
      refine join_mk (fun _ w' => bel w11 w' ∧ ∀ (k : Nat) p s, 1 + k < c + 1 → t.free[k]? = some p → q.2[1 + k]? = some s → OthOk p s) (fun K hK => ?_) ?_
      · obtain ⟨col, hcol⟩ : ∃ col, t.cols[c]? = some col := ⟨_, List.getElem?_eq_getElem (by rw [cols_len]; omega)⟩
        have hbt := hb11.trans hb15
        refine ColsAt.at (T.cols.up hbt) rfl hcol ?_
        refine var_mk (z := .agg #[.string ByteArray.empty, .int .i64 0, .bool false]) (v := .agg (encC col).toArray) (by kernel_rfl) (by kernel_rfl) rfl rfl fun x22 w24 X22 h24 _ => ?_
        replace X22 : Box w24 x22 (encC col) := X22
        refine rd_boxN ((X9.up hb15).up h24) (by kernel_rfl) rfl ?_
        refine call_mono (freeP ((T.up hbt).up h24) ok hc') ?_
        rintro b w27 ⟨rfl, h27⟩
        have hb27 := (hb15.trans h24).trans h27
        refine br_mk (fun e1 => ?_) (fun e3 => ?_)
        · refine hK _ _ ⟨hb27, fun k p s h1 h2 h3 => hA2 k p s (by
            have hk := (List.getElem?_eq_some_iff.1 h2).1
            have hnf : isFree t c = false := by simpa using e1
            unfold isFree at hnf
            have := of_decide_eq_false hnf
            have : t.nf = t.free.length := rfl
            omega) h2 h3⟩
        · have hfr : isFree t c = true := by simpa using e3
          unfold isFree at hfr
          have hfr2 := of_decide_eq_true hfr
          obtain ⟨k, rfl⟩ : ∃ k, c = 1 + k := ⟨c - 1, by omega⟩
          obtain ⟨p, hp⟩ : ∃ p, t.free[k]? = some p := ⟨_, List.getElem?_eq_getElem (by have : t.nf = t.free.length := rfl; omega)⟩
          obtain ⟨s, hs⟩ : ∃ s, q.2[1 + k]? = some s := ⟨_, List.getElem?_eq_getElem (by omega)⟩
          have S := hS k p s hp hs
          obtain rfl : col = (nm 99 k, p.1, p.2) := by rw [cols_free hp] at hcol; cases hcol; rfl
          refine drw_mk fun w28 h28 _ => ?_
          have hb28 := hb27.trans h28
          have hbb := (h2.trans hb11).trans hb28
          refine rd_boxN ((X22.up h27).up h28) (by kernel_rfl) rfl ?_
          refine SA.rows hbb rfl hq ?_
          refine SA.colsB hbb rfl hq fun y Y => ?_
          refine Y.atB hbb rfl hs fun ch C => ?_
          rw [e1]
          refine call_mono (possible4P (C.up hbb) S h20) ?_
          rintro r w37 ⟨hr, h37⟩
          have hb37 := hb28.trans h37
          rcases hr with ⟨rfl, hO⟩ | rfl
          · refine br_f rfl (hK _ _ ⟨hb37, fun k' p' s' h1 h2 h3 => ?_⟩)
            by_cases hkk : k' = k
            · subst hkk
              rw [hp] at h2; cases h2
              rw [hs] at h3; cases h3
              exact hO
            · exact hA2 k' p' s' (by omega) h2 h3
          · exact br_t rfl ⟨(12 : Int), rfl, .inr rfl, (h2.trans hb11).trans hb37⟩
      · rintro _ w18 ⟨hb, hA⟩ _
        refine z_i64 (by omega) ?_
        exact hag2 _ hc' ⟨hb, hA⟩
    · dsimp only at e
      have hcn : c = t.nc := by omega
      refine z_i64 (by dsimp only; omega) ?_
      exact hag _ hi' ⟨hb11.trans hb15, fun j t' q' k p s h1 h2 h3 h4 h5 => by
        by_cases hji : j = i
        · subst hji
          rw [ht] at h2; cases h2
          rw [hq] at h3; cases h3
          exact hA2 k p s (by have := (List.getElem?_eq_some_iff.1 h4).1; have : t.nc = 1 + t.free.length + t.tos.length := rfl; omega) h4 h5
        · exact hA j t' q' k p s (by omega) h2 h3 h4 h5⟩
  · have hiD : i = D.length := by dsimp only at e; omega
    exact ⟨(0 : Int), rfl, .inl ⟨rfl, fun j t q k p s h1 h2 h3 h4 => hA j t q k p s (by have := (List.getElem?_eq_some_iff.1 h1).1; omega) h1 h2 h3 h4⟩, h2.trans hb⟩
section
variable {w : World} {h l : Hdr} {D : List TPar} {I : List Rows} {th : Int} {Q : List (Nat × List St)}
theorem formedP (H : SchAt w h D) (hD : OkD D) (oI : OkI D I) (SA : StAt w l Q) (QO : QOk D I th Q) :
    call Tryz.prog 58 [.agg #[.slice h.1 h.2.1 h.2.2], .slice l.1 l.2.1 l.2.2] (.one (.one (.int .i64))) w (fun (r : Int) w' => r = 0 ∧ bel w w') := by
  have hl := H.len
  have hd2 := hD.d2
  have hll := SA.len
  have hql := QO.len
  refine call_of (S58_calls h.1 h.2.1 h.2.2 l.1 l.2.1 l.2.2 w _ ?_)
  unfold S58
  refine wr_box fun x1 w2 X1 h2 _ _ => ?_
  replace X1 : Box w2 x1 [.slice h.1 h.2.1 h.2.2] := X1
  refine rd_box0 (by kernel_rfl) X1 rfl rfl ?_
  refine br_ne (fun e => by dsimp only at e; omega) (fun _ => ?_)
  refine rd_box0 (by kernel_rfl) X1 rfl rfl ?_
  refine loop_up D.length (fun _ w' => bel w2 w') (bel.refl _) fun i w7 hi hb again hag _ => ?_
  refine br_dec (fun e => ?_) (fun e => ?_)
  · dsimp only at e
    have hi' : i < D.length := by omega
    refine (H.up h2).atB hb rfl hi' fun x t ht T => ?_
    have hnc := T.nc
    obtain ⟨Rs, hRs⟩ : ∃ Rs, I[i]? = some Rs := ⟨_, List.getElem?_eq_getElem (by rw [oI.len]; exact hi')⟩
    obtain ⟨q, hq⟩ : ∃ q, Q[i]? = some q := ⟨_, List.getElem?_eq_getElem (by omega)⟩
    obtain ⟨_, e2, _⟩ := QO.at_ i t Rs q ht hRs hq
    refine var_mk (z := .agg zTb.toArray) (v := tbv x) (by kernel_rfl) (by kernel_rfl) rfl rfl fun x10 w12 X10 h12 _ => ?_
    replace X10 : Box w12 x10 (tbc x) := X10
    refine drw_mk fun w13 h13 _ => ?_
    have hb13 := (hb.trans h12).trans h13
    refine SA.colsB (h2.trans hb13) rfl hq fun y Y => ?_
    have hyl := Y.len
    refine rd_box (by kernel_rfl) (X10.up h13) (i := 1) rfl rfl ?_
    refine br_ne (fun e => by dsimp only at e; omega) (fun _ => ?_)
    refine z_i64 (by dsimp only; omega) ?_
    exact hag _ hi' hb13
  · refine rd_boxN (X1.up hb) (by kernel_rfl) rfl ?_
    refine call_mono (eachfP ((H.up h2).up hb) hD oI (SA.up (h2.trans hb)) QO) ?_
    rintro r w20 ⟨rfl, h20⟩
    exact ⟨(0 : Int), rfl, rfl, (h2.trans hb).trans h20⟩
set_option maxHeartbeats 1600000 in
theorem possibleP (H : SchAt w h D) (hD : OkD D) (hm : ML w) (oI : OkI D I) (SA : StAt w l Q) (QO : QOk D I th Q) :
    call Tryz.prog 28 [.agg #[.slice h.1 h.2.1 h.2.2], .slice l.1 l.2.1 l.2.2] (.one (.one (.int .i64))) w
      (fun (r : Int) w' => (r = 0 ∧ (∀ (i : Nat) t q (k : Nat) p s, D[i]? = some t → Q[i]? = some q → t.free[k]? = some p → q.2[1 + k]? = some s → OthOk p s) ∨ r = 12) ∧ bel w w') := by
  have hl := H.len
  have hd2 := hD.d2
  have hll := SA.len
  have hql := QO.len
  refine call_of (S28_calls h.1 h.2.1 h.2.2 l.1 l.2.1 l.2.2 w _ ?_)
  unfold S28
  refine wr_box fun x1 w2 X1 h2 _ _ => ?_
  replace X1 : Box w2 x1 [.slice h.1 h.2.1 h.2.2] := X1
  refine rd_boxN X1 (by kernel_rfl) rfl ?_
  refine call_mono (PlainP (H.up h2) hD (hm.up h2)) ?_
  rintro b w5 ⟨rfl, h5⟩
  replace X1 := X1.up h5
  have hb5 := h2.trans h5
  refine br_f rfl ?_
  refine rd_box0 (by kernel_rfl) X1 rfl rfl ?_
  refine call_mono (r := .one (.one .bool)) (Q := fun (b : Bool) w' => b = false ∧ bel w5 w') (call_of (S56p_calls h.1 h.2.1 h.2.2 w5 _ ?_)) ?_
  · unfold S56p
    refine call_mono (r := .one (.one (.int .i64))) (Q := RIdx (fun _ => false) h.2.1 w5) (call_of (S100p_calls h.1 h.2.1 h.2.2 w5 _ ?_)) ?_
    · unfold S100p
      refine scanC (vs := .agg [.str, .slice, .slice, .slice, .slice, .slice]) (fargs := fun x => [tbv x]) _ (by omega) (fun i hi w' hb' K hK => ?_)
      refine (H.up hb5).atB hb' rfl (by omega) fun x t ht T => ?_
      have hc := T.chks
      have e5 : x.2.2.2.2.2.1.2.1 = 0 := by rw [hc]
      refine call_of (S57_calls x.1 x.2.1.1 x.2.1.2.1 x.2.1.2.2 x.2.2.1.1 x.2.2.1.2.1 x.2.2.1.2.2 x.2.2.2.1.1 x.2.2.2.1.2.1 x.2.2.2.1.2.2 x.2.2.2.2.1.1 x.2.2.2.2.1.2.1 x.2.2.2.2.1.2.2 x.2.2.2.2.2.1.1 x.2.2.2.2.2.1.2.1 x.2.2.2.2.2.1.2.2 w' _ ?_)
      unfold S57
      refine wr_box fun y1 w3 Y1 h3 _ _ => ?_
      replace Y1 : Box w3 y1 (tbc x) := Y1
      refine rd_box (by kernel_rfl) Y1 (i := 5) rfl rfl ?_
      refine ⟨false, ?_, hK _ h3⟩
      rw [decide_eq_false (by dsimp only; omega)]; rfl
    · rintro r w' ⟨hr, hb⟩
      exact ⟨_, rfl, by rw [hr]; exact any_none fun _ _ => rfl, hb⟩
  rintro b w8 ⟨rfl, h8⟩
  replace X1 := X1.up h8
  have hb8 := hb5.trans h8
  refine br_f rfl ?_
  refine rd_boxN X1 (by kernel_rfl) rfl ?_
  refine call_mono (formedP (H.up hb8) hD oI (SA.up hb8) QO) ?_
  rintro r w11 ⟨rfl, h11⟩
  replace X1 := X1.up h11
  have hb11 := hb8.trans h11
  refine br_f rfl ?_
  have rowsOk : ∀ {j : Nat} {w0 : World}, bel w w0 → j < l.2.1 → ∀ {K : XH → Prop}, (∀ x : XH, 0 ≤ x.1 → x.1 ≤ 20 → K x) → rdp Tryz.prog (Instr.indexAt 43 (.slice l.1 l.2.1 l.2.2) (.int .i64 (j : Int))) (.one .addr) fun ad => rd Tryz.prog (Instr.loadAt 79 (.pointer (some ad))) (.agg [.int .i64, .slice]) w0 K := by
    intro j w0 hb0 hj K hK
    have hjD : j < D.length := by omega
    obtain ⟨t, ht⟩ : ∃ t, D[j]? = some t := ⟨_, List.getElem?_eq_getElem hjD⟩
    obtain ⟨Rs, hRs⟩ : ∃ Rs, I[j]? = some Rs := ⟨_, List.getElem?_eq_getElem (by rw [oI.len]; exact hjD)⟩
    obtain ⟨q, hq⟩ : ∃ q, Q[j]? = some q := ⟨_, List.getElem?_eq_getElem (by omega)⟩
    obtain ⟨e1, _, _⟩ := QO.at_ j t Rs q ht hRs hq
    have h20 := okI_few oI hRs
    obtain ⟨L, q1, q2, q3⟩ := SA
    obtain ⟨x, hx⟩ : ∃ x, L[j]? = some x := ⟨_, List.getElem?_eq_getElem (by omega)⟩
    have ex := (q3 j x q hx hq).1
    exact at_agg tyXH (by kernel_rfl) encX_len (by omega) (q1.up hb0) rfl hx rfl (hK x (by omega) (by omega))
  refine call_mono (r := .one (.one .bool)) (Q := fun (b : Bool) w' => b = false ∧ bel w11 w') (call_of (S59p_calls l.1 l.2.1 l.2.2 w11 _ ?_)) ?_
  · unfold S59p
    refine call_mono (r := .one (.one (.int .i64))) (Q := RIdx (fun _ => false) l.2.1 w11) (call_of (S104p_calls l.1 l.2.1 l.2.2 w11 _ ?_)) ?_
    · unfold S104p
      refine scanC (vs := .agg [.int .i64, .slice]) (fargs := fun z => [.agg #[.int .i64 z.1, .slice z.2.1.1 z.2.1.2.1 z.2.1.2.2]]) _ (by omega) (fun j hj w' hb' K hK => ?_)
      refine rowsOk (hb11.trans hb') hj fun x h0 h1 => ?_
      refine call_of (S60_calls x.1 x.2.1.1 x.2.1.2.1 x.2.1.2.2 w' _ ?_)
      unfold S60
      refine wr_box fun y1 w3 Y1 h3 _ _ => ?_
      replace Y1 : Box w3 y1 (encX x) := Y1
      refine rd_box0 (by kernel_rfl) Y1 rfl rfl ?_
      refine ⟨false, ?_, hK _ h3⟩
      rw [decide_eq_false (by omega)]; rfl
    · rintro r w' ⟨hr, hb⟩
      exact ⟨_, rfl, by rw [hr]; exact any_none fun _ _ => rfl, hb⟩
  rintro b w13 ⟨rfl, h13⟩
  refine br_f rfl ?_
  refine call_mono (r := .one (.one .bool)) (Q := fun (b : Bool) w' => b = false ∧ bel w13 w') (call_of (S59q_calls l.1 l.2.1 l.2.2 w13 _ ?_)) ?_
  · unfold S59q
    refine call_mono (r := .one (.one (.int .i64))) (Q := RIdx (fun _ => false) l.2.1 w13) (call_of (S104q_calls l.1 l.2.1 l.2.2 w13 _ ?_)) ?_
    · unfold S104q
      refine scanC (vs := .agg [.int .i64, .slice]) (fargs := fun z => [.agg #[.int .i64 z.1, .slice z.2.1.1 z.2.1.2.1 z.2.1.2.2]]) _ (by omega) (fun j hj w' hb' K hK => ?_)
      refine rowsOk ((hb11.trans h13).trans hb') hj fun x h0 h1 => ?_
      refine call_of (S61_calls x.1 x.2.1.1 x.2.1.2.1 x.2.1.2.2 w' _ ?_)
      unfold S61
      refine wr_box fun y1 w3 Y1 h3 _ _ => ?_
      replace Y1 : Box w3 y1 (encX x) := Y1
      refine rd_box0 (by kernel_rfl) Y1 rfl rfl ?_
      refine ⟨false, ?_, hK _ h3⟩
      rw [decide_eq_false (by omega)]; rfl
    · rintro r w' ⟨hr, hb⟩
      exact ⟨_, rfl, by rw [hr]; exact any_none fun _ _ => rfl, hb⟩
  rintro b w15 ⟨rfl, h15⟩
  have h1115 := h13.trans h15
  replace X1 := X1.up h1115
  have hb15 := hb11.trans h1115
  refine br_f rfl ?_
  refine rd_boxN X1 (by kernel_rfl) rfl ?_
  refine call_mono (eachtP (H.up hb15) hD oI (SA.up hb15) QO) ?_
  rintro r w18 ⟨rfl, h18⟩
  replace X1 := X1.up h18
  have hb18 := hb15.trans h18
  refine br_f rfl ?_
  refine rd_box0 (by kernel_rfl) X1 rfl rfl ?_
  refine loop_up D.length (fun _ w' => bel w18 w') (bel.refl _) fun i w22 hi hb again hag _ => ?_
  refine br_dec (fun e => ?_) (fun e => ?_)
  · dsimp only at e
    have hi' : i < D.length := by omega
    refine (H.up hb18).atB hb rfl hi' fun x t ht T => ?_
    have ok := hD.each i t ht
    have hnt := T.nt
    have hk2 := ok.k2
    obtain ⟨Rs, hRs⟩ : ∃ Rs, I[i]? = some Rs := ⟨_, List.getElem?_eq_getElem (by rw [oI.len]; exact hi')⟩
    obtain ⟨q, hq⟩ : ∃ q, Q[i]? = some q := ⟨_, List.getElem?_eq_getElem (by omega)⟩
    obtain ⟨e1, _, _⟩ := QO.at_ i t Rs q ht hRs hq
    refine var_mk (z := .agg zTb.toArray) (v := tbv x) (by kernel_rfl) (by kernel_rfl) rfl rfl fun x25 w27 X25 h27 _ => ?_
    replace X25 : Box w27 x25 (tbc x) := X25
    have hb27 := hb.trans h27
    refine rd_box (by kernel_rfl) X25 (i := 4) rfl rfl ?_
    refine loop_up t.tos.length (fun _ w' => bel w27 w') (bel.refl _) fun f w31 hf hbf again2 hag2 _ => ?_
    refine br_dec (fun e => ?_) (fun e => ?_)
    · dsimp only at e
      have hf' : f < t.tos.length := by omega
      refine join_mk (fun _ w' => bel w27 w') (fun K hK => ?_) ?_
      · have hb31 := hb27.trans hbf
        obtain ⟨to, hto⟩ : ∃ to, t.tos[f]? = some to := ⟨_, List.getElem?_eq_getElem hf'⟩
        have hto2 := ok.to to (List.mem_of_getElem? hto)
        obtain ⟨t2, ht2⟩ : ∃ t2, D[to]? = some t2 := ⟨_, List.getElem?_eq_getElem (by omega)⟩
        obtain ⟨R2, hR2⟩ : ∃ Rs, I[to]? = some Rs := ⟨_, List.getElem?_eq_getElem (by rw [oI.len]; omega)⟩
        obtain ⟨q2, hq2⟩ : ∃ q, Q[to]? = some q := ⟨_, List.getElem?_eq_getElem (by omega)⟩
        obtain ⟨e2, _, _⟩ := QO.at_ to t2 R2 q2 ht2 hR2 hq2
        refine rd_boxN (X1.up hb31) (by kernel_rfl) rfl ?_
        refine call_mono (targetP (H.up (hb18.trans hb31)) hD ht hto) ?_
        rintro (r : Int × Bool × Unit) w38 ⟨f1, _, h38⟩
        have hbb := (hb18.trans hb31).trans h38
        have hK2 := hK () w38 (hbf.trans h38)
        refine SA.rows hbb rfl hq ?_
        refine br_dec (fun e => ?_) (fun _ => hK2)
        refine SA.rows hbb f1 hq2 ?_
        refine br_eq (fun e3 => ?_) (fun _ => hK2)
        obtain ⟨r0, hr0⟩ : ∃ r0, Rs[0]? = some r0 := ⟨_, List.getElem?_eq_getElem (by omega)⟩
        obtain ⟨m, R3, a1, a2, a3, a4⟩ := (oI.row i t Rs 0 r0 ht hRs hr0).key f to hto
        rw [hR2] at a3; cases a3
        omega
      · rintro _ w34 hb _
        refine z_i64 (by omega) ?_
        exact hag2 _ hf' hb
    · refine z_i64 (by dsimp only; omega) ?_
      exact hag _ hi' (hb27.trans hbf)
  · refine rd_boxN (X1.up hb) (by kernel_rfl) rfl ?_
    have hbb := hb18.trans hb
    refine call_mono (eachpP (H.up hbb) hD oI (SA.up hbb) QO) ?_
    rintro r w46 ⟨hr, h46⟩
    exact ⟨r, rfl, hr, hbb.trans h46⟩
end
end Go.Proofs.YtcfghfmlfgaeaaaGreatDoor

/- distribution.Shuffle: numbers below n in some order; privacy.Synthesise's keys. -/

namespace Go.Proofs.YtcfghfmlfgaeaaaGreatDoor
open Go.RowKit Go.Q Go.V Go.Bag Go.Shelf

structure ShufR (n : Nat) (l : List Int) : Prop where
  len : l.length = n
  lt : ∀ (j : Nat) y, l[j]? = some y → 0 ≤ y ∧ y < (n : Int)
set_option maxHeartbeats 800000 in
theorem shuffleP {w : World} (seed : Int) (n : Nat) (hn : n ≤ 1000) :
    call Tryz.prog 32 [.int .u64 seed, .int .i64 (n : Int)] (.many [.one .slice, .one (.int .i64)]) w (fun (x : Hdr × Int × Unit) w' => bel w w' ∧ ∃ l, ShufR n l ∧ Own w' w.heap.size 3 1 x.1.1 x.1.2.1 x.1.2.2 (ints .i64 l)) := by
  refine call_of (S32_calls seed n w _ ?_)
  unfold S32
  refine br_dec (fun e => absurd e (by omega)) (fun _ => ?_)
  refine br_dec (fun e => absurd e (by omega)) (fun _ => ?_)
  refine wr_make tyI n rfl rfl (by omega) (by unfold maxLen; omega) fun ad w2 O h2 _ _ => ?_
  have O2 := O w.heap.size (Nat.le_refl _)
  have e0 : (madeCells (Value.int .i64 0).cells (n * 1)).toList = ints .i64 (List.replicate n 0) := by
    have e := made_flat (sz := 1) (enc := fun m : Int => [Value.int .i64 m]) (fun _ => rfl) (by omega) (0 : Int) (Value.int .i64 0).cells rfl n
    rw [e, ← List.map_eq_flatMap]; rfl
  rw [e0] at O2
  refine loop_up n (fun i w' => bel w w' ∧ ∃ l : List Int, l.length = n ∧ (∀ (j : Nat) y, j < i → l[j]? = some y → 0 ≤ y ∧ y < (n : Int)) ∧ Own w' w.heap.size 3 1 (some ad) n n (ints .i64 l)) ⟨h2, List.replicate n 0, by simp, fun j y h => by omega, O2⟩ fun i w5 hi ⟨hb, l, hl, hlt, OL⟩ again hag _ => ?_
  refine br_dec (fun e => ?_) (fun e => ?_)
  · dsimp only at e
    refine set_mk tyI OL (j := i) rfl (by omega) rfl fun w7 O7 g7 _ => ?_
    refine z_i64 (by dsimp only; omega) ?_
    have es : (ints .i64 l).set i (.int .i64 (i : Int)) = ints .i64 (l.set i (i : Int)) := by simp [ints, List.map_set]
    rw [es] at O7
    refine hag _ (by omega) ⟨bel.own hb OL g7 (Nat.le_refl _), l.set i (i : Int), by simpa using hl, fun j y hj hy => ?_, O7⟩
    by_cases hji : j = i
    · subst hji
      rw [List.getElem?_set_self (by omega)] at hy
      cases hy; omega
    · rw [List.getElem?_set_ne (fun q => hji q.symm)] at hy
      exact hlt j y (by omega) hy
  · dsimp only at e
    have hin : i = n := by omega
    subst hin
    refine z_i64 (by omega) ?_
    refine loop_gh (G := Nat) (fun m (s : Int × Int × Unit) w' => s.2.1 = (m : Int) - 1 ∧ m ≤ i ∧ bel w w' ∧ ∃ l : List Int, ShufR i l ∧ Own w' w.heap.size 3 1 (some ad) i i (ints .i64 l)) (fun m => m) i ⟨rfl, Nat.le_refl _, hb, l, ⟨hl, fun j y hy => hlt j y (by have := (List.getElem?_eq_some_iff.1 hy).1; omega) hy⟩, OL⟩ ?_
    rintro m ⟨sd, k, u⟩ w12 ⟨hk, hm, hb, l, SR, OL⟩ again2 hag2 _
    dsimp only at hk
    subst hk
    refine br_dec (fun e => ?_) (fun e => ⟨((some ad, i, i), (0 : Int), ()), rfl, hb, l, SR, OL⟩)
    dsimp only at e
    refine z_eq rfl ?_
    refine z_eq rfl ?_
    refine rdp_shr 33 rfl (by decide) ?_
    refine z_i64 (by dsimp only; omega) ?_
    refine z_eq (m := (m : Int)) (by dsimp only; rw [show (m : Int) - 1 + 1 = (m : Int) by omega]; exact IntWalk.u64_in _ (by omega)) ?_
    refine rdp_rem (by omega) ?_
    generalize hX : (IntKind.u64.wrap (IntKind.u64.wrap (sd * 6364136223846793005) + 1442695040888963407)) / 2 ^ 33 = X
    have hX0 : 0 ≤ X := by
      rw [← hX]
      have : 0 ≤ IntKind.u64.wrap (IntKind.u64.wrap (sd * 6364136223846793005) + 1442695040888963407) := by rw [IntKind.wrap_u64]; omega
      omega
    have hr0 : 0 ≤ X.tmod (m : Int) := Int.tmod_nonneg _ hX0
    have hrm : X.tmod (m : Int) < (m : Int) := Int.tmod_lt_of_pos _ (by omega)
    obtain ⟨r, hr⟩ : ∃ r : Nat, X.tmod (m : Int) = (r : Int) := ⟨(X.tmod (m : Int)).toNat, by omega⟩
    rw [hr]
    refine z_i64 (by omega) ?_
    refine drw_mk fun w20 h20 _ => ?_
    have OL20 := Own.kept OL h20
    have hll := SR.len
    obtain ⟨a, ha⟩ : ∃ a, l[r]? = some a := ⟨_, List.getElem?_eq_getElem (by omega)⟩
    obtain ⟨b, hbb⟩ : ∃ b, l[m - 1]? = some b := ⟨_, List.getElem?_eq_getElem (by omega)⟩
    refine at_int tyI (by kernel_rfl) OL20.sl (j := r) rfl (by omega) fun y hy => ?_
    obtain rfl : a = y := by rw [ha] at hy; cases hy; rfl
    refine at_int tyI (by kernel_rfl) OL20.sl (j := m - 1) (by dsimp only; omega) (by omega) fun y hy => ?_
    obtain rfl : b = y := by rw [hbb] at hy; cases hy; rfl
    refine set_mk tyI OL20 (j := m - 1) (by dsimp only; omega) (by omega) rfl fun w26 O26 g26 _ => ?_
    have es : ∀ (l : List Int) (q : Nat) (v : Int), (ints .i64 l).set q (.int .i64 v) = ints .i64 (l.set q v) := fun l q v => by simp [ints, List.map_set]
    rw [es] at O26
    refine set_mk tyI O26 (j := r) rfl (by omega) rfl fun w28 O28 g28 _ => ?_
    rw [es] at O28
    refine z_i64 (by dsimp only; omega) ?_
    refine hag2 (m - 1) _ _ ⟨by dsimp only; omega, by omega, bel.own (bel.own (hb.trans h20) OL20 g26 (Nat.le_refl _)) O26 g28 (Nat.le_refl _), _, ⟨by simpa using hll, fun j y hy => ?_⟩, O28⟩ (by omega)
    by_cases h1 : j = r
    · subst h1
      rw [List.getElem?_set_self (by simp; omega)] at hy
      cases hy; exact SR.lt (m - 1) b hbb
    · rw [List.getElem?_set_ne (fun q => h1 q.symm)] at hy
      by_cases h2 : j = m - 1
      · subst h2
        rw [List.getElem?_set_self (by omega)] at hy
        cases hy; exact SR.lt r a ha
      · rw [List.getElem?_set_ne (fun q => h2 q.symm)] at hy
        exact SR.lt j y hy
theorem keyMk {w : World} (n : Int) : call Tryz.prog 29 [.int .i64 n] (.one (.agg [.int .i64, .int .i64, .str])) w (fun (v : Int × Int × ByteArray × Unit) w' => v = (1, n, ByteArray.empty, ()) ∧ bel w w') := by
  refine call_of (S29_calls n w _ ?_)
  unfold S29
  refine var_mk (z := .agg #[.int .i64 0, .int .i64 0, .string ByteArray.empty]) (v := .agg (encV (1, n, ByteArray.empty)).toArray) (by kernel_rfl) (by kernel_rfl) rfl rfl fun x1 w3 X1 h3 _ => ?_
  replace X1 : Box w3 x1 (encV (1, n, ByteArray.empty)) := X1
  refine rd_boxV X1 (by kernel_rfl) rfl ?_
  exact ⟨((1 : Int), n, ByteArray.empty, ()), rfl, rfl, h3⟩
end Go.Proofs.YtcfghfmlfgaeaaaGreatDoor
