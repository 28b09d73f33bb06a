import Derived.Test.YtajpdnphamomjaaGreatOpen
import Derived.Test.YtajpdnphamomjaaGreatPackIntegralNarrow5

/- The walks of both 'right'. (Printed by mkLT.py.) -/

namespace Go.Proofs.YtajpdnphamomjaaGreat
open Go.RowKit Go.Q Go.Q.Num Go.V

set_option maxHeartbeats 3200000 in
theorem rightL (u r b : Hdr) (up : List Int) (T : List (List Int)) (rt : List Int) (hup : up.length ≤ 1000000) : ∀ (n : Nat) (p : PT n) (x : CPr) (lo hi : Hdr) (ls hs : List Int) (w : World), PrAt w n p x → Sys w u r b up T rt →
    Sl w lo.1 lo.2.1 lo.2.2 1 (ints .i64 ls) → Sl w hi.1 hi.2.1 hi.2.2 1 (ints .i64 hs) → ls.length = up.length → hs.length = up.length →
    call Tryz.prog 30 [sysv u r b, prv x, .slice lo.1 lo.2.1 lo.2.2, .slice hi.1 hi.2.1 hi.2.2] (.one (.one .bool)) w (fun y w' => (y = true ↔ rightP up T rt n p ls hs) ∧ bel w w') := by
  intro n
  induction n with
  | zero => intro p; exact p.elim
  | succ n ih =>
    intro (p : PN (PT n)) x lo hi ls hs w hP H HLo HHi hll hhl
    obtain ⟨⟨e1, b1⟩, ⟨S2, bM⟩, ⟨e3, b3⟩, ⟨e4, b4⟩, h6, xs, S5, hxl, hK⟩ := id hP
    obtain ⟨k0, m0, v0, b0, ks, _⟩ := x
    dsimp only at e1 e3 e4 S2 S5 hK
    subst e1 e3 e4
    have hxn : xs.length = ks.2.1 := by have := S5.len; rw [flat_len prc_len] at this; omega
    have hml := fr_len S2
    have hul := H.u.int
    have hlo := HLo.int
    have hhi := HHi.int
    refine call_of (S30_calls u.1 u.2.1 u.2.2 r.1 r.2.1 r.2.2 b.1 b.2.1 b.2.2 p.kind m0.1 m0.2.1 m0.2.2 p.var p.bound ks.1 ks.2.1 ks.2.2 lo.1 lo.2.1 lo.2.2 hi.1 hi.2.1 hi.2.2 w _ ?_)
    unfold S30
    refine wr_box fun y1 w2 X1 h2 _ _ => ?_
    refine wr_box fun y3 w4 X h4 _ _ => ?_
    replace X1 : Box w4 y1 (sysc u r b) := X1.up h4
    replace X : Box w4 y3 (prc (p.kind, m0, p.var, p.bound, ks, ())) := X
    have h := h2.trans h4
    replace S2 := S2.up h; replace S5 := S5.up h; replace H := H.up h; replace HLo := HLo.up h; replace HHi := HHi.up h
    have lX := X.lt
    have lX1 := X1.lt
    have no : ∀ {w' : World}, bel w w' → ¬ rightP up T rt (n + 1) p ls hs → ∃ v : Bool, Value.bool false = (RS.one (.one .bool)).val v ∧ (v = true ↔ rightP up T rt (n + 1) p ls hs) ∧ bel w w' := fun hb q => ⟨false, rfl, iff_no q, hb⟩
    have leaf : ∀ {c : Bool}, (c = true ↔ ¬ (p.var = 0 ∧ p.bound = 0 ∧ p.kids.length = 0)) → (c = false → (p.var = 0 ∧ p.bound = 0 ∧ p.kids.length = 0)) := fun q e => Classical.byContradiction fun z => by rw [q.2 z] at e; cases e
    refine join_mk (fun s w' => w4 = w' ∧ (s.1 = true ↔ ¬ (p.var = 0 ∧ p.bound = 0 ∧ p.kids.length = 0))) (fun K' hK' => ?_) (fun s w7 hJ _ => ?_)
    · refine rd_box (by kernel_rfl) X (i := 2) rfl rfl ?_
      refine br_ne (fun e => hK' _ _ ⟨rfl, by simp [e]⟩) (fun e3 => ?_)
      refine rd_box (by kernel_rfl) X (i := 3) rfl rfl ?_
      refine br_ne (fun e => hK' _ _ ⟨rfl, by simp [e]⟩) (fun e4 => ?_)
      refine rd_box (by kernel_rfl) X (i := 4) rfl rfl ?_
      refine hK' _ _ ⟨rfl, ?_⟩
      dsimp only at e3 e4 ⊢
      rw [decide_eq_true_eq]
      omega
    obtain ⟨rfl, hsv⟩ := hJ
    obtain ⟨sv, _⟩ := s
    dsimp only at hsv
    refine rd_box0 (by kernel_rfl) X rfl rfl ?_
    refine br_eq (fun hk => ?_) (fun hk1 => br_eq (fun hk => ?_) (fun hk2 => br_eq (fun hk => ?_) (fun hk3 => no h (right_no hk3 fun q => (q.elim hk1 hk2).elim))))
    · refine br_not (fun e => ?_) (fun e => no h (right_no (by dsimp only at hk; omega) fun _ => hsv.1 e))
      refine rd_boxN X1 (by kernel_rfl) rfl ?_
      refine rd_box (by kernel_rfl) X (i := 1) rfl rfl ?_
      refine call_mono (bndL u r b lo hi m0 up T rt ls hs p.mul _ H S2 bM HLo HHi) ?_
      rintro x11 w12 ⟨hx, h12⟩
      exact ⟨x11, rfl, hx.trans (right_1 hk (leaf hsv e)).symm, h.trans h12⟩
    · refine br_not (fun e => ?_) (fun e => no h (right_no (by dsimp only at hk; omega) fun _ => hsv.1 e))
      refine rd_boxN X1 (by kernel_rfl) rfl ?_
      refine rd_box (by kernel_rfl) X (i := 1) rfl rfl ?_
      refine call_mono (latL u r b m0 up T rt p.mul _ H S2 bM) ?_
      rintro x15 w16 ⟨hx, h16⟩
      exact ⟨x15, rfl, hx.trans (right_2 hk (leaf hsv e)).symm, h.trans h16⟩
    · dsimp only at hk
      refine rd_box (by kernel_rfl) X (i := 4) rfl rfl ?_
      refine br_ne (fun e => no h fun q => ?_) (fun e2 => ?_)
      · have := ((right_3 hk).1 q).1; dsimp only at e; omega
      dsimp only at e2
      refine rd_box (by kernel_rfl) X (i := 1) rfl rfl ?_
      refine br_dec (fun e => no h fun q => ?_) (fun em => ?_)
      · have := ((right_3 hk).1 q).2.1; dsimp only at e; omega
      dsimp only at em
      refine rd_box (by kernel_rfl) X (i := 2) rfl rfl ?_
      refine br_dec (fun e => no h fun q => ?_) (fun ev0 => ?_)
      · have := ((right_3 hk).1 q).2.2.1; dsimp only at e; omega
      refine rd_box (by kernel_rfl) X (i := 2) rfl rfl ?_
      refine rd_box0 (by kernel_rfl) X1 rfl rfl ?_
      refine br_dec (fun e => no h fun q => ?_) (fun ev1 => ?_)
      · have := ((right_3 hk).1 q).2.2.1; dsimp only at e; omega
      refine rd_box (by kernel_rfl) X (i := 3) rfl rfl ?_
      refine br_dec (fun e => no h fun q => ?_) (fun eb0 => ?_)
      · have := ((right_3 hk).1 q).2.2.2.1; dsimp only at e; omega
      refine rd_box (by kernel_rfl) X (i := 3) rfl rfl ?_
      refine br_dec (fun e => no h fun q => ?_) (fun eb1 => ?_)
      · have := ((right_3 hk).1 q).2.2.2.1; dsimp only at e; omega
      dsimp only at ev0 ev1 eb0 eb1
      obtain ⟨v, hv⟩ : ∃ v : Nat, p.var = (v : Int) := ⟨p.var.toNat, by omega⟩
      have hvt : p.var.toNat = v := by omega
      have hvl : v < up.length := by omega
      obtain ⟨hx, hhx⟩ : ∃ y, hs[v]? = some y := ⟨_, List.getElem?_eq_getElem (by omega)⟩
      obtain ⟨lx, hlx⟩ : ∃ y, ls[v]? = some y := ⟨_, List.getElem?_eq_getElem (by omega)⟩
      have r3 := right_3 (up := up) (T := T) (rt := rt) (lo := ls) (hi := hs) hk
      have gh : hs.getD v 0 = hx := by rw [List.getD_eq_getElem?_getD, hhx]; rfl
      have gl : ls.getD v 0 = lx := by rw [List.getD_eq_getElem?_getD, hlx]; rfl
      rw [hvt, gh, gl] at r3
      obtain ⟨a0, ha0⟩ : ∃ y, p.kids[0]? = some y := ⟨_, List.getElem?_eq_getElem (by omega)⟩
      obtain ⟨a1, ha1⟩ : ∃ y, p.kids[1]? = some y := ⟨_, List.getElem?_eq_getElem (by omega)⟩
      obtain ⟨c0, hc0⟩ : ∃ y, xs[0]? = some y := ⟨_, List.getElem?_eq_getElem (by omega)⟩
      obtain ⟨c1, hc1⟩ : ∃ y, xs[1]? = some y := ⟨_, List.getElem?_eq_getElem (by omega)⟩
      refine call_mono (clone64 lo ls w4 HLo (by omega)) ?_
      rintro (x24 : Hdr) w25 ⟨O24, h25⟩
      refine call_mono (clone64 hi hs w25 (HHi.up h25) (by omega)) ?_
      rintro (x26 : Hdr) w27 ⟨O26, h27⟩
      have n24 := O24.len
      have n26 := O26.len
      obtain ⟨a26, ha26⟩ := own_some O26 (j := v) (by omega)
      obtain ⟨a24, ha24⟩ := own_some O24 (j := v) (by omega)
      have l24 := O24.lt a24.block (by rw [ha24]; rfl)
      have l26 := O26.lt a26.block (by rw [ha26]; rfl)
      replace O24 : OwnI w27 w4.heap.size x24 ls := Own.kept O24 h27
      have s25 := h25.size
      have s27 := h27.size
      have bk26 : blk x26.1 = some a26.block := by rw [ha26]; rfl
      have bk24 : blk x24.1 = some a24.block := by rw [ha24]; rfl
      have h7 := h25.trans h27
      replace X := X.up h7; replace X1 := X1.up h7
      refine drw_mk fun w28 h28 _ => ?_
      replace X := X.up h28; replace X1 := X1.up h28
      have h8 := h7.trans h28
      have s28 := h28.size
      replace O24 : OwnI w28 w4.heap.size x24 ls := Own.kept O24 h28
      replace O26 : OwnI w28 w25.heap.size x26 hs := Own.kept O26 h28
      refine flExC_mk (Xg a26.block) (fun _ _ _ => True) (fun D w' => (D 24 = false → OwnI w' w25.heap.size x26 hs) ∧ (D 24 = true → OwnI w' w25.heap.size x26 (hs.set v (min hx p.bound)))) (fun _ _ _ _ => True)
        (fun w => grown_refl w _) (fun _ _ _ a b => grown_trans a b) (fun _ _ _ _ _ _ _ _ _ _ => trivial) ⟨fun _ => O26, fun q => by cases q⟩ ?_
      have nX : y3.block ≠ a26.block := by omega
      have rdV : ∀ {L : List Nat} {K : Int → Prop} {E : Rel}, (∀ w', E w28 w' → Xg a26.block w28 w') → K p.var → rdE Tryz.prog (ER (fun D w' => (D 24 = false → OwnI w' w25.heap.size x26 hs) ∧ (D 24 = true → OwnI w' w25.heap.size x26 (hs.set v (min hx p.bound)))) L E) (Instr.loadAt 3 (.pointer (some (y3.add 2)))) (.one (.int .i64)) w28 K :=
        fun hE hk => rdE_box (by kernel_rfl) (fun w' q => X.xg (hE w' q.1) nX) (i := 2) rfl rfl hk
      have rdB : ∀ {L : List Nat} {K : Int → Prop} {E : Rel}, (∀ w', E w28 w' → Xg a26.block w28 w') → K p.bound → rdE Tryz.prog (ER (fun D w' => (D 24 = false → OwnI w' w25.heap.size x26 hs) ∧ (D 24 = true → OwnI w' w25.heap.size x26 (hs.set v (min hx p.bound)))) L E) (Instr.loadAt 2 (.pointer (some (y3.add 3)))) (.one (.int .i64)) w28 K :=
        fun hE hk => rdE_box (by kernel_rfl) (fun w' q => X.xg (hE w' q.1) nX) (i := 3) rfl rfl hk
      refine rdV (fun _ q => q) ?_
      refine rdV (fun _ q => q) ?_
      refine rdV (fun _ q => q) ?_
      refine idx1 tyI64 hv (by omega) ha26 ?_
      refine rdE_elem (n := x26.2.1) (c := x26.2.2) (by kernel_rfl) (fun w' q => ?_) hhx ?_
      · obtain ⟨_, D, q2, q3⟩ := q
        have := (q3.1 (q2 24 (by simp))).sl
        rwa [ha26] at this
      refine rdB (fun _ q => q) ?_
      refine z_eq (show (if p.bound < hx then p.bound else hx) = min hx p.bound by split <;> omega) ?_
      refine rdV (fun _ q => q) ?_
      refine idx1 tyI64 hv (by omega) ha24 ?_
      refine rdE_elem (n := x24.2.1) (c := x24.2.2) (by kernel_rfl) (fun w' q => ?_) hlx ?_
      · have := (O24.sl).xg q.1 (fun ad ha _ => by rw [ha24] at ha; cases ha; omega)
        rwa [ha24] at this
      refine rdB (fun _ q => q) ?_
      refine z_i64 (by omega) ?_
      refine z_eq (show (if p.bound + 1 > lx then p.bound + 1 else lx) = max lx (p.bound + 1) by split <;> omega) ?_
      refine idx1 tyI64 hv (by omega) ha26 ?_
      refine flcC_mk (fun D w47 hD hE hS _ => ?_) (fun _ => ?_)
      · have O := hS.1 hD
        unfold OwnI at O
        rw [ha26] at O
        refine wu_own (by kernel_rfl) O (show v < x26.2.1 by omega) rfl fun w50 O' hg _ => ?_
        rw [ints_set] at O'
        refine ⟨hg, trivial, ⟨(fun q => by rw [setD_self] at q; cases q), fun _ => ?_⟩, trivial⟩
        show Own w50 _ _ 1 x26.1 x26.2.1 x26.2.2 _
        rw [ha26]; exact O'
      refine flendC_mk fun w52 hE hS _ => ?_
      replace O26 : OwnI w52 w25.heap.size x26 (hs.set v (min hx p.bound)) := hS.2 rfl
      replace O24 : OwnI w52 w4.heap.size x24 ls := Own.putNew O24 hE (fun k hk => by rw [bk24] at hk; cases hk; omega)
      replace X := X.xg hE nX
      replace X1 := X1.xg hE (by omega)
      refine set_mk tyI64 O24 hv (show v < x24.2.1 by omega) rfl fun w55 O24 hg55 _ => ?_
      rw [ints_set] at O24
      rw [bk24] at hg55
      replace O26 : OwnI w55 w25.heap.size x26 (hs.set v (min hx p.bound)) := Own.putNew O26 hg55 (fun k hk => by rw [bk26] at hk; cases hk; omega)
      replace X := X.xg hg55 (by omega)
      replace X1 := X1.xg hg55 (by omega)
      have b55 : bel w4 w55 := (h8.grownAt hE (by omega)).grownAt hg55 (by omega)
      refine drw_mk fun w56 h56 _ => ?_
      have b56 := b55.trans h56
      have hP0 := ((hK 0 c0 a0 hc0 ha0).up h).up b56
      have hP1 := ((hK 1 c1 a1 hc1 ha1).up h).up b56
      refine flEx_mk (fun i _ vv _ => i = 7 → ∃ c, vv = .bool c ∧ (c = true ↔ rightP up T rt n a0 ls (hs.set v (min hx p.bound)))) (fun _ _ _ _ _ h _ => h) ?_
      refine rd_boxN (X1.up h56) (by kernel_rfl) rfl ?_
      refine rd_box (by kernel_rfl) (X.up h56) (i := 4) rfl rfl ?_
      refine at_agg tyPrs agPr prc_len (by omega) (S5.up b56) rfl hc0 rfl ?_
      refine flc_mk (fun w59 hb _ => call_mono (ih a0 c0 lo x26 ls _ w59 (hP0.up hb) (H.up (b56.trans hb)) (HLo.up (b56.trans hb)) ((Own.sl O26).up (h56.trans hb)) hll (by simp [hhl])) fun y w' ⟨hy, hb'⟩ => ⟨hb', fun _ => ⟨y, rfl, hy⟩⟩) (fun x63 => ?_)
      refine br_mk (fun e5 => ?_) (fun e5 => ?_)
      · refine rd_boxN (X1.up h56) (by kernel_rfl) rfl ?_
        refine rd_box (by kernel_rfl) (X.up h56) (i := 4) rfl rfl ?_
        refine at_agg tyPrs agPr prc_len (by omega) (S5.up b56) rfl hc1 rfl ?_
        refine flend_mk fun w68 hb hf => ?_
        obtain ⟨y, hy, hy2⟩ := hf.1 rfl
        injection hy with hy
        subst hy
        refine call_mono (ih a1 c1 x24 hi _ hs w68 (hP1.up hb) (H.up (b56.trans hb)) ((Own.sl O24).up (h56.trans hb)) (HHi.up (b56.trans hb)) (by simp [hll]) hhl) ?_
        rintro x70 w71 ⟨hx70, h71⟩
        refine ⟨x70, rfl, hx70.trans ?_, (h.trans (b56.trans hb)).trans h71⟩
        rw [r3]
        refine ⟨fun q => ⟨by omega, by omega, ⟨by omega, by omega⟩, ⟨by omega, by omega⟩, fun a ha => ?_, fun a ha => ?_⟩, fun q => q.2.2.2.2.2 a1 ha1⟩
        · rw [ha0] at ha; cases ha; exact hy2.1 e5
        · rw [ha1] at ha; cases ha; exact q
      · refine flend_mk fun w72 hb hf => ?_
        obtain ⟨y, hy, hy2⟩ := hf.1 rfl
        injection hy with hy
        subst hy
        refine no (h.trans (b56.trans hb)) fun q => ?_
        have := hy2.2 ((r3.1 q).2.2.2.2.1 a0 ha0)
        rw [e5] at this; cases this

set_option maxHeartbeats 3200000 in
theorem right12 (u r b : Hdr) (up : List Int) (T : List (List Int)) (rt : List Int) (hup : up.length ≤ 1000000) : ∀ (n : Nat) (p : PT n) (x : CPr) (lo hi : Hdr) (ls hs : List Int) (w : World), PrAt w n p x → Sys w u r b up T rt →
    Sl w lo.1 lo.2.1 lo.2.2 1 (ints .i64 ls) → Sl w hi.1 hi.2.1 hi.2.2 1 (ints .i64 hs) → ls.length = up.length → hs.length = up.length →
    call Tryz.prog 26 [sysv u r b, prv x, .slice lo.1 lo.2.1 lo.2.2, .slice hi.1 hi.2.1 hi.2.2] (.one (.one .bool)) w (fun y w' => (y = true ↔ rightP up T rt n p ls hs) ∧ bel w w') := by
  intro n
  induction n with
  | zero => intro p; exact p.elim
  | succ n ih =>
    intro (p : PN (PT n)) x lo hi ls hs w hP H HLo HHi hll hhl
    obtain ⟨⟨e1, b1⟩, ⟨S2, bM⟩, ⟨e3, b3⟩, ⟨e4, b4⟩, h6, xs, S5, hxl, hK⟩ := id hP
    obtain ⟨k0, m0, v0, b0, ks, _⟩ := x
    dsimp only at e1 e3 e4 S2 S5 hK
    subst e1 e3 e4
    have hxn : xs.length = ks.2.1 := by have := S5.len; rw [flat_len prc_len] at this; omega
    have hml := fr_len S2
    have hul := H.u.int
    have hlo := HLo.int
    have hhi := HHi.int
    refine call_of (S26_calls u.1 u.2.1 u.2.2 r.1 r.2.1 r.2.2 b.1 b.2.1 b.2.2 p.kind m0.1 m0.2.1 m0.2.2 p.var p.bound ks.1 ks.2.1 ks.2.2 lo.1 lo.2.1 lo.2.2 hi.1 hi.2.1 hi.2.2 w _ ?_)
    unfold S26
    refine wr_box fun y1 w2 X1 h2 _ _ => ?_
    refine wr_box fun y3 w4 X h4 _ _ => ?_
    replace X1 : Box w4 y1 (sysc u r b) := X1.up h4
    replace X : Box w4 y3 (prc (p.kind, m0, p.var, p.bound, ks, ())) := X
    have h := h2.trans h4
    replace S2 := S2.up h; replace S5 := S5.up h; replace H := H.up h; replace HLo := HLo.up h; replace HHi := HHi.up h
    have lX := X.lt
    have lX1 := X1.lt
    have no : ∀ {w' : World}, bel w w' → ¬ rightP up T rt (n + 1) p ls hs → ∃ v : Bool, Value.bool false = (RS.one (.one .bool)).val v ∧ (v = true ↔ rightP up T rt (n + 1) p ls hs) ∧ bel w w' := fun hb q => ⟨false, rfl, iff_no q, hb⟩
    refine rd_box0 (by kernel_rfl) X rfl rfl ?_
    refine br_eq (fun hk => ?_) (fun hk1 => br_eq (fun hk => ?_) (fun hk2 => br_eq (fun hk => ?_) (fun hk3 => no h (right_no hk3 fun q => (q.elim hk1 hk2).elim))))
    · refine rd_box (by kernel_rfl) X (i := 4) rfl rfl ?_
      refine br_eq (fun ek => ?_) (fun ek => no h (right_no (by dsimp only at hk; omega) fun _ z => ?_))
      · refine rd_box (by kernel_rfl) X (i := 2) rfl rfl ?_
        refine br_eq (fun ev => ?_) (fun ev => no h (right_no (by dsimp only at hk; omega) fun _ z => ev z.1))
        refine rd_box (by kernel_rfl) X (i := 3) rfl rfl ?_
        refine br_eq (fun eb => ?_) (fun eb => no h (right_no (by dsimp only at hk; omega) fun _ z => eb z.2.1))
        refine rd_boxN X1 (by kernel_rfl) rfl ?_
        refine rd_box (by kernel_rfl) X (i := 1) rfl rfl ?_
        dsimp only at ek ev eb
        refine call_mono (bnd11 u r b lo hi m0 up T rt ls hs p.mul w4 H S2 bM HLo HHi) ?_
        rintro x11 w12 ⟨hx, h12⟩
        exact ⟨x11, rfl, hx.trans (right_1 hk ⟨ev, eb, by omega⟩).symm, h.trans h12⟩
      · dsimp only at ek; omega
    · refine rd_box (by kernel_rfl) X (i := 4) rfl rfl ?_
      refine br_eq (fun ek => ?_) (fun ek => no h (right_no (by dsimp only at hk; omega) fun _ z => ?_))
      · refine rd_box (by kernel_rfl) X (i := 2) rfl rfl ?_
        refine br_eq (fun ev => ?_) (fun ev => no h (right_no (by dsimp only at hk; omega) fun _ z => ev z.1))
        refine rd_box (by kernel_rfl) X (i := 3) rfl rfl ?_
        refine br_eq (fun eb => ?_) (fun eb => no h (right_no (by dsimp only at hk; omega) fun _ z => eb z.2.1))
        refine rd_boxN X1 (by kernel_rfl) rfl ?_
        refine rd_box (by kernel_rfl) X (i := 1) rfl rfl ?_
        dsimp only at ek ev eb
        refine call_mono (lat11 u r b m0 up T rt p.mul w4 H S2 bM) ?_
        rintro x11 w12 ⟨hx, h12⟩
        exact ⟨x11, rfl, hx.trans (right_2 hk ⟨ev, eb, by omega⟩).symm, h.trans h12⟩
      · dsimp only at ek; omega
    · dsimp only at hk
      refine rd_box (by kernel_rfl) X (i := 4) rfl rfl ?_
      refine br_ne (fun e => no h fun q => ?_) (fun e2 => ?_)
      · have := ((right_3 hk).1 q).1; dsimp only at e; omega
      dsimp only at e2
      refine rd_box (by kernel_rfl) X (i := 1) rfl rfl ?_
      refine br_dec (fun e => no h fun q => ?_) (fun em => ?_)
      · have := ((right_3 hk).1 q).2.1; dsimp only at e; omega
      dsimp only at em
      refine rd_box (by kernel_rfl) X (i := 2) rfl rfl ?_
      refine br_dec (fun e => no h fun q => ?_) (fun ev0 => ?_)
      · have := ((right_3 hk).1 q).2.2.1; dsimp only at e; omega
      refine rd_box (by kernel_rfl) X (i := 2) rfl rfl ?_
      refine rd_box0 (by kernel_rfl) X1 rfl rfl ?_
      refine br_dec (fun e => no h fun q => ?_) (fun ev1 => ?_)
      · have := ((right_3 hk).1 q).2.2.1; dsimp only at e; omega
      refine rd_box (by kernel_rfl) X (i := 3) rfl rfl ?_
      refine br_dec (fun e => no h fun q => ?_) (fun eb0 => ?_)
      · have := ((right_3 hk).1 q).2.2.2.1; dsimp only at e; omega
      refine rd_box (by kernel_rfl) X (i := 3) rfl rfl ?_
      refine br_dec (fun e => no h fun q => ?_) (fun eb1 => ?_)
      · have := ((right_3 hk).1 q).2.2.2.1; dsimp only at e; omega
      dsimp only at ev0 ev1 eb0 eb1
      obtain ⟨v, hv⟩ : ∃ v : Nat, p.var = (v : Int) := ⟨p.var.toNat, by omega⟩
      have hvt : p.var.toNat = v := by omega
      have hvl : v < up.length := by omega
      obtain ⟨hx, hhx⟩ : ∃ y, hs[v]? = some y := ⟨_, List.getElem?_eq_getElem (by omega)⟩
      obtain ⟨lx, hlx⟩ : ∃ y, ls[v]? = some y := ⟨_, List.getElem?_eq_getElem (by omega)⟩
      have r3 := right_3 (up := up) (T := T) (rt := rt) (lo := ls) (hi := hs) hk
      have gh : hs.getD v 0 = hx := by rw [List.getD_eq_getElem?_getD, hhx]; rfl
      have gl : ls.getD v 0 = lx := by rw [List.getD_eq_getElem?_getD, hlx]; rfl
      rw [hvt, gh, gl] at r3
      obtain ⟨a0, ha0⟩ : ∃ y, p.kids[0]? = some y := ⟨_, List.getElem?_eq_getElem (by omega)⟩
      obtain ⟨a1, ha1⟩ : ∃ y, p.kids[1]? = some y := ⟨_, List.getElem?_eq_getElem (by omega)⟩
      obtain ⟨c0, hc0⟩ : ∃ y, xs[0]? = some y := ⟨_, List.getElem?_eq_getElem (by omega)⟩
      obtain ⟨c1, hc1⟩ : ∃ y, xs[1]? = some y := ⟨_, List.getElem?_eq_getElem (by omega)⟩
      refine call_mono (copiedF lo ls w4 HLo (by omega)) ?_
      rintro (x24 : Hdr) w25 ⟨O24, h25⟩
      refine call_mono (copiedF hi hs w25 (HHi.up h25) (by omega)) ?_
      rintro (x26 : Hdr) w27 ⟨O26, h27⟩
      have n24 := O24.len
      have n26 := O26.len
      obtain ⟨a26, ha26⟩ := own_some O26 (j := v) (by omega)
      obtain ⟨a24, ha24⟩ := own_some O24 (j := v) (by omega)
      have l24 := O24.lt a24.block (by rw [ha24]; rfl)
      have l26 := O26.lt a26.block (by rw [ha26]; rfl)
      replace O24 : OwnI w27 w4.heap.size x24 ls := Own.kept O24 h27
      have s25 := h25.size
      have s27 := h27.size
      have bk26 : blk x26.1 = some a26.block := by rw [ha26]; rfl
      have bk24 : blk x24.1 = some a24.block := by rw [ha24]; rfl
      have h7 := h25.trans h27
      replace X := X.up h7; replace X1 := X1.up h7
      refine drw_mk fun w28 h28 _ => ?_
      replace X := X.up h28; replace X1 := X1.up h28
      have h8 := h7.trans h28
      have s28 := h28.size
      replace O24 : OwnI w28 w4.heap.size x24 ls := Own.kept O24 h28
      replace O26 : OwnI w28 w25.heap.size x26 hs := Own.kept O26 h28
      refine rd_box (by kernel_rfl) X (i := 2) rfl rfl ?_
      refine rd_box (by kernel_rfl) X (i := 2) rfl rfl ?_
      refine at_int tyI64 (by kernel_rfl) O26.sl hv (by omega) fun y hy => ?_
      rw [hhx] at hy; cases hy
      refine rd_box (by kernel_rfl) X (i := 3) rfl rfl ?_
      refine z_eq (show (if p.bound < hx then p.bound else hx) = min hx p.bound by split <;> omega) ?_
      refine set_mk tyI64 O26 hv (show v < x26.2.1 by omega) rfl fun w52 O26 hE _ => ?_
      rw [ints_set] at O26
      rw [bk26] at hE
      replace O24 : OwnI w52 w4.heap.size x24 ls := Own.putNew O24 hE (fun k hk => by rw [bk24] at hk; cases hk; omega)
      have nX : y3.block ≠ a26.block := by omega
      replace X := X.xg hE nX
      replace X1 := X1.xg hE (by omega)
      refine drw_mk fun w53 h53 _ => ?_
      replace X := X.up h53; replace X1 := X1.up h53
      replace O24 : OwnI w53 w4.heap.size x24 ls := Own.kept O24 h53
      replace O26 : OwnI w53 w25.heap.size x26 (hs.set v (min hx p.bound)) := Own.kept O26 h53
      refine rd_box (by kernel_rfl) X (i := 2) rfl rfl ?_
      refine rd_box (by kernel_rfl) X (i := 2) rfl rfl ?_
      refine at_int tyI64 (by kernel_rfl) O24.sl hv (by omega) fun y hy => ?_
      rw [hlx] at hy; cases hy
      refine rd_box (by kernel_rfl) X (i := 3) rfl rfl ?_
      refine z_i64 (by dsimp only; omega) ?_
      refine z_eq (show (if p.bound + 1 > lx then p.bound + 1 else lx) = max lx (p.bound + 1) by split <;> omega) ?_
      refine set_mk tyI64 O24 hv (show v < x24.2.1 by omega) rfl fun w55 O24 hg55 _ => ?_
      rw [ints_set] at O24
      rw [bk24] at hg55
      replace O26 : OwnI w55 w25.heap.size x26 (hs.set v (min hx p.bound)) := Own.putNew O26 hg55 (fun k hk => by rw [bk26] at hk; cases hk; omega)
      replace X := X.xg hg55 (by omega)
      replace X1 := X1.xg hg55 (by omega)
      have b55 : bel w4 w55 := ((h8.grownAt hE (by omega)).trans h53).grownAt hg55 (by omega)
      refine drw_mk fun w56 h56 _ => ?_
      have b56 := b55.trans h56
      have hP0 := ((hK 0 c0 a0 hc0 ha0).up h).up b56
      have hP1 := ((hK 1 c1 a1 hc1 ha1).up h).up b56
      refine flEx_mk (fun i _ vv _ => i = 7 → ∃ c, vv = .bool c ∧ (c = true ↔ rightP up T rt n a0 ls (hs.set v (min hx p.bound)))) (fun _ _ _ _ _ h _ => h) ?_
      refine rd_boxN (X1.up h56) (by kernel_rfl) rfl ?_
      refine rd_box (by kernel_rfl) (X.up h56) (i := 4) rfl rfl ?_
      refine at_agg tyPrs agPr prc_len (by omega) (S5.up b56) rfl hc0 rfl ?_
      refine flc_mk (fun w59 hb _ => call_mono (ih a0 c0 lo x26 ls _ w59 (hP0.up hb) (H.up (b56.trans hb)) (HLo.up (b56.trans hb)) ((Own.sl O26).up (h56.trans hb)) hll (by simp [hhl])) fun y w' ⟨hy, hb'⟩ => ⟨hb', fun _ => ⟨y, rfl, hy⟩⟩) (fun x63 => ?_)
      refine br_mk (fun e5 => ?_) (fun e5 => ?_)
      · refine rd_boxN (X1.up h56) (by kernel_rfl) rfl ?_
        refine rd_box (by kernel_rfl) (X.up h56) (i := 4) rfl rfl ?_
        refine at_agg tyPrs agPr prc_len (by omega) (S5.up b56) rfl hc1 rfl ?_
        refine flend_mk fun w68 hb hf => ?_
        obtain ⟨y, hy, hy2⟩ := hf.1 rfl
        injection hy with hy
        subst hy
        refine call_mono (ih a1 c1 x24 hi _ hs w68 (hP1.up hb) (H.up (b56.trans hb)) ((Own.sl O24).up (h56.trans hb)) (HHi.up (b56.trans hb)) (by simp [hll]) hhl) ?_
        rintro x70 w71 ⟨hx70, h71⟩
        refine ⟨x70, rfl, hx70.trans ?_, (h.trans (b56.trans hb)).trans h71⟩
        rw [r3]
        refine ⟨fun q => ⟨by omega, by omega, ⟨by omega, by omega⟩, ⟨by omega, by omega⟩, fun a ha => ?_, fun a ha => ?_⟩, fun q => q.2.2.2.2.2 a1 ha1⟩
        · rw [ha0] at ha; cases ha; exact hy2.1 e5
        · rw [ha1] at ha; cases ha; exact q
      · refine flend_mk fun w72 hb hf => ?_
        obtain ⟨y, hy, hy2⟩ := hf.1 rfl
        injection hy with hy
        subst hy
        refine no (h.trans (b56.trans hb)) fun q => ?_
        have := hy2.2 ((r3.1 q).2.2.2.2.1 a0 ha0)
        rw [e5] at this; cases this
end Go.Proofs.YtajpdnphamomjaaGreat

/- The walk of IntegralProofs. -/

namespace Go.Proofs.YtajpdnphamomjaaGreat
open Go.RowKit Go.Q Go.Q.Num Go.V

def ProofOk (up : List Int) (T : List (List Int)) (rt : List Int) (n : Nat) (p : PT n) : Prop :=
  sysE up T rt = 0 ∧ (szP n p : Int) ≤ 2000 ∧ (depP n p : Int) ≤ 200 ∧ rightP up T rt n p (List.replicate up.length 0) up
theorem made_zero (n : Nat) : (madeCells (Value.int .i64 0).cells (n * 1)).toList = ints .i64 (List.replicate n 0) := by rw [Nat.mul_one]; exact made_int .i64 n
set_option maxHeartbeats 3200000 in
theorem chkPL (u r b : Hdr) (up : List Int) (T : List (List Int)) (rt : List Int) (hup : up.length ≤ 1000000) (n : Nat) (hn : n ≤ 31) (p : PT n) (x : CPr) (w : World) (hP : PrAt w n p x) (H : Sys w u r b up T rt) :
    call Tryz.prog 16 [sysv u r b, prv x] (.one (.one .bool)) w (fun y w' => (y = true ↔ ProofOk up T rt n p) ∧ bel w w') := by
  refine call_of (S16_calls u.1 u.2.1 u.2.2 r.1 r.2.1 r.2.2 b.1 b.2.1 b.2.2 x.1 x.2.1.1 x.2.1.2.1 x.2.1.2.2 x.2.2.1 x.2.2.2.1 x.2.2.2.2.1.1 x.2.2.2.2.1.2.1 x.2.2.2.2.1.2.2 w _ ?_)
  unfold S16
  have hul := H.u.int
  refine wr_box fun y1 w2 X1 h2 _ _ => ?_
  refine wr_box fun y3 w4 X h4 _ _ => ?_
  refine drw_mk fun w5 h5 _ => ?_
  have h := (h2.trans h4).trans h5
  replace X1 : Box w5 y1 (sysc u r b) := (X1.up h4).up h5
  replace X : Box w5 y3 (prc x) := Box.up (show Box w4 y3 (prc x) from X) h5
  replace H := H.up h; replace hP := hP.up h
  have no : ∀ {w' : World}, bel w w' → ¬ ProofOk up T rt n p → ∃ v : Bool, Value.bool false = (RS.one (.one .bool)).val v ∧ (v = true ↔ ProofOk up T rt n p) ∧ bel w w' := fun hb q => ⟨false, rfl, iff_no q, hb⟩
  refine flEx_mk (fun i _ vv w' => (i = 1 → vv = .int .i64 (sysE up T rt)) ∧ (i = 5 → vv = .int .i64 (szP n p)) ∧ (i = 10 → vv = .int .i64 (depP n p)) ∧ (i = 19 → ∃ h : Hdr, vv = hv h ∧ Sl w' h.1 h.2.1 h.2.2 1 (ints .i64 (List.replicate up.length 0))))
    (fun _ _ _ _ _ h hb => ⟨h.1, h.2.1, h.2.2.1, fun e => by obtain ⟨t, q1, q2⟩ := h.2.2.2 e; exact ⟨t, q1, q2.kept hb⟩⟩) ?_
  refine rd_boxN X1 (by kernel_rfl) rfl ?_
  refine flc_mk (fun w8 hb _ => call_mono (validL u r b up T rt w8 (H.up hb)) fun y w' ⟨hy, hb'⟩ => ⟨hb', fun _ => by rw [hy], fun e => by omega, fun e => by omega, fun e => by omega⟩) (fun (x12 : Int) => ?_)
  refine br_eq (fun e1 => ?_) (fun e1 => flend_mk fun w42 hb hf => no (h.trans hb) fun q => ?_)
  · refine rd_boxN X (by kernel_rfl) rfl ?_
    refine flc_mk (fun w8 hb _ => call_mono (szL n p x w8 hn (hP.up hb)) fun y w' ⟨hy, hb'⟩ => ⟨hb', fun e => by omega, fun _ => by rw [hy], fun e => by omega, fun e => by omega⟩) (fun (x18 : Int) => ?_)
    refine br_dec (fun e2 => ?_) (fun e2 => flend_mk fun w42 hb hf => no (h.trans hb) fun q => ?_)
    · refine rd_boxN X (by kernel_rfl) rfl ?_
      refine flc_mk (fun w8 hb _ => call_mono (depL n p x w8 hn (hP.up hb)) fun y w' ⟨hy, hb'⟩ => ⟨hb', fun e => by omega, fun e => by omega, fun _ => by rw [hy], fun e => by omega⟩) (fun (x24 : Int) => ?_)
      refine br_dec (fun e3 => ?_) (fun e3 => flend_mk fun w42 hb hf => no (h.trans hb) fun q => ?_)
      · refine rd_boxN X1 (by kernel_rfl) rfl ?_
        refine rd_boxN X (by kernel_rfl) rfl ?_
        refine rd_box0 (by kernel_rfl) X1 rfl rfl ?_
        refine flc_mk (fun w8 hb _ => wr_make tyI64 u.2.1 rfl rfl (by omega) (by unfold maxLen; omega) fun ad w' O hb' _ _ => ⟨hb', fun e => by omega, fun e => by omega, fun e => by omega, fun _ => ⟨(some ad, u.2.1, u.2.1), rfl, ?_⟩⟩) (fun (x32 : Hdr) => ?_)
        · have := (O w8.heap.size (Nat.le_refl _)).sl
          rw [made_zero, show u.2.1 = up.length from hul.symm] at this
          rw [show u.2.1 = up.length from hul.symm]
          exact this
        refine rd_box0 (by kernel_rfl) X1 rfl rfl ?_
        refine flend_mk fun w34 hb hf => ?_
        obtain ⟨f19, f10, f5, f1, _⟩ := hf
        obtain ⟨z, ez, Sz⟩ := f19.2.2.2 rfl
        have := sl_inj ez
        subst this
        have q10 := f10.2.2.1 rfl
        have q5 := f5.2.1 rfl
        have q1 := f1.1 rfl
        injection q10 with _ q10
        injection q5 with _ q5
        injection q1 with _ q1
        refine call_mono (rightL u r b up T rt hup n p x x32 u _ up w34 (hP.up hb) (H.up hb) Sz (H.up hb).u (by simp) rfl) ?_
        rintro x36 w37 ⟨hx, h37⟩
        refine ⟨x36, rfl, hx.trans ⟨fun q => ⟨by omega, by omega, by omega, q⟩, fun q => q.2.2.2⟩, (h.trans hb).trans h37⟩
      · have q2 := hf.1.2.2.1 rfl
        injection q2 with _ q2
        have := q.2.2.1
        omega
    · have q2 := hf.1.2.1 rfl
      injection q2 with _ q2
      have := q.2.1
      omega
  · have q2 := hf.1.1 rfl
    injection q2 with _ q2
    have := q.1
    omega
set_option maxHeartbeats 3200000 in
theorem chkP12 (u r b : Hdr) (up : List Int) (T : List (List Int)) (rt : List Int) (hup : up.length ≤ 1000000) (n : Nat) (hn : n ≤ 31) (p : PT n) (x : CPr) (w : World) (hP : PrAt w n p x) (H : Sys w u r b up T rt) :
    call Tryz.prog 11 [sysv u r b, prv x] (.one (.one .bool)) w (fun y w' => (y = true ↔ ProofOk up T rt n p) ∧ bel w w') := by
  refine call_of (S11_calls u.1 u.2.1 u.2.2 r.1 r.2.1 r.2.2 b.1 b.2.1 b.2.2 x.1 x.2.1.1 x.2.1.2.1 x.2.1.2.2 x.2.2.1 x.2.2.2.1 x.2.2.2.2.1.1 x.2.2.2.2.1.2.1 x.2.2.2.2.1.2.2 w _ ?_)
  unfold S11
  have hul := H.u.int
  refine wr_box fun y1 w2 X1 h2 _ _ => ?_
  refine wr_box fun y3 w4 X h4 _ _ => ?_
  have h := h2.trans h4
  replace X1 : Box w4 y1 (sysc u r b) := X1.up h4
  replace X : Box w4 y3 (prc x) := X
  replace H := H.up h; replace hP := hP.up h
  have no : ∀ {w' : World}, bel w w' → ¬ ProofOk up T rt n p → ∃ v : Bool, Value.bool false = (RS.one (.one .bool)).val v ∧ (v = true ↔ ProofOk up T rt n p) ∧ bel w w' := fun hb q => ⟨false, rfl, iff_no q, hb⟩
  refine rd_boxN X1 (by kernel_rfl) rfl ?_
  refine call_mono (valid11 u r b up T rt w4 H) ?_
  rintro x6 w7 ⟨rfl, h'⟩
  replace h := h.trans h'; replace X := X.up h'; replace X1 := X1.up h'; replace H := H.up h'; replace hP := hP.up h'; clear h'
  refine br_ne (fun e => no h fun q => e q.1) (fun e1 => ?_)
  refine rd_boxN X (by kernel_rfl) rfl ?_
  refine call_mono (sz12 n p x w7 hn hP) ?_
  rintro x9 w10 ⟨rfl, h'⟩
  replace h := h.trans h'; replace X := X.up h'; replace X1 := X1.up h'; replace H := H.up h'; replace hP := hP.up h'; clear h'
  refine br_dec (fun e => no h fun q => ?_) (fun e2 => ?_)
  · have := q.2.1; omega
  refine rd_boxN X (by kernel_rfl) rfl ?_
  refine call_mono (dep12 n p x w10 hn hP) ?_
  rintro x12 w13 ⟨rfl, h'⟩
  replace h := h.trans h'; replace X := X.up h'; replace X1 := X1.up h'; replace H := H.up h'; replace hP := hP.up h'; clear h'
  refine br_dec (fun e => no h fun q => ?_) (fun e3 => ?_)
  · have := q.2.2.1; omega
  refine drw_mk fun w14 h' _ => ?_
  replace h := h.trans h'; replace X := X.up h'; replace X1 := X1.up h'; replace H := H.up h'; replace hP := hP.up h'; clear h'
  refine flEx_mk (fun i _ vv w' => i = 5 → ∃ h : Hdr, vv = hv h ∧ Sl w' h.1 h.2.1 h.2.2 1 (ints .i64 (List.replicate up.length 0)))
    (fun _ _ _ _ _ h hb => fun e => by obtain ⟨t, q1, q2⟩ := h e; exact ⟨t, q1, q2.kept hb⟩) ?_
  refine rd_boxN X1 (by kernel_rfl) rfl ?_
  refine rd_boxN X (by kernel_rfl) rfl ?_
  refine rd_box0 (by kernel_rfl) X1 rfl rfl ?_
  refine flc_mk (fun w8 hb _ => wr_make tyI64 u.2.1 rfl rfl (by omega) (by unfold maxLen; omega) fun ad w' O hb' _ _ => ⟨hb', fun _ => ⟨(some ad, u.2.1, u.2.1), rfl, ?_⟩⟩) (fun (x32 : Hdr) => ?_)
  · have := (O w8.heap.size (Nat.le_refl _)).sl
    rw [made_zero, show u.2.1 = up.length from hul.symm] at this
    rw [show u.2.1 = up.length from hul.symm]
    exact this
  refine rd_box0 (by kernel_rfl) X1 rfl rfl ?_
  refine flend_mk fun w25 hb hf => ?_
  obtain ⟨z, ez, Sz⟩ := hf.1 rfl
  have := sl_inj ez
  subst this
  refine call_mono (right12 u r b up T rt hup n p x x32 u _ up w25 (hP.up hb) (H.up hb) Sz (H.up hb).u (by simp) rfl) ?_
  rintro x27 w28 ⟨hx, h28⟩
  refine ⟨x27, rfl, hx.trans ⟨fun q => ⟨by omega, by omega, by omega, q⟩, fun q => q.2.2.2⟩, (h.trans hb).trans h28⟩
theorem lat_ex3 : LatP [5] [[2]] [3] [(1, 2)] := by
  have c : colQ [[2]] [(1, 2)] 0 = 1 := by
    show (0 : Rat) + ratv 1 2 * ((2 : Int) : Rat) = 1
    kernel_rfl
  have d : rhsQ [[2]] [3] [(1, 2)] = mkRat 3 2 := by
    show (0 : Rat) + ratv 1 2 * ((3 : Int) : Rat) = mkRat 3 2
    kernel_rfl
  have e : sysE [5] [[2]] [3] = 0 := sysE_0 (by simp) (by simp) ⟨by simp, by simp, by simp⟩ ⟨rfl, by simp⟩
  refine ⟨combE_0 e rfl (fun p hp => ?_) ⟨fun k hk => ?_, ?_⟩, fun p hp => ?_, ?_⟩
  · simp at hp; subst hp; exact frac12
  · have : k = 0 := by simp at hk; omega
    subst this
    rw [c]; exact ⟨by decide, by decide, by decide⟩
  · rw [d]; exact ⟨by decide, by decide, by decide⟩
  · have : cols [5] [[2]] [(1, 2)] 1 = [fpair (colQ [[2]] [(1, 2)] 0)] := rfl
    have hp' : p ∈ cols [5] [[2]] [(1, 2)] 1 := hp
    rw [this, c] at hp'
    simp at hp'
    subst hp'
    rfl
  · rw [d]; decide
abbrev halfP : PT 1 := (⟨2, [(1, 2)], 0, 0, []⟩ : PN (PT 0))
theorem half_ok : ProofOk [5] [[2]] [3] 1 halfP := by
  refine ⟨sysE_0 (by simp) (by simp) ⟨by simp, by simp, by simp⟩ ⟨rfl, by simp⟩, by decide, by decide, ?_⟩
  exact (right_2 (p := (⟨2, [(1, 2)], 0, 0, []⟩ : PN (PT 0))) rfl ⟨rfl, rfl, rfl⟩).2 lat_ex3
theorem half_at {w : World} {x : Hdr} (S : Sl w x.1 x.2.1 x.2.2 2 (([(1, 2)] : List (Int × Int)).flatMap encF)) : PrAt w 1 halfP (2, x, 0, 0, (none, 0, 0), ()) :=
  ⟨⟨rfl, by decide, by decide⟩, ⟨S, fun y hy => by simp at hy; subst hy; exact ⟨⟨by decide, by decide⟩, ⟨by decide, by decide⟩⟩⟩, ⟨rfl, by decide, by decide⟩, ⟨rfl, by decide, by decide⟩, by decide, [], Sl.nil _ _, rfl, fun i y k h => by simp at h⟩
set_option maxRecDepth 100000 in
theorem argProof {w : World} {v : Value} (h : Go.Q.Arg Tryz.prog w 35 v) : ∃ x : CPr, v = prv x ∧ Go.Q.Read Tryz.prog w 35 (prc x) := by
  obtain ⟨cs, rfl, hsz, _⟩ := Go.V.Arg.struct Tryz.underlying35 h
  obtain ⟨x, hx, hR⟩ := readPr h.2
  refine ⟨x, ?_, hR⟩
  have : cs.toList = prc x := hx
  rw [← Array.toArray_toList (xs := cs), this]
end Go.Proofs.YtajpdnphamomjaaGreat

/- Solve where the points are few. -/



namespace Go.Proofs.YtajpdnphamomjaaGreat
open Go.RowKit Go.Q Go.Q.Num Go.V

section
variable {up : List Int} {T : List (List Int)} {rt lo hi xs : List Int}
theorem pt_sol (hok : sysE up T rt = 0) (h : Pt T rt (zs up.length) up xs) : SolP up T rt (one1s xs) ∧ xs.length = up.length ∧ ∀ n ∈ xs, I64 n := by
  obtain ⟨hul, hTl, hR, hA⟩ := sysE_ok hok
  have hl := h.lhi
  have each : ∀ (k : Nat) x u, xs[k]? = some x → up[k]? = some u → 0 ≤ x ∧ x ≤ u := fun k x u hx hu => by
    have hk : k < up.length := (List.getElem?_eq_some_iff.1 hu).1
    exact h.each k 0 u x (by rw [List.getElem?_replicate, if_pos hk]) hu hx
  refine ⟨⟨hok, by simp [hl], fun k p u hp hu => ?_, fun i row y hrow hy => ?_⟩, hl.symm, fun n hn => ?_⟩
  · rw [List.getElem?_map] at hp
    obtain ⟨x, hx, rfl⟩ := Option.map_eq_some_iff.1 hp
    exact (each_int (hR.1 u (mem_at hu)).2).2 (each k x u hx hu)
  · rw [dotN_int, hl, h.rows i row y hrow hy]
  · obtain ⟨k, hk⟩ := List.getElem?_of_mem hn
    have hkl : k < up.length := by have := (List.getElem?_eq_some_iff.1 hk).1; omega
    obtain ⟨u, hu⟩ : ∃ u, up[k]? = some u := ⟨_, List.getElem?_eq_getElem hkl⟩
    have h1 := each k n u hk hu
    have h2 := hR.1 u (mem_at hu)
    exact ⟨by omega, by omega⟩
theorem sol_pt (h : SolP up T rt (one1s xs)) : Pt T rt (zs up.length) up xs := by
  obtain ⟨hul, hTl, hR, hA⟩ := sysE_ok h.ok
  have hl : xs.length = up.length := by have := h.len; simpa using this
  refine ⟨by simp [hl], hl.symm, fun k a u x ha hu hx => ?_, fun i row y hrow hy => ?_⟩
  · have h1 := h.each k (x, 1) u (by rw [List.getElem?_map, hx]; rfl) hu
    have h2 := (each_int (hR.1 u (mem_at hu)).2).1 h1
    have : a = 0 := by
      have hk : k < up.length := (List.getElem?_eq_some_iff.1 hu).1
      rw [List.getElem?_replicate, if_pos hk] at ha; cases ha; rfl
    omega
  · have := h.rows i row y hrow hy
    rw [dotN_int, ← hl] at this
    exact Rat.intCast_inj.1 this
end
/-- what Solve says of a system -/
def SRes (up : List Int) (T : List (List Int)) (rt : List Int) (n : Nat) (x : HX) (w' : World) : Prop :=
  (x.2.2.1 = 0 ∧ ∃ xs, Sl w' x.1.1 x.1.2.1 x.1.2.2 1 (ints .i64 xs) ∧ Pt T rt (zs up.length) up xs) ∨
  (x.2.2.1 = 12 ∧ x.1 = (none, 0, 0) ∧ ∃ p : PT n, PrAt w' n p x.2.1 ∧ ProofOk up T rt n p)
theorem SRes.up {up : List Int} {T : List (List Int)} {rt : List Int} {n : Nat} {x : HX} {w w' : World} (h : SRes up T rt n x w) (hb : bel w w') : SRes up T rt n x w' := by
  rcases h with ⟨h1, xs, h2, h3⟩ | ⟨h1, h2, p, h3, h4⟩
  · exact .inl ⟨h1, xs, h2.up hb, h3⟩
  · exact .inr ⟨h1, h2, p, h3.up hb, h4⟩

set_option maxHeartbeats 1600000 in
theorem solveFew (u r b : Hdr) (up : List Int) (T : List (List Int)) (rt : List Int) (w : World) (H : Sys w u r b up T rt) (hok : sysE up T rt = 0) (few : ptsN (zs up.length) up up.length ≤ 500) :
    call Tryz.prog 9 [sysv u r b] rHX w (fun (x : HX) w' => SRes up T rt 18 x w' ∧ bel w w') := by
  obtain ⟨hul, hTl, hR, hA⟩ := sysE_ok hok
  have ob := ok_zero hR.1
  refine call_of (S9_calls u.1 u.2.1 u.2.2 r.1 r.2.1 r.2.2 b.1 b.2.1 b.2.2 w _ ?_)
  unfold S9
  have hu := H.u.int
  refine wr_box fun x1 w2 X1 h2 _ _ => ?_
  refine wr_alloc (z := .agg zpc.toArray) (by kernel_rfl) fun x3 w4 X3 h4 hb3 _ => ?_
  replace X1 : Box w4 x1 (sysc u r b) := Box.up (show Box w2 x1 (sysc u r b) from X1) h4
  replace X3 : Box w4 x3 zpc := X3
  have hx3 : w.heap.size ≤ x3.block := by rw [hb3]; exact h2.size
  have h := h2.trans h4
  clear h2 h4
  refine rd_boxN X1 (by kernel_rfl) rfl ?_
  refine call_mono (validL u r b up T rt w4 (H.up h)) ?_
  rintro x6 w7 ⟨rfl, hb⟩
  replace X1 := X1.up hb; replace X3 := X3.up hb; replace h := h.trans hb
  clear hb
  refine br_ne (fun e => absurd hok e) (fun _ => ?_)
  refine rd_boxN X1 (by kernel_rfl) rfl ?_
  refine call_mono (latticeF u r b up T rt w7 (H.up h) hok) ?_
  rintro (x11 : CPr × Bool × Unit) w12 ⟨hlat, hb⟩
  have x3l := X3.lt
  replace X1 := X1.up hb; replace X3 := X3.up hb; replace h := h.trans hb
  clear hb
  have back : ∀ (x : HX) (w' : World) (B N : Nat), Box w' x3 zpc → bel w w' → x3.block < B → N ≤ 2000 → HRes up T rt (zs up.length) up B 18 N x w' →
      wu Tryz.prog (Instr.storeAt 35 (.pointer (some x3)) (prv x.2.1)) w' fun w2 => rd Tryz.prog (loadVar 35 x3) (.agg [.int .i64, .slice, .int .i64, .int .i64, .slice]) w2 fun y =>
        ∃ v : HX, Value.tuple #[.slice x.1.1 x.1.2.1 x.1.2.2, prv y, .int .i64 x.2.2.1] = rHX.val v ∧ SRes up T rt 18 v w2 ∧ bel w w2 := by
    intro x w' B N X hb hB hN hr
    refine wu_box X (by kernel_rfl) (Nat.le_refl 5) rfl fun w3 X hg _ => ?_
    refine rd_boxV (show Box w3 x3 (prc x.2.1) from X) (by kernel_rfl) rfl ⟨x, rfl, ?_, hb.grownAt hg hx3⟩
    rcases hr with ⟨e1, xs, q1, q2, q3⟩ | ⟨e1, e2, p, q1, q2, q3⟩
    · exact .inl ⟨e1, xs, q1.grown hg fun ad ha _ e => by (have := q2 ad ha); injection e; omega, q3⟩
    · have P := q1.grown hg fun j hj => by injection hj; omega
      exact .inr ⟨e1, e2, p, P.at, hok, by omega, by have := depP_le P.at; omega, q2⟩
  refine var_mk (z := .agg zpc.toArray) (by kernel_rfl) (by kernel_rfl) rfl rfl fun x13 w15 X13 hb _ => ?_
  replace X13 : Box w15 x13 (prc x11.1) := X13
  replace X1 := X1.up hb; replace X3 := X3.up hb; replace h := h.trans hb
  refine br_mk (fun e1 => ?_) (fun e1 => ?_)
  · refine drw_mk fun w16 hb2 _ => ?_
    refine rd_boxN (X13.up hb2) (by kernel_rfl) rfl ?_
    obtain ⟨M, hM, P⟩ := hlat e1
    refine back ((none, 0, 0), x11.1, 12, ()) w16 w7.heap.size 1 (X3.up hb2) (h.trans hb2) x3l (by omega) (.inr ⟨rfl, rfl, (⟨2, M, 0, 0, []⟩ : PN (PT 17)), (P 17).up (hb.trans hb2), (right_2 (p := (⟨2, M, 0, 0, []⟩ : PN (PT 17))) rfl ⟨rfl, rfl, rfl⟩).2 hM, Nat.le_refl _⟩)
  refine rd_box0 (by kernel_rfl) X1 rfl rfl ?_
  refine wr_make tyI64 u.2.1 rfl rfl (by omega) (by unfold maxLen; omega) fun ad w22 O hb2 hb22 _ => ?_
  have Oz := O w15.heap.size (Nat.le_refl _)
  rw [made_zero] at Oz
  replace X1 := X1.up hb2; replace X3 := X3.up hb2; replace h := h.trans hb2
  refine rd_boxN X1 (by kernel_rfl) rfl ?_
  refine call_mono (pointsF u r b up T rt w22 (H.up h) hok) ?_
  rintro (x24 : Int × Bool × Unit) w25 ⟨hp, hb3⟩
  replace Oz := Own.kept Oz hb3
  replace X1 := X1.up hb3; replace X3 := X3.up hb3; replace h := h.trans hb3
  refine br_t (by rw [hp]; exact decide_eq_true few) ?_
  refine rd_boxN X1 (by kernel_rfl) rfl ?_
  refine wr_box fun x27 w28 X27 hb4 _ _ => ?_
  replace X27 : Box w28 x27 (srcC u r b 0) := X27
  replace Oz := Own.kept Oz hb4
  replace X1 := X1.up hb4; replace X3 := X3.up hb4; replace h := h.trans hb4
  refine rd_box0 (by kernel_rfl) X1 rfl rfl ?_
  have x3l' := X3.lt
  have b17 := bit_17 ob few
  have pp := pts_pos ob up.length
  refine call_mono (halveF u r b up T rt hok 0 x27 18 (some ad, u.2.1, u.2.1) u (zs up.length) up w28 (H.up h) X27 (by rw [hu]; exact Oz.sl) (H.up h).u (by simp) rfl ob (fun k => ⟨by rw [zs_getD]; exact Int.le_refl _, ?_⟩) (by omega)) ?_
  · rw [List.getD_eq_getElem?_getD]
    cases hk : up[k]? with
    | none => show (0 : Int) ≤ _; decide
    | some x => exact (hR.1 x (mem_at hk)).2
  rintro (x30 : HX) w31 ⟨R, hb5⟩
  exact back x30 w31 w28.heap.size _ (X3.up hb5) (h.trans hb5) x3l' (by omega) R
end Go.Proofs.YtajpdnphamomjaaGreat

/- Trying all points: the walk of Solvable. -/

namespace Go.Proofs.YtajpdnphamomjaaGreat
open Go.RowKit Go.Q Go.Q.Num Go.V

/-! ### points in their order -/
def oN (up xs : List Int) : Nat → Int
  | 0 => 0
  | k + 1 => oN up xs k + xs.getD k 0 * ptsN (zs up.length) up k
/-- in the box -/
def InB (up xs : List Int) : Prop := ∀ k, 0 ≤ xs.getD k 0 ∧ xs.getD k 0 ≤ up.getD k 0
section
variable {up xs ys : List Int}
theorem InB.ok (h : InB up xs) : OkBox (zs up.length) up := fun k => by rw [zs_getD]; have := h k; omega
theorem pts_succ (k : Nat) : ptsN (zs up.length) up (k + 1) = ptsN (zs up.length) up k * (up.getD k 0 + 1) := by
  show _ * (up.getD k 0 - (zs up.length).getD k 0 + 1) = _
  rw [zs_getD, Int.sub_zero]
theorem o_bd (h : InB up xs) : ∀ n, 0 ≤ oN up xs n ∧ oN up xs n < ptsN (zs up.length) up n
  | 0 => by show (0 : Int) ≤ 0 ∧ (0 : Int) < 1; omega
  | n + 1 => by
    obtain ⟨h1, h2⟩ := o_bd h n
    have hn := h n
    have hp := pts_pos h.ok n
    have h3 := Int.mul_nonneg hn.1 (show 0 ≤ ptsN (zs up.length) up n by omega)
    have h4 := Int.mul_le_mul_of_nonneg_right hn.2 (show 0 ≤ ptsN (zs up.length) up n by omega)
    have e : ptsN (zs up.length) up n * (up.getD n 0 + 1) = up.getD n 0 * ptsN (zs up.length) up n + ptsN (zs up.length) up n := by grind
    show 0 ≤ oN up xs n + _ ∧ oN up xs n + _ < ptsN (zs up.length) up (n + 1)
    rw [pts_succ, e]
    omega
theorem o_max (h : InB up xs) : ∀ n, (∀ k, k < n → xs.getD k 0 = up.getD k 0) → oN up xs n = ptsN (zs up.length) up n - 1
  | 0, _ => rfl
  | n + 1, hk => by
    show oN up xs n + xs.getD n 0 * _ = _
    rw [o_max h n fun k q => hk k (by omega), hk n (by omega), pts_succ]
    grind
theorem o_zero : ∀ n, (∀ k, k < n → xs.getD k 0 = 0) → oN up xs n = 0
  | 0, _ => rfl
  | n + 1, hk => by
    show oN up xs n + xs.getD n 0 * _ = 0
    rw [o_zero n fun k q => hk k (by omega), hk n (by omega)]
    omega
theorem o_inj (h : InB up xs) (h' : InB up ys) : ∀ n, oN up xs n = oN up ys n → ∀ k, k < n → xs.getD k 0 = ys.getD k 0
  | 0, _, k, hk => by omega
  | n + 1, e, k, hk => by
    obtain ⟨a1, a2⟩ := o_bd h n
    obtain ⟨b1, b2⟩ := o_bd h' n
    have e' : oN up xs n + xs.getD n 0 * ptsN (zs up.length) up n = oN up ys n + ys.getD n 0 * ptsN (zs up.length) up n := e
    have key : xs.getD n 0 = ys.getD n 0 := by
      rcases Int.lt_trichotomy (xs.getD n 0) (ys.getD n 0) with q | q | q
      · have := Int.mul_le_mul_of_nonneg_right (show xs.getD n 0 + 1 ≤ ys.getD n 0 by omega) (show 0 ≤ ptsN (zs up.length) up n by omega)
        rw [Int.add_mul] at this
        omega
      · exact q
      · have := Int.mul_le_mul_of_nonneg_right (show ys.getD n 0 + 1 ≤ xs.getD n 0 by omega) (show 0 ≤ ptsN (zs up.length) up n by omega)
        rw [Int.add_mul] at this
        omega
    rw [key] at e'
    rcases Nat.lt_or_ge k n with q | q
    · exact o_inj h h' n (by omega) k q
    · have : k = n := by omega
      subst this; exact key
theorem o_same : ∀ {n m : Nat}, (∀ k, n ≤ k → k < m → xs.getD k 0 = ys.getD k 0) → n ≤ m → oN up xs m - oN up ys m = oN up xs n - oN up ys n
  | n, m, h, hnm => by
    induction m with
    | zero => have : n = 0 := by omega
              subst this; rfl
    | succ m ih =>
      by_cases e : n = m + 1
      · subst e; rfl
      · have := ih (fun k q1 q2 => h k q1 (by omega)) (by omega)
        show oN up xs m + xs.getD m 0 * _ - (oN up ys m + ys.getD m 0 * _) = _
        rw [h m (by omega) (by omega)]
        omega
/-- the next point -/
theorem o_next {a n : Nat} (h : InB up xs) (ha : a < n) (hm : ∀ k, k < a → xs.getD k 0 = up.getD k 0) (h0 : ∀ k, k < a → ys.getD k 0 = 0) (h1 : ys.getD a 0 = xs.getD a 0 + 1) (h2 : ∀ k, a < k → ys.getD k 0 = xs.getD k 0) : oN up ys n = oN up xs n + 1 := by
  have e1 := o_max h a hm
  have e2 := o_zero (up := up) a h0
  have e3 := o_same (up := up) (n := a + 1) (m := n) (fun k q1 q2 => h2 k (by omega)) (by omega)
  have e4 : oN up ys (a + 1) = oN up ys a + (xs.getD a 0 + 1) * ptsN (zs up.length) up a := by show _ + ys.getD a 0 * _ = _; rw [h1]
  have e5 : oN up xs (a + 1) = oN up xs a + xs.getD a 0 * ptsN (zs up.length) up a := rfl
  rw [Int.add_mul] at e4
  omega
end
theorem ext_getD {xs ys : List Int} (hl : xs.length = ys.length) (h : ∀ k, k < xs.length → xs.getD k 0 = ys.getD k 0) : xs = ys := by
  refine List.ext_getElem hl fun k h1 h2 => ?_
  have := h k h1
  rw [List.getD_eq_getElem?_getD, List.getD_eq_getElem?_getD, List.getElem?_eq_getElem h1, List.getElem?_eq_getElem h2] at this
  simpa using this
theorem dotI_bd {r xs : List Int} (hr : ∀ x ∈ r, -1000000 ≤ x ∧ x ≤ 1000000) (hx : ∀ k, 0 ≤ xs.getD k 0 ∧ xs.getD k 0 ≤ 1000000000) : ∀ n : Nat, -(n : Int) * 1000000000000000 ≤ dotI r xs n ∧ dotI r xs n ≤ (n : Int) * 1000000000000000
  | 0 => by simp [dotI]
  | n + 1 => by
    have ih := dotI_bd hr hx n
    show _ ≤ dotI r xs n + dotJ r xs n ∧ dotI r xs n + dotJ r xs n ≤ _
    have : -1000000000000000 ≤ dotJ r xs n ∧ dotJ r xs n ≤ 1000000000000000 := by
      unfold dotJ
      cases hc : r[n]? with
      | none => dsimp only; omega
      | some c => cases hy : xs[n]? with
        | none => dsimp only; omega
        | some y =>
          have h1 := hx n
          rw [getD_at hy] at h1
          exact mul_bd (hr c (mem_at hc)) h1
    omega

set_option maxHeartbeats 3200000 in
theorem solvableF (u r b : Hdr) (up : List Int) (T : List (List Int)) (rt : List Int) (w : World) (H : Sys w u r b up T rt) (hok : sysE up T rt = 0) :
    call Tryz.prog 12 [sysv u r b] (.one (.one .bool)) w (fun v w' => (v = true ↔ ∃ xs, Pt T rt (zs up.length) up xs) ∧ bel w w') := by
  obtain ⟨hul, hTl, hR, hA⟩ := sysE_ok hok
  have ob := ok_zero hR.1
  have hAl := hA.1
  refine call_of (S12_calls u.1 u.2.1 u.2.2 r.1 r.2.1 r.2.2 b.1 b.2.1 b.2.2 w _ ?_)
  unfold S12
  have hu := H.u.int
  have hrl := H.r.len
  have hbl := H.b.int
  refine wr_box fun x1 w2 X1 h2 _ _ => ?_
  replace X1 : Box w2 x1 (sysc u r b) := X1
  refine rd_box0 (by kernel_rfl) X1 rfl rfl ?_
  refine wr_make tyI64 u.2.1 rfl rfl (by omega) (by unfold maxLen; omega) fun ad w5 O hb5 hbk _ => ?_
  have Oz := O w2.heap.size (Nat.le_refl _)
  rw [made_zero, ← hu] at Oz
  have x1l := X1.lt
  have had : w.heap.size ≤ ad.block := by rw [hbk]; exact h2.size
  have hne : some x1.block ≠ some ad.block := by intro e; injection e; omega
  have hf : ∀ {w' : World}, bel w w' → Sys w' u r b up T rt := fun hb => H.up hb
  have hup : ∀ k, up.getD k 0 ≤ 1000000000 := fun k => by
    rw [List.getD_eq_getElem?_getD]
    cases hk : up[k]? with
    | none => show (0 : Int) ≤ _; decide
    | some x => exact (hR.1 x (mem_at hk)).2
  let J : List Int → World → Prop := fun xs w' => OwnI w' w2.heap.size (some ad, up.length, up.length) xs ∧ Box w' x1 (sysc u r b) ∧ bel w w'
  have Jup : ∀ {xs : List Int} {a c : World}, J xs a → bel a c → J xs c := fun ⟨q1, q2, q3⟩ hb => ⟨Own.kept q1 hb, q2.up hb, q3.trans hb⟩
  rw [← hu]
  refine loop_gh (G := List Int) (fun xs _ w' => xs.length = up.length ∧ InB up xs ∧ (∀ ys : List Int, ys.length = up.length → InB up ys → oN up ys up.length < oN up xs up.length → ¬ Pt T rt (zs up.length) up ys) ∧ J xs w') (fun xs => (ptsN (zs up.length) up up.length - oN up xs up.length).toNat) (zs up.length) ⟨by simp, fun k => by rw [zs_getD]; have := ob k; rw [zs_getD] at this; omega, fun ys _ hy hlt => ?_, Oz, X1.up hb5, h2.trans hb5⟩ ?_
  · rw [o_zero (xs := zs up.length) up.length fun k _ => zs_getD _ k] at hlt
    have := (o_bd hy up.length).1
    omega
  rintro xs _ w8 ⟨hxl, hin, hbefore, Jw⟩ again hag _
  have hx9 : ∀ k, 0 ≤ xs.getD k 0 ∧ xs.getD k 0 ≤ 1000000000 := fun k => by have := hin k; have := hup k; omega
  have toPt : ∀ {ys : List Int}, ys.length = up.length → InB up ys → (∀ (i : Nat) row y, T[i]? = some row → rt[i]? = some y → dotI row ys up.length = y) → Pt T rt (zs up.length) up ys := fun {ys} hl hi h => ⟨by simp [hl], hl.symm, fun k a c x ha hc hx => by
      have hk := hi k
      rw [getD_at hc, getD_at hx] at hk
      have : (zs up.length).getD k 0 = a := getD_at ha
      rw [zs_getD] at this
      omega, fun i row y q1 q2 => by rw [hl]; exact h i row y q1 q2⟩
  have ofPt : ∀ {ys : List Int}, Pt T rt (zs up.length) up ys → ys.length = up.length ∧ InB up ys := fun {ys} h => ⟨h.lhi.symm, fun k => by
    have hl := h.lhi
    by_cases hk : k < up.length
    · obtain ⟨c, hc⟩ : ∃ c, up[k]? = some c := ⟨_, List.getElem?_eq_getElem hk⟩
      obtain ⟨x, hx⟩ : ∃ x, ys[k]? = some x := ⟨_, List.getElem?_eq_getElem (by omega)⟩
      rw [getD_at hc, getD_at hx]
      exact h.each k 0 c x (by rw [List.getElem?_replicate, if_pos hk]) hc hx
    · rw [List.getD_eq_getElem?_getD, List.getD_eq_getElem?_getD, List.getElem?_eq_none (by omega), List.getElem?_eq_none (by omega)]; exact ⟨Int.le_refl _, Int.le_refl _⟩⟩
  refine loop_gh (G := Nat) (fun i s w' => s.2.1 = (i : Int) ∧ i ≤ r.2.1 ∧ (s.1 = true ↔ ∀ j, j < i → ∀ row y, T[j]? = some row → rt[j]? = some y → dotI row xs up.length = y) ∧ J xs w') (fun i => r.2.1 - i) 0 ⟨rfl, Nat.zero_le _, ⟨fun _ j hj => absurd hj (Nat.not_lt_zero _), fun _ => rfl⟩, Jw⟩ ?_
  clear Jw
  rintro i ⟨fine, s2, _⟩ w11 ⟨rfl, hi, hfine, Jw⟩ again2 hag2 _
  dsimp only at hfine ⊢
  refine rd_box (by kernel_rfl) Jw.2.1 (i := 1) rfl rfl ?_
  refine br_dec (fun e1 => ?_) (fun e1 => ?_)
  · dsimp only at e1
    have hi' : i < r.2.1 := by omega
    obtain ⟨row, hrow⟩ : ∃ row, T[i]? = some row := ⟨_, List.getElem?_eq_getElem (by omega)⟩
    obtain ⟨y, hy⟩ : ∃ y, rt[i]? = some y := ⟨_, List.getElem?_eq_getElem (by omega)⟩
    have hrl2 := hA.2 row (mem_at hrow)
    have hcR := hR.2.2 row (mem_at hrow)
    have more : ∀ {P : Prop}, (P ↔ dotI row xs up.length = y) → ((fine = true ∧ P) ↔ ∀ j, j < i + 1 → ∀ row y, T[j]? = some row → rt[j]? = some y → dotI row xs up.length = y) := fun {P} hP => by
      rw [hfine, hP]
      refine ⟨fun ⟨q1, q2⟩ j hj row2 y2 h1 h2 => ?_, fun q => ⟨fun j hj => q j (by omega), q i (by omega) row y hrow hy⟩⟩
      rcases Nat.lt_or_ge j i with hji | hji
      · exact q1 j hji row2 y2 h1 h2
      · have : j = i := by omega
        subst this
        rw [hrow] at h1; rw [hy] at h2
        cases h1; cases h2; exact q2
    refine loop_gh (G := Nat) (fun k s w' => s.1 = dotI row xs k ∧ s.2.1 = (k : Int) ∧ k ≤ up.length ∧ J xs w') (fun k => up.length - k) 0 ⟨rfl, rfl, Nat.zero_le _, Jw⟩ ?_
    clear Jw
    rintro k ⟨s1, s2, _⟩ w15 ⟨rfl, rfl, hk, Jw⟩ again3 hag3 _
    dsimp only at hk ⊢
    have bd := dotI_bd hcR hx9 k
    refine br_dec (fun e2 => ?_) (fun e2 => ?_)
    · have hk' : k < up.length := by omega
      refine drw_mk fun w16 hb _ => ?_
      replace Jw := Jup Jw hb
      refine rd_box (by kernel_rfl) Jw.2.1 (i := 1) rfl rfl ?_
      refine (hf Jw.2.2).r.at tyTab (by kernel_rfl) (j := i) rfl hi' fun hr row2 hrow2 S => ?_
      obtain rfl : row = row2 := by rw [hrow] at hrow2; injection hrow2
      have hrw := S.int
      refine at_int tyI64 (by kernel_rfl) S (j := k) rfl (by omega) fun c hc => ?_
      refine at_int tyI64 (by kernel_rfl) Jw.1.sl (j := k) rfl hk' fun x hx => ?_
      have hxk := hx9 k
      rw [getD_at hx] at hxk
      have m1 := mul_bd (hcR c (mem_at hc)) hxk
      refine z_i64 (by omega) ?_
      refine z_i64 (by omega) ?_
      refine z_i64 (by omega) ?_
      exact hag3 (k + 1) _ _ ⟨(dotI_step hc hx).symm, rfl, hk', Jw⟩ (by omega)
    · have hk' : k = up.length := by omega
      subst hk'
      refine br_mk (fun e3 => ?_) (fun e3 => ?_)
      · refine rd_box (by kernel_rfl) Jw.2.1 (i := 2) rfl rfl ?_
        refine at_int tyI64 (by kernel_rfl) (hf Jw.2.2).b (j := i) rfl (by omega) fun y2 hy2 => ?_
        obtain rfl : y = y2 := by rw [hy] at hy2; injection hy2
        refine z_i64 (by omega) ?_
        refine hag2 (i + 1) _ _ ⟨rfl, hi', ?_, Jw⟩ (by omega)
        rw [← more (P := (dotI row xs up.length == y) = true) (by simp), e3]
        simp
      · refine z_i64 (by omega) ?_
        refine hag2 (i + 1) _ _ ⟨rfl, hi', ?_, Jw⟩ (by omega)
        rw [← more (P := dotI row xs up.length = y) Iff.rfl, e3]
        simp
  · have hi' : i = r.2.1 := by dsimp only at e1; omega
    replace hfine : fine = true ↔ ∀ (j : Nat) row y, T[j]? = some row → rt[j]? = some y → dotI row xs up.length = y := hfine.trans ⟨fun q j row y h1 h2 => q j (by have := (List.getElem?_eq_some_iff.1 h1).1; omega) row y h1 h2, fun q j _ => q j⟩
    refine br_mk (fun e2 => ⟨true, rfl, ⟨fun _ => ⟨xs, toPt hxl hin (hfine.1 e2)⟩, fun _ => rfl⟩, Jw.2.2⟩) (fun e2 => ?_)
    have hnot : ¬ Pt T rt (zs up.length) up xs := fun q => by
      have := hfine.2 fun j row y h1 h2 => by rw [← hxl]; exact q.rows j row y h1 h2
      rw [e2] at this; cases this
    have htill : ∀ ys : List Int, ys.length = up.length → InB up ys → oN up ys up.length ≤ oN up xs up.length → ¬ Pt T rt (zs up.length) up ys := fun ys hyl hy hle => by
      rcases Int.lt_or_eq_of_le hle with q | q
      · exact hbefore ys hyl hy q
      · have : ys = xs := ext_getD (by omega) fun k hk => o_inj hy hin up.length q k (by omega)
        rw [this]; exact hnot
    refine join_mk (fun s w' => ∃ a : Nat, s.1 = (a : Int) ∧ a ≤ up.length ∧ (∀ k, k < a → xs.getD k 0 = up.getD k 0) ∧ (a < up.length → xs.getD a 0 ≠ up.getD a 0) ∧ ∃ ys : List Int, ys.length = up.length ∧ (∀ k, k < a → ys.getD k 0 = 0) ∧ (∀ k, a ≤ k → ys.getD k 0 = xs.getD k 0) ∧ J ys w') (fun K hK => ?_) ?_
    · refine loop_gh (G := Nat × List Int) (fun g s w' => s.1 = (g.1 : Int) ∧ g.1 ≤ up.length ∧ (∀ k, k < g.1 → xs.getD k 0 = up.getD k 0) ∧ g.2.length = up.length ∧ (∀ k, k < g.1 → g.2.getD k 0 = 0) ∧ (∀ k, g.1 ≤ k → g.2.getD k 0 = xs.getD k 0) ∧ J g.2 w') (fun g => up.length - g.1) (0, xs) ⟨rfl, Nat.zero_le _, fun k hk => absurd hk (Nat.not_lt_zero _), hxl, fun k hk => absurd hk (Nat.not_lt_zero _), fun _ _ => rfl, Jw⟩ ?_
      clear Jw
      rintro ⟨a, ys⟩ ⟨s1, _⟩ w42 ⟨rfl, ha, hmax, hyl, hy0, hyx, Jw⟩ again4 hag4 _
      dsimp only at ha hmax hyl hy0 hyx Jw ⊢
      refine drw_mk fun w43 hb _ => ?_
      replace Jw := Jup Jw hb
      refine br_dec (fun e3 => ?_) (fun e3 => hK _ _ ⟨a, rfl, ha, hmax, fun q => absurd (by omega) e3, ys, hyl, hy0, hyx, Jw⟩)
      have ha' : a < up.length := by omega
      refine at_int tyI64 (by kernel_rfl) Jw.1.sl (j := a) rfl ha' fun x hx => ?_
      refine rd_box0 (by kernel_rfl) Jw.2.1 rfl rfl ?_
      refine at_int tyI64 (by kernel_rfl) (hf Jw.2.2).u (j := a) rfl (by omega) fun v hv => ?_
      have gx : xs.getD a 0 = x := by rw [← hyx a (Nat.le_refl _)]; exact getD_at hx
      refine br_eq (fun e4 => ?_) (fun e4 => hK _ _ ⟨a, rfl, ha, hmax, fun _ => by rw [gx, getD_at hv]; exact e4, ys, hyl, hy0, hyx, Jw⟩)
      refine set_mk tyI64 Jw.1 (j := a) rfl ha' rfl fun w50 O' hg _ => ?_
      rw [ints_set] at O'
      refine z_i64 (by omega) ?_
      refine hag4 (a + 1, ys.set a 0) _ _ ⟨rfl, ha', fun k hk => ?_, by simp [hyl], fun k hk => ?_, fun k hk => ?_, O', Jw.2.1.grown hg hne, Jw.2.2.grownAt hg had⟩ (by dsimp only; omega)
      · rcases Nat.lt_or_ge k a with q | q
        · exact hmax k q
        · have : k = a := by dsimp only at hk; omega
          subst this; rw [gx, getD_at hv]; exact e4
      · rcases Nat.lt_or_ge k a with q | q
        · rw [Off.set a ys 0 k (by omega)]; exact hy0 k q
        · have : k = a := by dsimp only at hk; omega
          subst this; rw [List.getD_eq_getElem?_getD, List.getElem?_set_self (by omega)]; rfl
      · rw [Off.set a ys 0 k (by dsimp only at hk; omega)]; exact hyx k (by dsimp only at hk; omega)
    · rintro ⟨s1, _⟩ w34 ⟨a, rfl, ha, hmax, hstop, ys, hyl, hy0, hyx, Jw⟩ _
      refine br_eq (fun e3 => ?_) (fun e3 => ?_)
      · refine ⟨false, rfl, ⟨fun q => (by cases q), fun ⟨zs', hz⟩ => ?_⟩, Jw.2.2⟩
        have ha' : a = up.length := by dsimp only at e3; omega
        subst ha'
        obtain ⟨hzl, hzi⟩ := ofPt hz
        have h1 := o_max hin up.length hmax
        have h2 := (o_bd hzi up.length).2
        exact absurd hz (htill zs' hzl hzi (by omega))
      · have ha' : a < up.length := by dsimp only at e3; omega
        have hlt : xs.getD a 0 < up.getD a 0 := by have := hstop ha'; have := hin a; omega
        refine at_int tyI64 (by kernel_rfl) Jw.1.sl (j := a) rfl ha' fun x hx => ?_
        have gx : xs.getD a 0 = x := by rw [← hyx a (Nat.le_refl _)]; exact getD_at hx
        have := hup a
        have := hin a
        refine z_i64 (by omega) ?_
        refine set_mk tyI64 Jw.1 (j := a) rfl ha' rfl fun w39 O' hg _ => ?_
        rw [ints_set] at O'
        have q0 : ∀ k, k < a → (ys.set a (x + 1)).getD k 0 = 0 := fun k hk => by rw [Off.set a ys _ k (by omega)]; exact hy0 k hk
        have q1 : (ys.set a (x + 1)).getD a 0 = xs.getD a 0 + 1 := by rw [List.getD_eq_getElem?_getD, List.getElem?_set_self (by omega), gx]; rfl
        have q2 : ∀ k, a < k → (ys.set a (x + 1)).getD k 0 = xs.getD k 0 := fun k hk => by rw [Off.set a ys _ k (by omega)]; exact hyx k (by omega)
        have hnx := o_next hin ha' hmax q0 q1 q2
        have hlast := (o_bd hin up.length).2
        refine hag (ys.set a (x + 1)) _ _ ⟨by simp [hyl], fun k => ?_, fun zs' hzl hzi hz => htill zs' hzl hzi (by omega), O', Jw.2.1.grown hg hne, Jw.2.2.grownAt hg had⟩ (by omega)
        rcases Nat.lt_trichotomy k a with q | q | q
        · rw [q0 k q]; have := hin k; omega
        · subst q; rw [q1]; omega
        · rw [q2 k q]; exact hin k
end Go.Proofs.YtajpdnphamomjaaGreat

/- The walk of IntegralNarrow. -/


namespace Go.Proofs.YtajpdnphamomjaaGreat
open Go.RowKit Go.Q Go.Q.Num Go.V

theorem fill_h2 (a b : Hdr) : Instr.fill (fun i => some (i * 1, 1)) ((Array.range (2 * 1)).map ((Value.slice none 0 0).cells[· % (Value.slice none 0 0).cells.size]!)) (#[(0, .slice a.1 a.2.1 a.2.2), (1, .slice b.1 b.2.1 b.2.2)] : Array (Nat × Value)).toList = some #[.slice a.1 a.2.1 a.2.2, .slice b.1 b.2.1 b.2.2] := by kernel_rfl
theorem fill_i2 (a b : Int) : Instr.fill (fun i => some (i * 1, 1)) ((Array.range (2 * 1)).map ((Value.int .i64 0).cells[· % (Value.int .i64 0).cells.size]!)) (#[(0, .int .i64 a), (1, .int .i64 b)] : Array (Nat × Value)).toList = some #[.int .i64 a, .int .i64 b] := by kernel_rfl
theorem litI2 {a b : Int} {w : World} {k : Hdr → World → Prop} (hk : ∀ (x : Hdr) w', bel w w' → Sl w' x.1 x.2.1 x.2.2 1 (ints .i64 [a, b]) → k x w') : wr Tryz.prog (Instr.buildSlice 26 2 #[(0, .int .i64 a), (1, .int .i64 b)]) (.one .slice) w k :=
  wr_lit tyI64 #[.int .i64 a, .int .i64 b] (fill_i2 a b) (by omega) (by omega) rfl (by unfold maxLen; omega) fun ad w' O hb _ _ => hk (some ad, 2, 2) w' hb (O w.heap.size (Nat.le_refl _)).sl
theorem litT2 {h g : Hdr} {r1 r2 : List Int} {w : World} {k : Hdr → World → Prop} (H : Sl w h.1 h.2.1 h.2.2 1 (ints .i64 r1)) (G : Sl w g.1 g.2.1 g.2.2 1 (ints .i64 r2)) (hk : ∀ (x : Hdr) w', bel w w' → TabI .i64 w' x [r1, r2] → k x w') :
    wr Tryz.prog (Instr.buildSlice 27 2 #[(0, .slice h.1 h.2.1 h.2.2), (1, .slice g.1 g.2.1 g.2.2)]) (.one .slice) w k :=
  wr_lit tyTab #[.slice h.1 h.2.1 h.2.2, .slice g.1 g.2.1 g.2.2] (fill_h2 h g) (by omega) (by omega) rfl (by unfold maxLen; omega) fun ad w' O hb _ _ => hk (some ad, 2, 2) w' hb
    ⟨[h, g], (O w.heap.size (Nat.le_refl _)).sl, rfl, fun i x r h1 h2 => by
      match i, h1, h2 with
      | 0, h1, h2 => cases h1; cases h2; exact H.kept hb
      | 1, h1, h2 => cases h1; cases h2; exact G.kept hb
      | i + 2, h1, _ => simp at h1⟩
/-- what Solve says agrees with the reference's tests and with the trial of all points -/
theorem narrow_tail {up : List Int} {T : List (List Int)} {rt : List Int} {x : HX} {w : World} {n : Nat} (h : SRes up T rt n x w) :
    ((∃ xs, Pt T rt (zs up.length) up xs) → x.2.2.1 = 0 ∧ ∃ xs, Sl w x.1.1 x.1.2.1 x.1.2.2 1 (ints .i64 xs) ∧ Pt T rt (zs up.length) up xs) ∧
    ((¬ ∃ xs, Pt T rt (zs up.length) up xs) → x.2.2.1 = 12 ∧ x.1 = (none, 0, 0) ∧ ∃ p : PT n, PrAt w n p x.2.1 ∧ ProofOk up T rt n p) := by
  rcases h with ⟨h1, xs, h2, h3⟩ | ⟨h1, h2, p, h3, h4⟩
  · exact ⟨fun _ => ⟨h1, xs, h2, h3⟩, fun q => absurd ⟨xs, h3⟩ q⟩
  · exact ⟨fun ⟨xs, q⟩ => absurd q (right_sound n p _ _ h4.2.2.2 (by simp) rfl), fun _ => ⟨h1, h2, p, h3, h4⟩⟩

set_option maxHeartbeats 1600000 in
theorem narrow (v0 v1 v2 v3 : Int) (w : World) (a0 : 0 ≤ v0 ∧ v0 ≤ 65535) (a1 : 0 ≤ v1 ∧ v1 ≤ 65535) (a2 : -128 ≤ v2 ∧ v2 ≤ 127) (a3 : -128 ≤ v3 ∧ v3 ≤ 127) :
    Calls Tryz.prog 4 #[.int .u16 v0, .int .u16 v1, .int .i8 v2, .int .i8 v3] w (fun e w' => e = .returned (.bool true) ∧ Below w.heap.size w w') := by
  refine Calls.mono (S4_calls v0 v1 v2 v3 w (fun v w' => v = .bool true ∧ bel w w') ?_) (by rintro e w' ⟨v, rfl, rfl, hb⟩; exact ⟨rfl, hb⟩)
  unfold S4
  have m0 : v0.tmod 500 = v0 % 500 := Int.tmod_eq_emod_of_nonneg a0.1
  have m1 : v1.tmod 1000 = v1 % 1000 := Int.tmod_eq_emod_of_nonneg a1.1
  have m2 : v1.tmod 7 = v1 % 7 := Int.tmod_eq_emod_of_nonneg a1.1
  refine rdp_rem (by decide) ?_
  rw [m0]
  refine z_i64 (by omega) ?_
  refine litI fun x3 w4 h S3 => ?_
  refine z_i64 (by omega) ?_
  refine litI fun x6 w7 hb S6 => ?_
  replace S3 := S3.up hb; replace h := h.trans hb
  refine z_i64 (by omega) ?_
  refine litI fun x9 w10 hb S9 => ?_
  replace S3 := S3.up hb; replace S6 := S6.up hb; replace h := h.trans hb
  refine litT2 S6 S9 fun x11 w12 hb T11 => ?_
  replace S3 := S3.up hb; replace h := h.trans hb
  clear S6 S9
  refine rdp_rem (by decide) ?_
  rw [m1]
  refine z_i64 (by omega) ?_
  refine rdp_rem (by decide) ?_
  rw [m2]
  refine z_i64 (by omega) ?_
  refine z_i64 (by omega) ?_
  have b7 : 0 ≤ v1 % 7 ∧ v1 % 7 ≤ 6 := by omega
  have bm : -10000 ≤ v1 % 7 * v3 ∧ v1 % 7 * v3 ≤ 10000 := by
    have q1 := Int.mul_le_mul_of_nonneg_left a3.2 b7.1
    have q2 := Int.mul_le_mul_of_nonneg_left a3.1 b7.1
    omega
  refine z_i64 (by omega) ?_
  generalize hy : v1 % 7 * v3 = y at bm ⊢
  clear hy
  refine litI2 fun x19 w20 hb S19 => ?_
  replace S3 := S3.up hb; replace T11 := T11.up hb; replace h := h.trans hb
  have H : Sys w20 x3 x11 x19 [v0 % 500] [[v2], [v3]] [v1 % 1000, y] := ⟨S3, T11, S19⟩
  clear S3 T11 S19
  refine var_mk (z := .agg #[.slice none 0 0, .slice none 0 0, .slice none 0 0]) (by kernel_rfl) (by kernel_rfl) rfl rfl fun x21 w23 X hb _ => ?_
  replace X : Box w23 x21 (sysc x3 x11 x19) := X
  replace H := H.up hb; replace h := h.trans hb
  have hok : sysE [v0 % 500] [[v2], [v3]] [v1 % 1000, y] = 0 := by
    refine sysE_0 (by simp) (by simp) ⟨?_, ?_, ?_⟩ ⟨rfl, ?_⟩
    · intro x hx; simp at hx; omega
    · intro x hx; simp at hx; omega
    · intro r hr x hx; simp at hr; rcases hr with rfl | rfl <;> simp at hx <;> omega
    · intro r hr; simp at hr; rcases hr with rfl | rfl <;> rfl
  generalize hup : [v0 % 500] = up at *
  generalize hT : [[v2], [v3]] = T at *
  generalize hrt : [v1 % 1000, y] = rt at *
  have few : ptsN (zs up.length) up up.length ≤ 500 := by
    subst hup
    show (1 : Int) * (v0 % 500 - 0 + 1) ≤ 500
    omega
  clear hT hrt m0 m1 m2
  refine rd_boxN X (by kernel_rfl) rfl ?_
  refine call_mono (solveFew x3 x11 x19 up T rt w23 H hok few) ?_
  rintro (x25 : HX) w26 ⟨R, hb⟩
  replace X := X.up hb; replace H := H.up hb; replace h := h.trans hb
  refine var_mk (z := .agg zpc.toArray) (by kernel_rfl) (by kernel_rfl) rfl rfl fun x27 w29 X27 hb _ => ?_
  replace X27 : Box w29 x27 (prc x25.2.1) := X27
  replace X := X.up hb; replace H := H.up hb; replace h := h.trans hb; replace R := R.up hb
  refine rd_boxN X (by kernel_rfl) rfl ?_
  refine call_mono (solvableF x3 x11 x19 up T rt w29 H hok) ?_
  rintro x31 w32 ⟨hx31, hb⟩
  replace X := X.up hb; replace X27 := X27.up hb; replace H := H.up hb; replace h := h.trans hb; replace R := R.up hb
  obtain ⟨R1, R2⟩ := narrow_tail R
  obtain ⟨hul, _, _, _⟩ := sysE_ok hok
  refine br_mk (fun e1 => ?_) (fun e1 => ?_)
  · obtain ⟨q0, xs, S, P⟩ := R1 (hx31.1 e1)
    obtain ⟨sol, sl, si⟩ := pt_sol hok P
    refine br_eq (fun _ => ?_) (fun q => absurd q0 q)
    refine rd_boxN X (by kernel_rfl) rfl ?_
    refine call_mono (chk12 x3 x11 x19 x25.1 up T rt xs w32 H S si (by omega)) ?_
    rintro x34 w35 ⟨hx, hb⟩
    exact ⟨by rw [hx.2 sol], h.trans hb⟩
  · obtain ⟨q0, _, p, P, ok⟩ := R2 (fun q => by have := hx31.2 q; rw [e1] at this; cases this)
    refine br_eq (fun _ => ?_) (fun q => absurd q0 q)
    refine rd_boxN X (by kernel_rfl) rfl ?_
    refine rd_boxN X27 (by kernel_rfl) rfl ?_
    refine call_mono (chkP12 x3 x11 x19 up T rt (by omega) 18 (by omega) p x25.2.1 w32 P H) ?_
    rintro x38 w39 ⟨hx, hb⟩
    exact ⟨by rw [hx.2 ok], h.trans hb⟩

theorem argU16 {w : World} {v : Value} (h : Go.Q.Arg Tryz.prog w 43 v) : ∃ n : Int, v = .int .u16 n ∧ 0 ≤ n ∧ n ≤ 65535 := by
  obtain ⟨n, rfl, hw⟩ := h.int Tryz.underlying43
  simp [Lit.wf, IntKind.min, IntKind.max, IntKind.signed, IntKind.bits] at hw
  exact ⟨n, rfl, by omega, by omega⟩
theorem argI8 {w : World} {v : Value} (h : Go.Q.Arg Tryz.prog w 44 v) : ∃ n : Int, v = .int .i8 n ∧ -128 ≤ n ∧ n ≤ 127 := by
  obtain ⟨n, rfl, hw⟩ := h.int Tryz.underlying44
  simp [Lit.wf, IntKind.min, IntKind.max, IntKind.signed, IntKind.bits] at hw
  exact ⟨n, rfl, by omega, by omega⟩
end Go.Proofs.YtajpdnphamomjaaGreat
