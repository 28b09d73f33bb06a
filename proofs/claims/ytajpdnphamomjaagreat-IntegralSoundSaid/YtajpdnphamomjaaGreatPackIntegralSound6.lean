import Derived.Test.YtajpdnphamomjaaGreatOpen
import Derived.KernelRfl
import Derived.Test.YtajpdnphamomjaaGreatPackIntegralSound5

/- The walks of both 'right'. (Printed by mkLT.py.) -/

namespace Go.Proofs.YtajpdnphamomjaaGreat
open Go.RowKit Go.Q Go.Q.Num Go.V

set_option maxHeartbeats 3200000 in
theorem rightL (u r b : Hdr) (up : List Int) (T : List (List Int)) (rt : List Int) (hup : up.length ≤ 1000000) : ∀ (n : Nat) (p : PT n) (x : CPr) (lo hi : Hdr) (ls hs : List Int) (w : World), PrAt w n p x → Sys w u r b up T rt →
    Sl w lo.1 lo.2.1 lo.2.2 1 (ints .i64 ls) → Sl w hi.1 hi.2.1 hi.2.2 1 (ints .i64 hs) → ls.length = up.length → hs.length = up.length →
    call Tryz.prog 30 [sysv u r b, prv x, .slice lo.1 lo.2.1 lo.2.2, .slice hi.1 hi.2.1 hi.2.2] (.one (.one .bool)) w (fun y w' => (y = true ↔ rightP up T rt n p ls hs) ∧ bel w w') := by
  intro n
  induction n with
  | zero => intro p; exact p.elim
  | succ n ih =>
    intro (p : PN (PT n)) x lo hi ls hs w hP H HLo HHi hll hhl
    obtain ⟨⟨e1, b1⟩, ⟨S2, bM⟩, ⟨e3, b3⟩, ⟨e4, b4⟩, h6, xs, S5, hxl, hK⟩ := id hP
    obtain ⟨k0, m0, v0, b0, ks, _⟩ := x
    dsimp only at e1 e3 e4 S2 S5 hK
    subst e1 e3 e4
    have hxn : xs.length = ks.2.1 := by have := S5.len; rw [flat_len prc_len] at this; omega
    have hml := fr_len S2
    have hul := H.u.int
    have hlo := HLo.int
    have hhi := HHi.int
    refine call_of (S30_calls u.1 u.2.1 u.2.2 r.1 r.2.1 r.2.2 b.1 b.2.1 b.2.2 p.kind m0.1 m0.2.1 m0.2.2 p.var p.bound ks.1 ks.2.1 ks.2.2 lo.1 lo.2.1 lo.2.2 hi.1 hi.2.1 hi.2.2 w _ ?_)
    unfold S30
    refine wr_box fun y1 w2 X1 h2 _ _ => ?_
    refine wr_box fun y3 w4 X h4 _ _ => ?_
    replace X1 : Box w4 y1 (sysc u r b) := X1.up h4
    replace X : Box w4 y3 (prc (p.kind, m0, p.var, p.bound, ks, ())) := X
    have h := h2.trans h4
    replace S2 := S2.up h; replace S5 := S5.up h; replace H := H.up h; replace HLo := HLo.up h; replace HHi := HHi.up h
    have lX := X.lt
    have lX1 := X1.lt
    have no : ∀ {w' : World}, bel w w' → ¬ rightP up T rt (n + 1) p ls hs → ∃ v : Bool, Value.bool false = (RS.one (.one .bool)).val v ∧ (v = true ↔ rightP up T rt (n + 1) p ls hs) ∧ bel w w' := fun hb q => ⟨false, rfl, iff_no q, hb⟩
    have leaf : ∀ {c : Bool}, (c = true ↔ ¬ (p.var = 0 ∧ p.bound = 0 ∧ p.kids.length = 0)) → (c = false → (p.var = 0 ∧ p.bound = 0 ∧ p.kids.length = 0)) := fun q e => Classical.byContradiction fun z => by rw [q.2 z] at e; cases e
    refine join_mk (fun s w' => w4 = w' ∧ (s.1 = true ↔ ¬ (p.var = 0 ∧ p.bound = 0 ∧ p.kids.length = 0))) (fun K' hK' => ?_) (fun s w7 hJ _ => ?_)
    · refine rd_box (by kernel_rfl) X (i := 2) rfl rfl ?_
      refine br_ne (fun e => hK' _ _ ⟨rfl, by simp [e]⟩) (fun e3 => ?_)
      refine rd_box (by kernel_rfl) X (i := 3) rfl rfl ?_
      refine br_ne (fun e => hK' _ _ ⟨rfl, by simp [e]⟩) (fun e4 => ?_)
      refine rd_box (by kernel_rfl) X (i := 4) rfl rfl ?_
      refine hK' _ _ ⟨rfl, ?_⟩
      dsimp only at e3 e4 ⊢
      rw [decide_eq_true_eq]
      omega
    obtain ⟨rfl, hsv⟩ := hJ
    obtain ⟨sv, _⟩ := s
    dsimp only at hsv
    refine rd_box0 (by kernel_rfl) X rfl rfl ?_
    refine br_eq (fun hk => ?_) (fun hk1 => br_eq (fun hk => ?_) (fun hk2 => br_eq (fun hk => ?_) (fun hk3 => no h (right_no hk3 fun q => (q.elim hk1 hk2).elim))))
    · refine br_not (fun e => ?_) (fun e => no h (right_no (by dsimp only at hk; omega) fun _ => hsv.1 e))
      refine rd_boxN X1 (by kernel_rfl) rfl ?_
      refine rd_box (by kernel_rfl) X (i := 1) rfl rfl ?_
      refine call_mono (bndL u r b lo hi m0 up T rt ls hs p.mul _ H S2 bM HLo HHi) ?_
      rintro x11 w12 ⟨hx, h12⟩
      exact ⟨x11, rfl, hx.trans (right_1 hk (leaf hsv e)).symm, h.trans h12⟩
    · refine br_not (fun e => ?_) (fun e => no h (right_no (by dsimp only at hk; omega) fun _ => hsv.1 e))
      refine rd_boxN X1 (by kernel_rfl) rfl ?_
      refine rd_box (by kernel_rfl) X (i := 1) rfl rfl ?_
      refine call_mono (latL u r b m0 up T rt p.mul _ H S2 bM) ?_
      rintro x15 w16 ⟨hx, h16⟩
      exact ⟨x15, rfl, hx.trans (right_2 hk (leaf hsv e)).symm, h.trans h16⟩
    · dsimp only at hk
      refine rd_box (by kernel_rfl) X (i := 4) rfl rfl ?_
      refine br_ne (fun e => no h fun q => ?_) (fun e2 => ?_)
      · have := ((right_3 hk).1 q).1; dsimp only at e; omega
      dsimp only at e2
      refine rd_box (by kernel_rfl) X (i := 1) rfl rfl ?_
      refine br_dec (fun e => no h fun q => ?_) (fun em => ?_)
      · have := ((right_3 hk).1 q).2.1; dsimp only at e; omega
      dsimp only at em
      refine rd_box (by kernel_rfl) X (i := 2) rfl rfl ?_
      refine br_dec (fun e => no h fun q => ?_) (fun ev0 => ?_)
      · have := ((right_3 hk).1 q).2.2.1; dsimp only at e; omega
      refine rd_box (by kernel_rfl) X (i := 2) rfl rfl ?_
      refine rd_box0 (by kernel_rfl) X1 rfl rfl ?_
      refine br_dec (fun e => no h fun q => ?_) (fun ev1 => ?_)
      · have := ((right_3 hk).1 q).2.2.1; dsimp only at e; omega
      refine rd_box (by kernel_rfl) X (i := 3) rfl rfl ?_
      refine br_dec (fun e => no h fun q => ?_) (fun eb0 => ?_)
      · have := ((right_3 hk).1 q).2.2.2.1; dsimp only at e; omega
      refine rd_box (by kernel_rfl) X (i := 3) rfl rfl ?_
      refine br_dec (fun e => no h fun q => ?_) (fun eb1 => ?_)
      · have := ((right_3 hk).1 q).2.2.2.1; dsimp only at e; omega
      dsimp only at ev0 ev1 eb0 eb1
      obtain ⟨v, hv⟩ : ∃ v : Nat, p.var = (v : Int) := ⟨p.var.toNat, by omega⟩
      have hvt : p.var.toNat = v := by omega
      have hvl : v < up.length := by omega
      obtain ⟨hx, hhx⟩ : ∃ y, hs[v]? = some y := ⟨_, List.getElem?_eq_getElem (by omega)⟩
      obtain ⟨lx, hlx⟩ : ∃ y, ls[v]? = some y := ⟨_, List.getElem?_eq_getElem (by omega)⟩
      have r3 := right_3 (up := up) (T := T) (rt := rt) (lo := ls) (hi := hs) hk
      have gh : hs.getD v 0 = hx := by rw [List.getD_eq_getElem?_getD, hhx]; rfl
      have gl : ls.getD v 0 = lx := by rw [List.getD_eq_getElem?_getD, hlx]; rfl
      rw [hvt, gh, gl] at r3
      obtain ⟨a0, ha0⟩ : ∃ y, p.kids[0]? = some y := ⟨_, List.getElem?_eq_getElem (by omega)⟩
      obtain ⟨a1, ha1⟩ : ∃ y, p.kids[1]? = some y := ⟨_, List.getElem?_eq_getElem (by omega)⟩
      obtain ⟨c0, hc0⟩ : ∃ y, xs[0]? = some y := ⟨_, List.getElem?_eq_getElem (by omega)⟩
      obtain ⟨c1, hc1⟩ : ∃ y, xs[1]? = some y := ⟨_, List.getElem?_eq_getElem (by omega)⟩
      refine call_mono (clone64 lo ls w4 HLo (by omega)) ?_
      rintro (x24 : Hdr) w25 ⟨O24, h25⟩
      refine call_mono (clone64 hi hs w25 (HHi.up h25) (by omega)) ?_
      rintro (x26 : Hdr) w27 ⟨O26, h27⟩
      have n24 := O24.len
      have n26 := O26.len
      obtain ⟨a26, ha26⟩ := own_some O26 (j := v) (by omega)
      obtain ⟨a24, ha24⟩ := own_some O24 (j := v) (by omega)
      have l24 := O24.lt a24.block (by rw [ha24]; rfl)
      have l26 := O26.lt a26.block (by rw [ha26]; rfl)
      replace O24 : OwnI w27 w4.heap.size x24 ls := Own.kept O24 h27
      have s25 := h25.size
      have s27 := h27.size
      have bk26 : blk x26.1 = some a26.block := by rw [ha26]; rfl
      have bk24 : blk x24.1 = some a24.block := by rw [ha24]; rfl
      have h7 := h25.trans h27
      replace X := X.up h7; replace X1 := X1.up h7
      refine drw_mk fun w28 h28 _ => ?_
      replace X := X.up h28; replace X1 := X1.up h28
      have h8 := h7.trans h28
      have s28 := h28.size
      replace O24 : OwnI w28 w4.heap.size x24 ls := Own.kept O24 h28
      replace O26 : OwnI w28 w25.heap.size x26 hs := Own.kept O26 h28
      refine flExC_mk (Xg a26.block) (fun _ _ _ => True) (fun D w' => (D 24 = false → OwnI w' w25.heap.size x26 hs) ∧ (D 24 = true → OwnI w' w25.heap.size x26 (hs.set v (min hx p.bound)))) (fun _ _ _ _ => True)
        (fun w => grown_refl w _) (fun _ _ _ a b => grown_trans a b) (fun _ _ _ _ _ _ _ _ _ _ => trivial) ⟨fun _ => O26, fun q => by cases q⟩ ?_
      have nX : y3.block ≠ a26.block := by omega
      have rdV : ∀ {L : List Nat} {K : Int → Prop} {E : Rel}, (∀ w', E w28 w' → Xg a26.block w28 w') → K p.var → rdE Tryz.prog (ER (fun D w' => (D 24 = false → OwnI w' w25.heap.size x26 hs) ∧ (D 24 = true → OwnI w' w25.heap.size x26 (hs.set v (min hx p.bound)))) L E) (Instr.loadAt 3 (.pointer (some (y3.add 2)))) (.one (.int .i64)) w28 K :=
        fun hE hk => rdE_box (by kernel_rfl) (fun w' q => X.xg (hE w' q.1) nX) (i := 2) rfl rfl hk
      have rdB : ∀ {L : List Nat} {K : Int → Prop} {E : Rel}, (∀ w', E w28 w' → Xg a26.block w28 w') → K p.bound → rdE Tryz.prog (ER (fun D w' => (D 24 = false → OwnI w' w25.heap.size x26 hs) ∧ (D 24 = true → OwnI w' w25.heap.size x26 (hs.set v (min hx p.bound)))) L E) (Instr.loadAt 2 (.pointer (some (y3.add 3)))) (.one (.int .i64)) w28 K :=
        fun hE hk => rdE_box (by kernel_rfl) (fun w' q => X.xg (hE w' q.1) nX) (i := 3) rfl rfl hk
      refine rdV (fun _ q => q) ?_
      refine rdV (fun _ q => q) ?_
      refine rdV (fun _ q => q) ?_
      refine idx1 tyI64 hv (by omega) ha26 ?_
      refine rdE_elem (n := x26.2.1) (c := x26.2.2) (by kernel_rfl) (fun w' q => ?_) hhx ?_
      · obtain ⟨_, D, q2, q3⟩ := q
        have := (q3.1 (q2 24 (by simp))).sl
        rwa [ha26] at this
      refine rdB (fun _ q => q) ?_
      refine z_eq (show (if p.bound < hx then p.bound else hx) = min hx p.bound by split <;> omega) ?_
      refine rdV (fun _ q => q) ?_
      refine idx1 tyI64 hv (by omega) ha24 ?_
      refine rdE_elem (n := x24.2.1) (c := x24.2.2) (by kernel_rfl) (fun w' q => ?_) hlx ?_
      · have := (O24.sl).xg q.1 (fun ad ha _ => by rw [ha24] at ha; cases ha; omega)
        rwa [ha24] at this
      refine rdB (fun _ q => q) ?_
      refine z_i64 (by omega) ?_
      refine z_eq (show (if p.bound + 1 > lx then p.bound + 1 else lx) = max lx (p.bound + 1) by split <;> omega) ?_
      refine idx1 tyI64 hv (by omega) ha26 ?_
      refine flcC_mk (fun D w47 hD hE hS _ => ?_) (fun _ => ?_)
      · have O := hS.1 hD
        unfold OwnI at O
        rw [ha26] at O
        refine wu_own (by kernel_rfl) O (show v < x26.2.1 by omega) rfl fun w50 O' hg _ => ?_
        rw [ints_set] at O'
        refine ⟨hg, trivial, ⟨(fun q => by rw [setD_self] at q; cases q), fun _ => ?_⟩, trivial⟩
        show Own w50 _ _ 1 x26.1 x26.2.1 x26.2.2 _
        rw [ha26]; exact O'
      refine flendC_mk fun w52 hE hS _ => ?_
      replace O26 : OwnI w52 w25.heap.size x26 (hs.set v (min hx p.bound)) := hS.2 rfl
      replace O24 : OwnI w52 w4.heap.size x24 ls := Own.putNew O24 hE (fun k hk => by rw [bk24] at hk; cases hk; omega)
      replace X := X.xg hE nX
      replace X1 := X1.xg hE (by omega)
      refine set_mk tyI64 O24 hv (show v < x24.2.1 by omega) rfl fun w55 O24 hg55 _ => ?_
      rw [ints_set] at O24
      rw [bk24] at hg55
      replace O26 : OwnI w55 w25.heap.size x26 (hs.set v (min hx p.bound)) := Own.putNew O26 hg55 (fun k hk => by rw [bk26] at hk; cases hk; omega)
      replace X := X.xg hg55 (by omega)
      replace X1 := X1.xg hg55 (by omega)
      have b55 : bel w4 w55 := (h8.grownAt hE (by omega)).grownAt hg55 (by omega)
      refine drw_mk fun w56 h56 _ => ?_
      have b56 := b55.trans h56
      have hP0 := ((hK 0 c0 a0 hc0 ha0).up h).up b56
      have hP1 := ((hK 1 c1 a1 hc1 ha1).up h).up b56
      refine flEx_mk (fun i _ vv _ => i = 7 → ∃ c, vv = .bool c ∧ (c = true ↔ rightP up T rt n a0 ls (hs.set v (min hx p.bound)))) (fun _ _ _ _ _ h _ => h) ?_
      refine rd_boxN (X1.up h56) (by kernel_rfl) rfl ?_
      refine rd_box (by kernel_rfl) (X.up h56) (i := 4) rfl rfl ?_
      refine at_agg tyPrs agPr prc_len (by omega) (S5.up b56) rfl hc0 rfl ?_
      refine flc_mk (fun w59 hb _ => call_mono (ih a0 c0 lo x26 ls _ w59 (hP0.up hb) (H.up (b56.trans hb)) (HLo.up (b56.trans hb)) ((Own.sl O26).up (h56.trans hb)) hll (by simp [hhl])) fun y w' ⟨hy, hb'⟩ => ⟨hb', fun _ => ⟨y, rfl, hy⟩⟩) (fun x63 => ?_)
      refine br_mk (fun e5 => ?_) (fun e5 => ?_)
      · refine rd_boxN (X1.up h56) (by kernel_rfl) rfl ?_
        refine rd_box (by kernel_rfl) (X.up h56) (i := 4) rfl rfl ?_
        refine at_agg tyPrs agPr prc_len (by omega) (S5.up b56) rfl hc1 rfl ?_
        refine flend_mk fun w68 hb hf => ?_
        obtain ⟨y, hy, hy2⟩ := hf.1 rfl
        injection hy with hy
        subst hy
        refine call_mono (ih a1 c1 x24 hi _ hs w68 (hP1.up hb) (H.up (b56.trans hb)) ((Own.sl O24).up (h56.trans hb)) (HHi.up (b56.trans hb)) (by simp [hll]) hhl) ?_
        rintro x70 w71 ⟨hx70, h71⟩
        refine ⟨x70, rfl, hx70.trans ?_, (h.trans (b56.trans hb)).trans h71⟩
        rw [r3]
        refine ⟨fun q => ⟨by omega, by omega, ⟨by omega, by omega⟩, ⟨by omega, by omega⟩, fun a ha => ?_, fun a ha => ?_⟩, fun q => q.2.2.2.2.2 a1 ha1⟩
        · rw [ha0] at ha; cases ha; exact hy2.1 e5
        · rw [ha1] at ha; cases ha; exact q
      · refine flend_mk fun w72 hb hf => ?_
        obtain ⟨y, hy, hy2⟩ := hf.1 rfl
        injection hy with hy
        subst hy
        refine no (h.trans (b56.trans hb)) fun q => ?_
        have := hy2.2 ((r3.1 q).2.2.2.2.1 a0 ha0)
        rw [e5] at this; cases this

set_option maxHeartbeats 3200000 in
theorem right12 (u r b : Hdr) (up : List Int) (T : List (List Int)) (rt : List Int) (hup : up.length ≤ 1000000) : ∀ (n : Nat) (p : PT n) (x : CPr) (lo hi : Hdr) (ls hs : List Int) (w : World), PrAt w n p x → Sys w u r b up T rt →
    Sl w lo.1 lo.2.1 lo.2.2 1 (ints .i64 ls) → Sl w hi.1 hi.2.1 hi.2.2 1 (ints .i64 hs) → ls.length = up.length → hs.length = up.length →
    call Tryz.prog 26 [sysv u r b, prv x, .slice lo.1 lo.2.1 lo.2.2, .slice hi.1 hi.2.1 hi.2.2] (.one (.one .bool)) w (fun y w' => (y = true ↔ rightP up T rt n p ls hs) ∧ bel w w') := by
  intro n
  induction n with
  | zero => intro p; exact p.elim
  | succ n ih =>
    intro (p : PN (PT n)) x lo hi ls hs w hP H HLo HHi hll hhl
    obtain ⟨⟨e1, b1⟩, ⟨S2, bM⟩, ⟨e3, b3⟩, ⟨e4, b4⟩, h6, xs, S5, hxl, hK⟩ := id hP
    obtain ⟨k0, m0, v0, b0, ks, _⟩ := x
    dsimp only at e1 e3 e4 S2 S5 hK
    subst e1 e3 e4
    have hxn : xs.length = ks.2.1 := by have := S5.len; rw [flat_len prc_len] at this; omega
    have hml := fr_len S2
    have hul := H.u.int
    have hlo := HLo.int
    have hhi := HHi.int
    refine call_of (S26_calls u.1 u.2.1 u.2.2 r.1 r.2.1 r.2.2 b.1 b.2.1 b.2.2 p.kind m0.1 m0.2.1 m0.2.2 p.var p.bound ks.1 ks.2.1 ks.2.2 lo.1 lo.2.1 lo.2.2 hi.1 hi.2.1 hi.2.2 w _ ?_)
    unfold S26
    refine wr_box fun y1 w2 X1 h2 _ _ => ?_
    refine wr_box fun y3 w4 X h4 _ _ => ?_
    replace X1 : Box w4 y1 (sysc u r b) := X1.up h4
    replace X : Box w4 y3 (prc (p.kind, m0, p.var, p.bound, ks, ())) := X
    have h := h2.trans h4
    replace S2 := S2.up h; replace S5 := S5.up h; replace H := H.up h; replace HLo := HLo.up h; replace HHi := HHi.up h
    have lX := X.lt
    have lX1 := X1.lt
    have no : ∀ {w' : World}, bel w w' → ¬ rightP up T rt (n + 1) p ls hs → ∃ v : Bool, Value.bool false = (RS.one (.one .bool)).val v ∧ (v = true ↔ rightP up T rt (n + 1) p ls hs) ∧ bel w w' := fun hb q => ⟨false, rfl, iff_no q, hb⟩
    refine rd_box0 (by kernel_rfl) X rfl rfl ?_
    refine br_eq (fun hk => ?_) (fun hk1 => br_eq (fun hk => ?_) (fun hk2 => br_eq (fun hk => ?_) (fun hk3 => no h (right_no hk3 fun q => (q.elim hk1 hk2).elim))))
    · refine rd_box (by kernel_rfl) X (i := 4) rfl rfl ?_
      refine br_eq (fun ek => ?_) (fun ek => no h (right_no (by dsimp only at hk; omega) fun _ z => ?_))
      · refine rd_box (by kernel_rfl) X (i := 2) rfl rfl ?_
        refine br_eq (fun ev => ?_) (fun ev => no h (right_no (by dsimp only at hk; omega) fun _ z => ev z.1))
        refine rd_box (by kernel_rfl) X (i := 3) rfl rfl ?_
        refine br_eq (fun eb => ?_) (fun eb => no h (right_no (by dsimp only at hk; omega) fun _ z => eb z.2.1))
        refine rd_boxN X1 (by kernel_rfl) rfl ?_
        refine rd_box (by kernel_rfl) X (i := 1) rfl rfl ?_
        dsimp only at ek ev eb
        refine call_mono (bnd11 u r b lo hi m0 up T rt ls hs p.mul w4 H S2 bM HLo HHi) ?_
        rintro x11 w12 ⟨hx, h12⟩
        exact ⟨x11, rfl, hx.trans (right_1 hk ⟨ev, eb, by omega⟩).symm, h.trans h12⟩
      · dsimp only at ek; omega
    · refine rd_box (by kernel_rfl) X (i := 4) rfl rfl ?_
      refine br_eq (fun ek => ?_) (fun ek => no h (right_no (by dsimp only at hk; omega) fun _ z => ?_))
      · refine rd_box (by kernel_rfl) X (i := 2) rfl rfl ?_
        refine br_eq (fun ev => ?_) (fun ev => no h (right_no (by dsimp only at hk; omega) fun _ z => ev z.1))
        refine rd_box (by kernel_rfl) X (i := 3) rfl rfl ?_
        refine br_eq (fun eb => ?_) (fun eb => no h (right_no (by dsimp only at hk; omega) fun _ z => eb z.2.1))
        refine rd_boxN X1 (by kernel_rfl) rfl ?_
        refine rd_box (by kernel_rfl) X (i := 1) rfl rfl ?_
        dsimp only at ek ev eb
        refine call_mono (lat11 u r b m0 up T rt p.mul w4 H S2 bM) ?_
        rintro x11 w12 ⟨hx, h12⟩
        exact ⟨x11, rfl, hx.trans (right_2 hk ⟨ev, eb, by omega⟩).symm, h.trans h12⟩
      · dsimp only at ek; omega
    · dsimp only at hk
      refine rd_box (by kernel_rfl) X (i := 4) rfl rfl ?_
      refine br_ne (fun e => no h fun q => ?_) (fun e2 => ?_)
      · have := ((right_3 hk).1 q).1; dsimp only at e; omega
      dsimp only at e2
      refine rd_box (by kernel_rfl) X (i := 1) rfl rfl ?_
      refine br_dec (fun e => no h fun q => ?_) (fun em => ?_)
      · have := ((right_3 hk).1 q).2.1; dsimp only at e; omega
      dsimp only at em
      refine rd_box (by kernel_rfl) X (i := 2) rfl rfl ?_
      refine br_dec (fun e => no h fun q => ?_) (fun ev0 => ?_)
      · have := ((right_3 hk).1 q).2.2.1; dsimp only at e; omega
      refine rd_box (by kernel_rfl) X (i := 2) rfl rfl ?_
      refine rd_box0 (by kernel_rfl) X1 rfl rfl ?_
      refine br_dec (fun e => no h fun q => ?_) (fun ev1 => ?_)
      · have := ((right_3 hk).1 q).2.2.1; dsimp only at e; omega
      refine rd_box (by kernel_rfl) X (i := 3) rfl rfl ?_
      refine br_dec (fun e => no h fun q => ?_) (fun eb0 => ?_)
      · have := ((right_3 hk).1 q).2.2.2.1; dsimp only at e; omega
      refine rd_box (by kernel_rfl) X (i := 3) rfl rfl ?_
      refine br_dec (fun e => no h fun q => ?_) (fun eb1 => ?_)
      · have := ((right_3 hk).1 q).2.2.2.1; dsimp only at e; omega
      dsimp only at ev0 ev1 eb0 eb1
      obtain ⟨v, hv⟩ : ∃ v : Nat, p.var = (v : Int) := ⟨p.var.toNat, by omega⟩
      have hvt : p.var.toNat = v := by omega
      have hvl : v < up.length := by omega
      obtain ⟨hx, hhx⟩ : ∃ y, hs[v]? = some y := ⟨_, List.getElem?_eq_getElem (by omega)⟩
      obtain ⟨lx, hlx⟩ : ∃ y, ls[v]? = some y := ⟨_, List.getElem?_eq_getElem (by omega)⟩
      have r3 := right_3 (up := up) (T := T) (rt := rt) (lo := ls) (hi := hs) hk
      have gh : hs.getD v 0 = hx := by rw [List.getD_eq_getElem?_getD, hhx]; rfl
      have gl : ls.getD v 0 = lx := by rw [List.getD_eq_getElem?_getD, hlx]; rfl
      rw [hvt, gh, gl] at r3
      obtain ⟨a0, ha0⟩ : ∃ y, p.kids[0]? = some y := ⟨_, List.getElem?_eq_getElem (by omega)⟩
      obtain ⟨a1, ha1⟩ : ∃ y, p.kids[1]? = some y := ⟨_, List.getElem?_eq_getElem (by omega)⟩
      obtain ⟨c0, hc0⟩ : ∃ y, xs[0]? = some y := ⟨_, List.getElem?_eq_getElem (by omega)⟩
      obtain ⟨c1, hc1⟩ : ∃ y, xs[1]? = some y := ⟨_, List.getElem?_eq_getElem (by omega)⟩
      refine call_mono (copiedF lo ls w4 HLo (by omega)) ?_
      rintro (x24 : Hdr) w25 ⟨O24, h25⟩
      refine call_mono (copiedF hi hs w25 (HHi.up h25) (by omega)) ?_
      rintro (x26 : Hdr) w27 ⟨O26, h27⟩
      have n24 := O24.len
      have n26 := O26.len
      obtain ⟨a26, ha26⟩ := own_some O26 (j := v) (by omega)
      obtain ⟨a24, ha24⟩ := own_some O24 (j := v) (by omega)
      have l24 := O24.lt a24.block (by rw [ha24]; rfl)
      have l26 := O26.lt a26.block (by rw [ha26]; rfl)
      replace O24 : OwnI w27 w4.heap.size x24 ls := Own.kept O24 h27
      have s25 := h25.size
      have s27 := h27.size
      have bk26 : blk x26.1 = some a26.block := by rw [ha26]; rfl
      have bk24 : blk x24.1 = some a24.block := by rw [ha24]; rfl
      have h7 := h25.trans h27
      replace X := X.up h7; replace X1 := X1.up h7
      refine drw_mk fun w28 h28 _ => ?_
      replace X := X.up h28; replace X1 := X1.up h28
      have h8 := h7.trans h28
      have s28 := h28.size
      replace O24 : OwnI w28 w4.heap.size x24 ls := Own.kept O24 h28
      replace O26 : OwnI w28 w25.heap.size x26 hs := Own.kept O26 h28
      refine rd_box (by kernel_rfl) X (i := 2) rfl rfl ?_
      refine rd_box (by kernel_rfl) X (i := 2) rfl rfl ?_
      refine at_int tyI64 (by kernel_rfl) O26.sl hv (by omega) fun y hy => ?_
      rw [hhx] at hy; cases hy
      refine rd_box (by kernel_rfl) X (i := 3) rfl rfl ?_
      refine z_eq (show (if p.bound < hx then p.bound else hx) = min hx p.bound by split <;> omega) ?_
      refine set_mk tyI64 O26 hv (show v < x26.2.1 by omega) rfl fun w52 O26 hE _ => ?_
      rw [ints_set] at O26
      rw [bk26] at hE
      replace O24 : OwnI w52 w4.heap.size x24 ls := Own.putNew O24 hE (fun k hk => by rw [bk24] at hk; cases hk; omega)
      have nX : y3.block ≠ a26.block := by omega
      replace X := X.xg hE nX
      replace X1 := X1.xg hE (by omega)
      refine drw_mk fun w53 h53 _ => ?_
      replace X := X.up h53; replace X1 := X1.up h53
      replace O24 : OwnI w53 w4.heap.size x24 ls := Own.kept O24 h53
      replace O26 : OwnI w53 w25.heap.size x26 (hs.set v (min hx p.bound)) := Own.kept O26 h53
      refine rd_box (by kernel_rfl) X (i := 2) rfl rfl ?_
      refine rd_box (by kernel_rfl) X (i := 2) rfl rfl ?_
      refine at_int tyI64 (by kernel_rfl) O24.sl hv (by omega) fun y hy => ?_
      rw [hlx] at hy; cases hy
      refine rd_box (by kernel_rfl) X (i := 3) rfl rfl ?_
      refine z_i64 (by dsimp only; omega) ?_
      refine z_eq (show (if p.bound + 1 > lx then p.bound + 1 else lx) = max lx (p.bound + 1) by split <;> omega) ?_
      refine set_mk tyI64 O24 hv (show v < x24.2.1 by omega) rfl fun w55 O24 hg55 _ => ?_
      rw [ints_set] at O24
      rw [bk24] at hg55
      replace O26 : OwnI w55 w25.heap.size x26 (hs.set v (min hx p.bound)) := Own.putNew O26 hg55 (fun k hk => by rw [bk26] at hk; cases hk; omega)
      replace X := X.xg hg55 (by omega)
      replace X1 := X1.xg hg55 (by omega)
      have b55 : bel w4 w55 := ((h8.grownAt hE (by omega)).trans h53).grownAt hg55 (by omega)
      refine drw_mk fun w56 h56 _ => ?_
      have b56 := b55.trans h56
      have hP0 := ((hK 0 c0 a0 hc0 ha0).up h).up b56
      have hP1 := ((hK 1 c1 a1 hc1 ha1).up h).up b56
      refine flEx_mk (fun i _ vv _ => i = 7 → ∃ c, vv = .bool c ∧ (c = true ↔ rightP up T rt n a0 ls (hs.set v (min hx p.bound)))) (fun _ _ _ _ _ h _ => h) ?_
      refine rd_boxN (X1.up h56) (by kernel_rfl) rfl ?_
      refine rd_box (by kernel_rfl) (X.up h56) (i := 4) rfl rfl ?_
      refine at_agg tyPrs agPr prc_len (by omega) (S5.up b56) rfl hc0 rfl ?_
      refine flc_mk (fun w59 hb _ => call_mono (ih a0 c0 lo x26 ls _ w59 (hP0.up hb) (H.up (b56.trans hb)) (HLo.up (b56.trans hb)) ((Own.sl O26).up (h56.trans hb)) hll (by simp [hhl])) fun y w' ⟨hy, hb'⟩ => ⟨hb', fun _ => ⟨y, rfl, hy⟩⟩) (fun x63 => ?_)
      refine br_mk (fun e5 => ?_) (fun e5 => ?_)
      · refine rd_boxN (X1.up h56) (by kernel_rfl) rfl ?_
        refine rd_box (by kernel_rfl) (X.up h56) (i := 4) rfl rfl ?_
        refine at_agg tyPrs agPr prc_len (by omega) (S5.up b56) rfl hc1 rfl ?_
        refine flend_mk fun w68 hb hf => ?_
        obtain ⟨y, hy, hy2⟩ := hf.1 rfl
        injection hy with hy
        subst hy
        refine call_mono (ih a1 c1 x24 hi _ hs w68 (hP1.up hb) (H.up (b56.trans hb)) ((Own.sl O24).up (h56.trans hb)) (HHi.up (b56.trans hb)) (by simp [hll]) hhl) ?_
        rintro x70 w71 ⟨hx70, h71⟩
        refine ⟨x70, rfl, hx70.trans ?_, (h.trans (b56.trans hb)).trans h71⟩
        rw [r3]
        refine ⟨fun q => ⟨by omega, by omega, ⟨by omega, by omega⟩, ⟨by omega, by omega⟩, fun a ha => ?_, fun a ha => ?_⟩, fun q => q.2.2.2.2.2 a1 ha1⟩
        · rw [ha0] at ha; cases ha; exact hy2.1 e5
        · rw [ha1] at ha; cases ha; exact q
      · refine flend_mk fun w72 hb hf => ?_
        obtain ⟨y, hy, hy2⟩ := hf.1 rfl
        injection hy with hy
        subst hy
        refine no (h.trans (b56.trans hb)) fun q => ?_
        have := hy2.2 ((r3.1 q).2.2.2.2.1 a0 ha0)
        rw [e5] at this; cases this
end Go.Proofs.YtajpdnphamomjaaGreat

/- The walk of IntegralProofs. -/

namespace Go.Proofs.YtajpdnphamomjaaGreat
open Go.RowKit Go.Q Go.Q.Num Go.V

def ProofOk (up : List Int) (T : List (List Int)) (rt : List Int) (n : Nat) (p : PT n) : Prop :=
  sysE up T rt = 0 ∧ (szP n p : Int) ≤ 2000 ∧ (depP n p : Int) ≤ 200 ∧ rightP up T rt n p (List.replicate up.length 0) up
theorem made_zero (n : Nat) : (madeCells (Value.int .i64 0).cells (n * 1)).toList = ints .i64 (List.replicate n 0) := by rw [Nat.mul_one]; exact made_int .i64 n
set_option maxHeartbeats 3200000 in
theorem chkPL (u r b : Hdr) (up : List Int) (T : List (List Int)) (rt : List Int) (hup : up.length ≤ 1000000) (n : Nat) (hn : n ≤ 31) (p : PT n) (x : CPr) (w : World) (hP : PrAt w n p x) (H : Sys w u r b up T rt) :
    call Tryz.prog 16 [sysv u r b, prv x] (.one (.one .bool)) w (fun y w' => (y = true ↔ ProofOk up T rt n p) ∧ bel w w') := by
  refine call_of (S16_calls u.1 u.2.1 u.2.2 r.1 r.2.1 r.2.2 b.1 b.2.1 b.2.2 x.1 x.2.1.1 x.2.1.2.1 x.2.1.2.2 x.2.2.1 x.2.2.2.1 x.2.2.2.2.1.1 x.2.2.2.2.1.2.1 x.2.2.2.2.1.2.2 w _ ?_)
  unfold S16
  have hul := H.u.int
  refine wr_box fun y1 w2 X1 h2 _ _ => ?_
  refine wr_box fun y3 w4 X h4 _ _ => ?_
  refine drw_mk fun w5 h5 _ => ?_
  have h := (h2.trans h4).trans h5
  replace X1 : Box w5 y1 (sysc u r b) := (X1.up h4).up h5
  replace X : Box w5 y3 (prc x) := Box.up (show Box w4 y3 (prc x) from X) h5
  replace H := H.up h; replace hP := hP.up h
  have no : ∀ {w' : World}, bel w w' → ¬ ProofOk up T rt n p → ∃ v : Bool, Value.bool false = (RS.one (.one .bool)).val v ∧ (v = true ↔ ProofOk up T rt n p) ∧ bel w w' := fun hb q => ⟨false, rfl, iff_no q, hb⟩
  refine flEx_mk (fun i _ vv w' => (i = 1 → vv = .int .i64 (sysE up T rt)) ∧ (i = 5 → vv = .int .i64 (szP n p)) ∧ (i = 10 → vv = .int .i64 (depP n p)) ∧ (i = 19 → ∃ h : Hdr, vv = hv h ∧ Sl w' h.1 h.2.1 h.2.2 1 (ints .i64 (List.replicate up.length 0))))
    (fun _ _ _ _ _ h hb => ⟨h.1, h.2.1, h.2.2.1, fun e => by obtain ⟨t, q1, q2⟩ := h.2.2.2 e; exact ⟨t, q1, q2.kept hb⟩⟩) ?_
  refine rd_boxN X1 (by kernel_rfl) rfl ?_
  refine flc_mk (fun w8 hb _ => call_mono (validL u r b up T rt w8 (H.up hb)) fun y w' ⟨hy, hb'⟩ => ⟨hb', fun _ => by rw [hy], fun e => by omega, fun e => by omega, fun e => by omega⟩) (fun (x12 : Int) => ?_)
  refine br_eq (fun e1 => ?_) (fun e1 => flend_mk fun w42 hb hf => no (h.trans hb) fun q => ?_)
  · refine rd_boxN X (by kernel_rfl) rfl ?_
    refine flc_mk (fun w8 hb _ => call_mono (szL n p x w8 hn (hP.up hb)) fun y w' ⟨hy, hb'⟩ => ⟨hb', fun e => by omega, fun _ => by rw [hy], fun e => by omega, fun e => by omega⟩) (fun (x18 : Int) => ?_)
    refine br_dec (fun e2 => ?_) (fun e2 => flend_mk fun w42 hb hf => no (h.trans hb) fun q => ?_)
    · refine rd_boxN X (by kernel_rfl) rfl ?_
      refine flc_mk (fun w8 hb _ => call_mono (depL n p x w8 hn (hP.up hb)) fun y w' ⟨hy, hb'⟩ => ⟨hb', fun e => by omega, fun e => by omega, fun _ => by rw [hy], fun e => by omega⟩) (fun (x24 : Int) => ?_)
      refine br_dec (fun e3 => ?_) (fun e3 => flend_mk fun w42 hb hf => no (h.trans hb) fun q => ?_)
      · refine rd_boxN X1 (by kernel_rfl) rfl ?_
        refine rd_boxN X (by kernel_rfl) rfl ?_
        refine rd_box0 (by kernel_rfl) X1 rfl rfl ?_
        refine flc_mk (fun w8 hb _ => wr_make tyI64 u.2.1 rfl rfl (by omega) (by unfold maxLen; omega) fun ad w' O hb' _ _ => ⟨hb', fun e => by omega, fun e => by omega, fun e => by omega, fun _ => ⟨(some ad, u.2.1, u.2.1), rfl, ?_⟩⟩) (fun (x32 : Hdr) => ?_)
        · have := (O w8.heap.size (Nat.le_refl _)).sl
          rw [made_zero, show u.2.1 = up.length from hul.symm] at this
          rw [show u.2.1 = up.length from hul.symm]
          exact this
        refine rd_box0 (by kernel_rfl) X1 rfl rfl ?_
        refine flend_mk fun w34 hb hf => ?_
        obtain ⟨f19, f10, f5, f1, _⟩ := hf
        obtain ⟨z, ez, Sz⟩ := f19.2.2.2 rfl
        have := sl_inj ez
        subst this
        have q10 := f10.2.2.1 rfl
        have q5 := f5.2.1 rfl
        have q1 := f1.1 rfl
        injection q10 with _ q10
        injection q5 with _ q5
        injection q1 with _ q1
        refine call_mono (rightL u r b up T rt hup n p x x32 u _ up w34 (hP.up hb) (H.up hb) Sz (H.up hb).u (by simp) rfl) ?_
        rintro x36 w37 ⟨hx, h37⟩
        refine ⟨x36, rfl, hx.trans ⟨fun q => ⟨by omega, by omega, by omega, q⟩, fun q => q.2.2.2⟩, (h.trans hb).trans h37⟩
      · have q2 := hf.1.2.2.1 rfl
        injection q2 with _ q2
        have := q.2.2.1
        omega
    · have q2 := hf.1.2.1 rfl
      injection q2 with _ q2
      have := q.2.1
      omega
  · have q2 := hf.1.1 rfl
    injection q2 with _ q2
    have := q.1
    omega
set_option maxHeartbeats 3200000 in
theorem chkP12 (u r b : Hdr) (up : List Int) (T : List (List Int)) (rt : List Int) (hup : up.length ≤ 1000000) (n : Nat) (hn : n ≤ 31) (p : PT n) (x : CPr) (w : World) (hP : PrAt w n p x) (H : Sys w u r b up T rt) :
    call Tryz.prog 11 [sysv u r b, prv x] (.one (.one .bool)) w (fun y w' => (y = true ↔ ProofOk up T rt n p) ∧ bel w w') := by
  refine call_of (S11_calls u.1 u.2.1 u.2.2 r.1 r.2.1 r.2.2 b.1 b.2.1 b.2.2 x.1 x.2.1.1 x.2.1.2.1 x.2.1.2.2 x.2.2.1 x.2.2.2.1 x.2.2.2.2.1.1 x.2.2.2.2.1.2.1 x.2.2.2.2.1.2.2 w _ ?_)
  unfold S11
  have hul := H.u.int
  refine wr_box fun y1 w2 X1 h2 _ _ => ?_
  refine wr_box fun y3 w4 X h4 _ _ => ?_
  have h := h2.trans h4
  replace X1 : Box w4 y1 (sysc u r b) := X1.up h4
  replace X : Box w4 y3 (prc x) := X
  replace H := H.up h; replace hP := hP.up h
  have no : ∀ {w' : World}, bel w w' → ¬ ProofOk up T rt n p → ∃ v : Bool, Value.bool false = (RS.one (.one .bool)).val v ∧ (v = true ↔ ProofOk up T rt n p) ∧ bel w w' := fun hb q => ⟨false, rfl, iff_no q, hb⟩
  refine rd_boxN X1 (by kernel_rfl) rfl ?_
  refine call_mono (valid11 u r b up T rt w4 H) ?_
  rintro x6 w7 ⟨rfl, h'⟩
  replace h := h.trans h'; replace X := X.up h'; replace X1 := X1.up h'; replace H := H.up h'; replace hP := hP.up h'; clear h'
  refine br_ne (fun e => no h fun q => e q.1) (fun e1 => ?_)
  refine rd_boxN X (by kernel_rfl) rfl ?_
  refine call_mono (sz12 n p x w7 hn hP) ?_
  rintro x9 w10 ⟨rfl, h'⟩
  replace h := h.trans h'; replace X := X.up h'; replace X1 := X1.up h'; replace H := H.up h'; replace hP := hP.up h'; clear h'
  refine br_dec (fun e => no h fun q => ?_) (fun e2 => ?_)
  · have := q.2.1; omega
  refine rd_boxN X (by kernel_rfl) rfl ?_
  refine call_mono (dep12 n p x w10 hn hP) ?_
  rintro x12 w13 ⟨rfl, h'⟩
  replace h := h.trans h'; replace X := X.up h'; replace X1 := X1.up h'; replace H := H.up h'; replace hP := hP.up h'; clear h'
  refine br_dec (fun e => no h fun q => ?_) (fun e3 => ?_)
  · have := q.2.2.1; omega
  refine drw_mk fun w14 h' _ => ?_
  replace h := h.trans h'; replace X := X.up h'; replace X1 := X1.up h'; replace H := H.up h'; replace hP := hP.up h'; clear h'
  refine flEx_mk (fun i _ vv w' => i = 5 → ∃ h : Hdr, vv = hv h ∧ Sl w' h.1 h.2.1 h.2.2 1 (ints .i64 (List.replicate up.length 0)))
    (fun _ _ _ _ _ h hb => fun e => by obtain ⟨t, q1, q2⟩ := h e; exact ⟨t, q1, q2.kept hb⟩) ?_
  refine rd_boxN X1 (by kernel_rfl) rfl ?_
  refine rd_boxN X (by kernel_rfl) rfl ?_
  refine rd_box0 (by kernel_rfl) X1 rfl rfl ?_
  refine flc_mk (fun w8 hb _ => wr_make tyI64 u.2.1 rfl rfl (by omega) (by unfold maxLen; omega) fun ad w' O hb' _ _ => ⟨hb', fun _ => ⟨(some ad, u.2.1, u.2.1), rfl, ?_⟩⟩) (fun (x32 : Hdr) => ?_)
  · have := (O w8.heap.size (Nat.le_refl _)).sl
    rw [made_zero, show u.2.1 = up.length from hul.symm] at this
    rw [show u.2.1 = up.length from hul.symm]
    exact this
  refine rd_box0 (by kernel_rfl) X1 rfl rfl ?_
  refine flend_mk fun w25 hb hf => ?_
  obtain ⟨z, ez, Sz⟩ := hf.1 rfl
  have := sl_inj ez
  subst this
  refine call_mono (right12 u r b up T rt hup n p x x32 u _ up w25 (hP.up hb) (H.up hb) Sz (H.up hb).u (by simp) rfl) ?_
  rintro x27 w28 ⟨hx, h28⟩
  refine ⟨x27, rfl, hx.trans ⟨fun q => ⟨by omega, by omega, by omega, q⟩, fun q => q.2.2.2⟩, (h.trans hb).trans h28⟩
theorem lat_ex3 : LatP [5] [[2]] [3] [(1, 2)] := by
  have c : colQ [[2]] [(1, 2)] 0 = 1 := by
    show (0 : Rat) + ratv 1 2 * ((2 : Int) : Rat) = 1
    kernel_rfl
  have d : rhsQ [[2]] [3] [(1, 2)] = mkRat 3 2 := by
    show (0 : Rat) + ratv 1 2 * ((3 : Int) : Rat) = mkRat 3 2
    kernel_rfl
  have e : sysE [5] [[2]] [3] = 0 := sysE_0 (by simp) (by simp) ⟨by simp, by simp, by simp⟩ ⟨rfl, by simp⟩
  refine ⟨combE_0 e rfl (fun p hp => ?_) ⟨fun k hk => ?_, ?_⟩, fun p hp => ?_, ?_⟩
  · simp at hp; subst hp; exact frac12
  · have : k = 0 := by simp at hk; omega
    subst this
    rw [c]; exact ⟨by decide, by decide, by decide⟩
  · rw [d]; exact ⟨by decide, by decide, by decide⟩
  · have : cols [5] [[2]] [(1, 2)] 1 = [fpair (colQ [[2]] [(1, 2)] 0)] := rfl
    have hp' : p ∈ cols [5] [[2]] [(1, 2)] 1 := hp
    rw [this, c] at hp'
    simp at hp'
    subst hp'
    rfl
  · rw [d]; decide
abbrev halfP : PT 1 := (⟨2, [(1, 2)], 0, 0, []⟩ : PN (PT 0))
theorem half_ok : ProofOk [5] [[2]] [3] 1 halfP := by
  refine ⟨sysE_0 (by simp) (by simp) ⟨by simp, by simp, by simp⟩ ⟨rfl, by simp⟩, by decide, by decide, ?_⟩
  exact (right_2 (p := (⟨2, [(1, 2)], 0, 0, []⟩ : PN (PT 0))) rfl ⟨rfl, rfl, rfl⟩).2 lat_ex3
theorem half_at {w : World} {x : Hdr} (S : Sl w x.1 x.2.1 x.2.2 2 (([(1, 2)] : List (Int × Int)).flatMap encF)) : PrAt w 1 halfP (2, x, 0, 0, (none, 0, 0), ()) :=
  ⟨⟨rfl, by decide, by decide⟩, ⟨S, fun y hy => by simp at hy; subst hy; exact ⟨⟨by decide, by decide⟩, ⟨by decide, by decide⟩⟩⟩, ⟨rfl, by decide, by decide⟩, ⟨rfl, by decide, by decide⟩, by decide, [], Sl.nil _ _, rfl, fun i y k h => by simp at h⟩
set_option maxRecDepth 100000 in
theorem argProof {w : World} {v : Value} (h : Go.Q.Arg Tryz.prog w 35 v) : ∃ x : CPr, v = prv x ∧ Go.Q.Read Tryz.prog w 35 (prc x) := by
  obtain ⟨cs, rfl, hsz, _⟩ := Go.V.Arg.struct Tryz.underlying35 h
  obtain ⟨x, hx, hR⟩ := readPr h.2
  refine ⟨x, ?_, hR⟩
  have : cs.toList = prc x := hx
  rw [← Array.toArray_toList (xs := cs), this]
end Go.Proofs.YtajpdnphamomjaaGreat

/- Solve where the points are few. -/



namespace Go.Proofs.YtajpdnphamomjaaGreat
open Go.RowKit Go.Q Go.Q.Num Go.V

section
variable {up : List Int} {T : List (List Int)} {rt lo hi xs : List Int}
theorem pt_sol (hok : sysE up T rt = 0) (h : Pt T rt (zs up.length) up xs) : SolP up T rt (one1s xs) ∧ xs.length = up.length ∧ ∀ n ∈ xs, I64 n := by
  obtain ⟨hul, hTl, hR, hA⟩ := sysE_ok hok
  have hl := h.lhi
  have each : ∀ (k : Nat) x u, xs[k]? = some x → up[k]? = some u → 0 ≤ x ∧ x ≤ u := fun k x u hx hu => by
    have hk : k < up.length := (List.getElem?_eq_some_iff.1 hu).1
    exact h.each k 0 u x (by rw [List.getElem?_replicate, if_pos hk]) hu hx
  refine ⟨⟨hok, by simp [hl], fun k p u hp hu => ?_, fun i row y hrow hy => ?_⟩, hl.symm, fun n hn => ?_⟩
  · rw [List.getElem?_map] at hp
    obtain ⟨x, hx, rfl⟩ := Option.map_eq_some_iff.1 hp
    exact (each_int (hR.1 u (mem_at hu)).2).2 (each k x u hx hu)
  · rw [dotN_int, hl, h.rows i row y hrow hy]
  · obtain ⟨k, hk⟩ := List.getElem?_of_mem hn
    have hkl : k < up.length := by have := (List.getElem?_eq_some_iff.1 hk).1; omega
    obtain ⟨u, hu⟩ : ∃ u, up[k]? = some u := ⟨_, List.getElem?_eq_getElem hkl⟩
    have h1 := each k n u hk hu
    have h2 := hR.1 u (mem_at hu)
    exact ⟨by omega, by omega⟩
theorem sol_pt (h : SolP up T rt (one1s xs)) : Pt T rt (zs up.length) up xs := by
  obtain ⟨hul, hTl, hR, hA⟩ := sysE_ok h.ok
  have hl : xs.length = up.length := by have := h.len; simpa using this
  refine ⟨by simp [hl], hl.symm, fun k a u x ha hu hx => ?_, fun i row y hrow hy => ?_⟩
  · have h1 := h.each k (x, 1) u (by rw [List.getElem?_map, hx]; rfl) hu
    have h2 := (each_int (hR.1 u (mem_at hu)).2).1 h1
    have : a = 0 := by
      have hk : k < up.length := (List.getElem?_eq_some_iff.1 hu).1
      rw [List.getElem?_replicate, if_pos hk] at ha; cases ha; rfl
    omega
  · have := h.rows i row y hrow hy
    rw [dotN_int, ← hl] at this
    exact Rat.intCast_inj.1 this
end
/-- what Solve says of a system -/
def SRes (up : List Int) (T : List (List Int)) (rt : List Int) (n : Nat) (x : HX) (w' : World) : Prop :=
  (x.2.2.1 = 0 ∧ ∃ xs, Sl w' x.1.1 x.1.2.1 x.1.2.2 1 (ints .i64 xs) ∧ Pt T rt (zs up.length) up xs) ∨
  (x.2.2.1 = 12 ∧ x.1 = (none, 0, 0) ∧ ∃ p : PT n, PrAt w' n p x.2.1 ∧ ProofOk up T rt n p)
theorem SRes.up {up : List Int} {T : List (List Int)} {rt : List Int} {n : Nat} {x : HX} {w w' : World} (h : SRes up T rt n x w) (hb : bel w w') : SRes up T rt n x w' := by
  rcases h with ⟨h1, xs, h2, h3⟩ | ⟨h1, h2, p, h3, h4⟩
  · exact .inl ⟨h1, xs, h2.up hb, h3⟩
  · exact .inr ⟨h1, h2, p, h3.up hb, h4⟩

set_option maxHeartbeats 1600000 in
theorem solveFew (u r b : Hdr) (up : List Int) (T : List (List Int)) (rt : List Int) (w : World) (H : Sys w u r b up T rt) (hok : sysE up T rt = 0) (few : ptsN (zs up.length) up up.length ≤ 500) :
    call Tryz.prog 9 [sysv u r b] rHX w (fun (x : HX) w' => SRes up T rt 18 x w' ∧ bel w w') := by
  obtain ⟨hul, hTl, hR, hA⟩ := sysE_ok hok
  have ob := ok_zero hR.1
  refine call_of (S9_calls u.1 u.2.1 u.2.2 r.1 r.2.1 r.2.2 b.1 b.2.1 b.2.2 w _ ?_)
  unfold S9
  have hu := H.u.int
  refine wr_box fun x1 w2 X1 h2 _ _ => ?_
  refine wr_alloc (z := .agg zpc.toArray) (by kernel_rfl) fun x3 w4 X3 h4 hb3 _ => ?_
  replace X1 : Box w4 x1 (sysc u r b) := Box.up (show Box w2 x1 (sysc u r b) from X1) h4
  replace X3 : Box w4 x3 zpc := X3
  have hx3 : w.heap.size ≤ x3.block := by rw [hb3]; exact h2.size
  have h := h2.trans h4
  clear h2 h4
  refine rd_boxN X1 (by kernel_rfl) rfl ?_
  refine call_mono (validL u r b up T rt w4 (H.up h)) ?_
  rintro x6 w7 ⟨rfl, hb⟩
  replace X1 := X1.up hb; replace X3 := X3.up hb; replace h := h.trans hb
  clear hb
  refine br_ne (fun e => absurd hok e) (fun _ => ?_)
  refine rd_boxN X1 (by kernel_rfl) rfl ?_
  refine call_mono (latticeF u r b up T rt w7 (H.up h) hok) ?_
  rintro (x11 : CPr × Bool × Unit) w12 ⟨hlat, hb⟩
  have x3l := X3.lt
  replace X1 := X1.up hb; replace X3 := X3.up hb; replace h := h.trans hb
  clear hb
  have back : ∀ (x : HX) (w' : World) (B N : Nat), Box w' x3 zpc → bel w w' → x3.block < B → N ≤ 2000 → HRes up T rt (zs up.length) up B 18 N x w' →
      wu Tryz.prog (Instr.storeAt 35 (.pointer (some x3)) (prv x.2.1)) w' fun w2 => rd Tryz.prog (loadVar 35 x3) (.agg [.int .i64, .slice, .int .i64, .int .i64, .slice]) w2 fun y =>
        ∃ v : HX, Value.tuple #[.slice x.1.1 x.1.2.1 x.1.2.2, prv y, .int .i64 x.2.2.1] = rHX.val v ∧ SRes up T rt 18 v w2 ∧ bel w w2 := by
    intro x w' B N X hb hB hN hr
    refine wu_box X (by kernel_rfl) (Nat.le_refl 5) rfl fun w3 X hg _ => ?_
    refine rd_boxV (show Box w3 x3 (prc x.2.1) from X) (by kernel_rfl) rfl ⟨x, rfl, ?_, hb.grownAt hg hx3⟩
    rcases hr with ⟨e1, xs, q1, q2, q3⟩ | ⟨e1, e2, p, q1, q2, q3⟩
    · exact .inl ⟨e1, xs, q1.grown hg fun ad ha _ e => by (have := q2 ad ha); injection e; omega, q3⟩
    · have P := q1.grown hg fun j hj => by injection hj; omega
      exact .inr ⟨e1, e2, p, P.at, hok, by omega, by have := depP_le P.at; omega, q2⟩
  refine var_mk (z := .agg zpc.toArray) (by kernel_rfl) (by kernel_rfl) rfl rfl fun x13 w15 X13 hb _ => ?_
  replace X13 : Box w15 x13 (prc x11.1) := X13
  replace X1 := X1.up hb; replace X3 := X3.up hb; replace h := h.trans hb
  refine br_mk (fun e1 => ?_) (fun e1 => ?_)
  · refine drw_mk fun w16 hb2 _ => ?_
    refine rd_boxN (X13.up hb2) (by kernel_rfl) rfl ?_
    obtain ⟨M, hM, P⟩ := hlat e1
    refine back ((none, 0, 0), x11.1, 12, ()) w16 w7.heap.size 1 (X3.up hb2) (h.trans hb2) x3l (by omega) (.inr ⟨rfl, rfl, (⟨2, M, 0, 0, []⟩ : PN (PT 17)), (P 17).up (hb.trans hb2), (right_2 (p := (⟨2, M, 0, 0, []⟩ : PN (PT 17))) rfl ⟨rfl, rfl, rfl⟩).2 hM, Nat.le_refl _⟩)
  refine rd_box0 (by kernel_rfl) X1 rfl rfl ?_
  refine wr_make tyI64 u.2.1 rfl rfl (by omega) (by unfold maxLen; omega) fun ad w22 O hb2 hb22 _ => ?_
  have Oz := O w15.heap.size (Nat.le_refl _)
  rw [made_zero] at Oz
  replace X1 := X1.up hb2; replace X3 := X3.up hb2; replace h := h.trans hb2
  refine rd_boxN X1 (by kernel_rfl) rfl ?_
  refine call_mono (pointsF u r b up T rt w22 (H.up h) hok) ?_
  rintro (x24 : Int × Bool × Unit) w25 ⟨hp, hb3⟩
  replace Oz := Own.kept Oz hb3
  replace X1 := X1.up hb3; replace X3 := X3.up hb3; replace h := h.trans hb3
  refine br_t (by rw [hp]; exact decide_eq_true few) ?_
  refine rd_boxN X1 (by kernel_rfl) rfl ?_
  refine wr_box fun x27 w28 X27 hb4 _ _ => ?_
  replace X27 : Box w28 x27 (srcC u r b 0) := X27
  replace Oz := Own.kept Oz hb4
  replace X1 := X1.up hb4; replace X3 := X3.up hb4; replace h := h.trans hb4
  refine rd_box0 (by kernel_rfl) X1 rfl rfl ?_
  have x3l' := X3.lt
  have b17 := bit_17 ob few
  have pp := pts_pos ob up.length
  refine call_mono (halveF u r b up T rt hok 0 x27 18 (some ad, u.2.1, u.2.1) u (zs up.length) up w28 (H.up h) X27 (by rw [hu]; exact Oz.sl) (H.up h).u (by simp) rfl ob (fun k => ⟨by rw [zs_getD]; exact Int.le_refl _, ?_⟩) (by omega)) ?_
  · rw [List.getD_eq_getElem?_getD]
    cases hk : up[k]? with
    | none => show (0 : Int) ≤ _; decide
    | some x => exact (hR.1 x (mem_at hk)).2
  rintro (x30 : HX) w31 ⟨R, hb5⟩
  exact back x30 w31 w28.heap.size _ (X3.up hb5) (h.trans hb5) x3l' (by omega) R
end Go.Proofs.YtajpdnphamomjaaGreat

/- Trying all points: the walk of Solvable. -/

namespace Go.Proofs.YtajpdnphamomjaaGreat
open Go.RowKit Go.Q Go.Q.Num Go.V

/-! ### points in their order -/
def oN (up xs : List Int) : Nat → Int
  | 0 => 0
  | k + 1 => oN up xs k + xs.getD k 0 * ptsN (zs up.length) up k
/-- in the box -/
def InB (up xs : List Int) : Prop := ∀ k, 0 ≤ xs.getD k 0 ∧ xs.getD k 0 ≤ up.getD k 0
section
variable {up xs ys : List Int}
theorem InB.ok (h : InB up xs) : OkBox (zs up.length) up := fun k => by rw [zs_getD]; have := h k; omega
theorem pts_succ (k : Nat) : ptsN (zs up.length) up (k + 1) = ptsN (zs up.length) up k * (up.getD k 0 + 1) := by
  show _ * (up.getD k 0 - (zs up.length).getD k 0 + 1) = _
  rw [zs_getD, Int.sub_zero]
theorem o_bd (h : InB up xs) : ∀ n, 0 ≤ oN up xs n ∧ oN up xs n < ptsN (zs up.length) up n
  | 0 => by show (0 : Int) ≤ 0 ∧ (0 : Int) < 1; omega
  | n + 1 => by
    obtain ⟨h1, h2⟩ := o_bd h n
    have hn := h n
    have hp := pts_pos h.ok n
    have h3 := Int.mul_nonneg hn.1 (show 0 ≤ ptsN (zs up.length) up n by omega)
    have h4 := Int.mul_le_mul_of_nonneg_right hn.2 (show 0 ≤ ptsN (zs up.length) up n by omega)
    have e : ptsN (zs up.length) up n * (up.getD n 0 + 1) = up.getD n 0 * ptsN (zs up.length) up n + ptsN (zs up.length) up n := by grind
    show 0 ≤ oN up xs n + _ ∧ oN up xs n + _ < ptsN (zs up.length) up (n + 1)
    rw [pts_succ, e]
    omega
theorem o_max (h : InB up xs) : ∀ n, (∀ k, k < n → xs.getD k 0 = up.getD k 0) → oN up xs n = ptsN (zs up.length) up n - 1
  | 0, _ => rfl
  | n + 1, hk => by
    show oN up xs n + xs.getD n 0 * _ = _
    rw [o_max h n fun k q => hk k (by omega), hk n (by omega), pts_succ]
    grind
theorem o_zero : ∀ n, (∀ k, k < n → xs.getD k 0 = 0) → oN up xs n = 0
  | 0, _ => rfl
  | n + 1, hk => by
    show oN up xs n + xs.getD n 0 * _ = 0
    rw [o_zero n fun k q => hk k (by omega), hk n (by omega)]
    omega
theorem o_inj (h : InB up xs) (h' : InB up ys) : ∀ n, oN up xs n = oN up ys n → ∀ k, k < n → xs.getD k 0 = ys.getD k 0
  | 0, _, k, hk => by omega
  | n + 1, e, k, hk => by
    obtain ⟨a1, a2⟩ := o_bd h n
    obtain ⟨b1, b2⟩ := o_bd h' n
    have e' : oN up xs n + xs.getD n 0 * ptsN (zs up.length) up n = oN up ys n + ys.getD n 0 * ptsN (zs up.length) up n := e
    have key : xs.getD n 0 = ys.getD n 0 := by
      rcases Int.lt_trichotomy (xs.getD n 0) (ys.getD n 0) with q | q | q
      · have := Int.mul_le_mul_of_nonneg_right (show xs.getD n 0 + 1 ≤ ys.getD n 0 by omega) (show 0 ≤ ptsN (zs up.length) up n by omega)
        rw [Int.add_mul] at this
        omega
      · exact q
      · have := Int.mul_le_mul_of_nonneg_right (show ys.getD n 0 + 1 ≤ xs.getD n 0 by omega) (show 0 ≤ ptsN (zs up.length) up n by omega)
        rw [Int.add_mul] at this
        omega
    rw [key] at e'
    rcases Nat.lt_or_ge k n with q | q
    · exact o_inj h h' n (by omega) k q
    · have : k = n := by omega
      subst this; exact key
theorem o_same : ∀ {n m : Nat}, (∀ k, n ≤ k → k < m → xs.getD k 0 = ys.getD k 0) → n ≤ m → oN up xs m - oN up ys m = oN up xs n - oN up ys n
  | n, m, h, hnm => by
    induction m with
    | zero => have : n = 0 := by omega
              subst this; rfl
    | succ m ih =>
      by_cases e : n = m + 1
      · subst e; rfl
      · have := ih (fun k q1 q2 => h k q1 (by omega)) (by omega)
        show oN up xs m + xs.getD m 0 * _ - (oN up ys m + ys.getD m 0 * _) = _
        rw [h m (by omega) (by omega)]
        omega
/-- the next point -/
theorem o_next {a n : Nat} (h : InB up xs) (ha : a < n) (hm : ∀ k, k < a → xs.getD k 0 = up.getD k 0) (h0 : ∀ k, k < a → ys.getD k 0 = 0) (h1 : ys.getD a 0 = xs.getD a 0 + 1) (h2 : ∀ k, a < k → ys.getD k 0 = xs.getD k 0) : oN up ys n = oN up xs n + 1 := by
  have e1 := o_max h a hm
  have e2 := o_zero (up := up) a h0
  have e3 := o_same (up := up) (n := a + 1) (m := n) (fun k q1 q2 => h2 k (by omega)) (by omega)
  have e4 : oN up ys (a + 1) = oN up ys a + (xs.getD a 0 + 1) * ptsN (zs up.length) up a := by show _ + ys.getD a 0 * _ = _; rw [h1]
  have e5 : oN up xs (a + 1) = oN up xs a + xs.getD a 0 * ptsN (zs up.length) up a := rfl
  rw [Int.add_mul] at e4
  omega
end
theorem ext_getD {xs ys : List Int} (hl : xs.length = ys.length) (h : ∀ k, k < xs.length → xs.getD k 0 = ys.getD k 0) : xs = ys := by
  refine List.ext_getElem hl fun k h1 h2 => ?_
  have := h k h1
  rw [List.getD_eq_getElem?_getD, List.getD_eq_getElem?_getD, List.getElem?_eq_getElem h1, List.getElem?_eq_getElem h2] at this
  simpa using this
theorem dotI_bd {r xs : List Int} (hr : ∀ x ∈ r, -1000000 ≤ x ∧ x ≤ 1000000) (hx : ∀ k, 0 ≤ xs.getD k 0 ∧ xs.getD k 0 ≤ 1000000000) : ∀ n : Nat, -(n : Int) * 1000000000000000 ≤ dotI r xs n ∧ dotI r xs n ≤ (n : Int) * 1000000000000000
  | 0 => by simp [dotI]
  | n + 1 => by
    have ih := dotI_bd hr hx n
    show _ ≤ dotI r xs n + dotJ r xs n ∧ dotI r xs n + dotJ r xs n ≤ _
    have : -1000000000000000 ≤ dotJ r xs n ∧ dotJ r xs n ≤ 1000000000000000 := by
      unfold dotJ
      cases hc : r[n]? with
      | none => dsimp only; omega
      | some c => cases hy : xs[n]? with
        | none => dsimp only; omega
        | some y =>
          have h1 := hx n
          rw [getD_at hy] at h1
          exact mul_bd (hr c (mem_at hc)) h1
    omega

set_option maxHeartbeats 3200000 in
theorem solvableF (u r b : Hdr) (up : List Int) (T : List (List Int)) (rt : List Int) (w : World) (H : Sys w u r b up T rt) (hok : sysE up T rt = 0) :
    call Tryz.prog 12 [sysv u r b] (.one (.one .bool)) w (fun v w' => (v = true ↔ ∃ xs, Pt T rt (zs up.length) up xs) ∧ bel w w') := by
  obtain ⟨hul, hTl, hR, hA⟩ := sysE_ok hok
  have ob := ok_zero hR.1
  have hAl := hA.1
  refine call_of (S12_calls u.1 u.2.1 u.2.2 r.1 r.2.1 r.2.2 b.1 b.2.1 b.2.2 w _ ?_)
  unfold S12
  have hu := H.u.int
  have hrl := H.r.len
  have hbl := H.b.int
  refine wr_box fun x1 w2 X1 h2 _ _ => ?_
  replace X1 : Box w2 x1 (sysc u r b) := X1
  refine rd_box0 (by kernel_rfl) X1 rfl rfl ?_
  refine wr_make tyI64 u.2.1 rfl rfl (by omega) (by unfold maxLen; omega) fun ad w5 O hb5 hbk _ => ?_
  have Oz := O w2.heap.size (Nat.le_refl _)
  rw [made_zero, ← hu] at Oz
  have x1l := X1.lt
  have had : w.heap.size ≤ ad.block := by rw [hbk]; exact h2.size
  have hne : some x1.block ≠ some ad.block := by intro e; injection e; omega
  have hf : ∀ {w' : World}, bel w w' → Sys w' u r b up T rt := fun hb => H.up hb
  have hup : ∀ k, up.getD k 0 ≤ 1000000000 := fun k => by
    rw [List.getD_eq_getElem?_getD]
    cases hk : up[k]? with
    | none => show (0 : Int) ≤ _; decide
    | some x => exact (hR.1 x (mem_at hk)).2
  let J : List Int → World → Prop := fun xs w' => OwnI w' w2.heap.size (some ad, up.length, up.length) xs ∧ Box w' x1 (sysc u r b) ∧ bel w w'
  have Jup : ∀ {xs : List Int} {a c : World}, J xs a → bel a c → J xs c := fun ⟨q1, q2, q3⟩ hb => ⟨Own.kept q1 hb, q2.up hb, q3.trans hb⟩
  rw [← hu]
  refine loop_gh (G := List Int) (fun xs _ w' => xs.length = up.length ∧ InB up xs ∧ (∀ ys : List Int, ys.length = up.length → InB up ys → oN up ys up.length < oN up xs up.length → ¬ Pt T rt (zs up.length) up ys) ∧ J xs w') (fun xs => (ptsN (zs up.length) up up.length - oN up xs up.length).toNat) (zs up.length) ⟨by simp, fun k => by rw [zs_getD]; have := ob k; rw [zs_getD] at this; omega, fun ys _ hy hlt => ?_, Oz, X1.up hb5, h2.trans hb5⟩ ?_
  · rw [o_zero (xs := zs up.length) up.length fun k _ => zs_getD _ k] at hlt
    have := (o_bd hy up.length).1
    omega
  rintro xs _ w8 ⟨hxl, hin, hbefore, Jw⟩ again hag _
  have hx9 : ∀ k, 0 ≤ xs.getD k 0 ∧ xs.getD k 0 ≤ 1000000000 := fun k => by have := hin k; have := hup k; omega
  have toPt : ∀ {ys : List Int}, ys.length = up.length → InB up ys → (∀ (i : Nat) row y, T[i]? = some row → rt[i]? = some y → dotI row ys up.length = y) → Pt T rt (zs up.length) up ys := fun {ys} hl hi h => ⟨by simp [hl], hl.symm, fun k a c x ha hc hx => by
      have hk := hi k
      rw [getD_at hc, getD_at hx] at hk
      have : (zs up.length).getD k 0 = a := getD_at ha
      rw [zs_getD] at this
      omega, fun i row y q1 q2 => by rw [hl]; exact h i row y q1 q2⟩
  have ofPt : ∀ {ys : List Int}, Pt T rt (zs up.length) up ys → ys.length = up.length ∧ InB up ys := fun {ys} h => ⟨h.lhi.symm, fun k => by
    have hl := h.lhi
    by_cases hk : k < up.length
    · obtain ⟨c, hc⟩ : ∃ c, up[k]? = some c := ⟨_, List.getElem?_eq_getElem hk⟩
      obtain ⟨x, hx⟩ : ∃ x, ys[k]? = some x := ⟨_, List.getElem?_eq_getElem (by omega)⟩
      rw [getD_at hc, getD_at hx]
      exact h.each k 0 c x (by rw [List.getElem?_replicate, if_pos hk]) hc hx
    · rw [List.getD_eq_getElem?_getD, List.getD_eq_getElem?_getD, List.getElem?_eq_none (by omega), List.getElem?_eq_none (by omega)]; exact ⟨Int.le_refl _, Int.le_refl _⟩⟩
  refine loop_gh (G := Nat) (fun i s w' => s.2.1 = (i : Int) ∧ i ≤ r.2.1 ∧ (s.1 = true ↔ ∀ j, j < i → ∀ row y, T[j]? = some row → rt[j]? = some y → dotI row xs up.length = y) ∧ J xs w') (fun i => r.2.1 - i) 0 ⟨rfl, Nat.zero_le _, ⟨fun _ j hj => absurd hj (Nat.not_lt_zero _), fun _ => rfl⟩, Jw⟩ ?_
  clear Jw
  rintro i ⟨fine, s2, _⟩ w11 ⟨rfl, hi, hfine, Jw⟩ again2 hag2 _
  dsimp only at hfine ⊢
  refine rd_box (by kernel_rfl) Jw.2.1 (i := 1) rfl rfl ?_
  refine br_dec (fun e1 => ?_) (fun e1 => ?_)
  · dsimp only at e1
    have hi' : i < r.2.1 := by omega
    obtain ⟨row, hrow⟩ : ∃ row, T[i]? = some row := ⟨_, List.getElem?_eq_getElem (by omega)⟩
    obtain ⟨y, hy⟩ : ∃ y, rt[i]? = some y := ⟨_, List.getElem?_eq_getElem (by omega)⟩
    have hrl2 := hA.2 row (mem_at hrow)
    have hcR := hR.2.2 row (mem_at hrow)
    have more : ∀ {P : Prop}, (P ↔ dotI row xs up.length = y) → ((fine = true ∧ P) ↔ ∀ j, j < i + 1 → ∀ row y, T[j]? = some row → rt[j]? = some y → dotI row xs up.length = y) := fun {P} hP => by
      rw [hfine, hP]
      refine ⟨fun ⟨q1, q2⟩ j hj row2 y2 h1 h2 => ?_, fun q => ⟨fun j hj => q j (by omega), q i (by omega) row y hrow hy⟩⟩
      rcases Nat.lt_or_ge j i with hji | hji
      · exact q1 j hji row2 y2 h1 h2
      · have : j = i := by omega
        subst this
        rw [hrow] at h1; rw [hy] at h2
        cases h1; cases h2; exact q2
    refine loop_gh (G := Nat) (fun k s w' => s.1 = dotI row xs k ∧ s.2.1 = (k : Int) ∧ k ≤ up.length ∧ J xs w') (fun k => up.length - k) 0 ⟨rfl, rfl, Nat.zero_le _, Jw⟩ ?_
    clear Jw
    rintro k ⟨s1, s2, _⟩ w15 ⟨rfl, rfl, hk, Jw⟩ again3 hag3 _
    dsimp only at hk ⊢
    have bd := dotI_bd hcR hx9 k
    refine br_dec (fun e2 => ?_) (fun e2 => ?_)
    · have hk' : k < up.length := by omega
      refine drw_mk fun w16 hb _ => ?_
      replace Jw := Jup Jw hb
      refine rd_box (by kernel_rfl) Jw.2.1 (i := 1) rfl rfl ?_
      refine (hf Jw.2.2).r.at tyTab (by kernel_rfl) (j := i) rfl hi' fun hr row2 hrow2 S => ?_
      obtain rfl : row = row2 := by rw [hrow] at hrow2; injection hrow2
      have hrw := S.int
      refine at_int tyI64 (by kernel_rfl) S (j := k) rfl (by omega) fun c hc => ?_
      refine at_int tyI64 (by kernel_rfl) Jw.1.sl (j := k) rfl hk' fun x hx => ?_
      have hxk := hx9 k
      rw [getD_at hx] at hxk
      have m1 := mul_bd (hcR c (mem_at hc)) hxk
      refine z_i64 (by omega) ?_
      refine z_i64 (by omega) ?_
      refine z_i64 (by omega) ?_
      exact hag3 (k + 1) _ _ ⟨(dotI_step hc hx).symm, rfl, hk', Jw⟩ (by omega)
    · have hk' : k = up.length := by omega
      subst hk'
      refine br_mk (fun e3 => ?_) (fun e3 => ?_)
      · refine rd_box (by kernel_rfl) Jw.2.1 (i := 2) rfl rfl ?_
        refine at_int tyI64 (by kernel_rfl) (hf Jw.2.2).b (j := i) rfl (by omega) fun y2 hy2 => ?_
        obtain rfl : y = y2 := by rw [hy] at hy2; injection hy2
        refine z_i64 (by omega) ?_
        refine hag2 (i + 1) _ _ ⟨rfl, hi', ?_, Jw⟩ (by omega)
        rw [← more (P := (dotI row xs up.length == y) = true) (by simp), e3]
        simp
      · refine z_i64 (by omega) ?_
        refine hag2 (i + 1) _ _ ⟨rfl, hi', ?_, Jw⟩ (by omega)
        rw [← more (P := dotI row xs up.length = y) Iff.rfl, e3]
        simp
  · have hi' : i = r.2.1 := by dsimp only at e1; omega
    replace hfine : fine = true ↔ ∀ (j : Nat) row y, T[j]? = some row → rt[j]? = some y → dotI row xs up.length = y := hfine.trans ⟨fun q j row y h1 h2 => q j (by have := (List.getElem?_eq_some_iff.1 h1).1; omega) row y h1 h2, fun q j _ => q j⟩
    refine br_mk (fun e2 => ⟨true, rfl, ⟨fun _ => ⟨xs, toPt hxl hin (hfine.1 e2)⟩, fun _ => rfl⟩, Jw.2.2⟩) (fun e2 => ?_)
    have hnot : ¬ Pt T rt (zs up.length) up xs := fun q => by
      have := hfine.2 fun j row y h1 h2 => by rw [← hxl]; exact q.rows j row y h1 h2
      rw [e2] at this; cases this
    have htill : ∀ ys : List Int, ys.length = up.length → InB up ys → oN up ys up.length ≤ oN up xs up.length → ¬ Pt T rt (zs up.length) up ys := fun ys hyl hy hle => by
      rcases Int.lt_or_eq_of_le hle with q | q
      · exact hbefore ys hyl hy q
      · have : ys = xs := ext_getD (by omega) fun k hk => o_inj hy hin up.length q k (by omega)
        rw [this]; exact hnot
    refine join_mk (fun s w' => ∃ a : Nat, s.1 = (a : Int) ∧ a ≤ up.length ∧ (∀ k, k < a → xs.getD k 0 = up.getD k 0) ∧ (a < up.length → xs.getD a 0 ≠ up.getD a 0) ∧ ∃ ys : List Int, ys.length = up.length ∧ (∀ k, k < a → ys.getD k 0 = 0) ∧ (∀ k, a ≤ k → ys.getD k 0 = xs.getD k 0) ∧ J ys w') (fun K hK => ?_) ?_
    · refine loop_gh (G := Nat × List Int) (fun g s w' => s.1 = (g.1 : Int) ∧ g.1 ≤ up.length ∧ (∀ k, k < g.1 → xs.getD k 0 = up.getD k 0) ∧ g.2.length = up.length ∧ (∀ k, k < g.1 → g.2.getD k 0 = 0) ∧ (∀ k, g.1 ≤ k → g.2.getD k 0 = xs.getD k 0) ∧ J g.2 w') (fun g => up.length - g.1) (0, xs) ⟨rfl, Nat.zero_le _, fun k hk => absurd hk (Nat.not_lt_zero _), hxl, fun k hk => absurd hk (Nat.not_lt_zero _), fun _ _ => rfl, Jw⟩ ?_
      clear Jw
      rintro ⟨a, ys⟩ ⟨s1, _⟩ w42 ⟨rfl, ha, hmax, hyl, hy0, hyx, Jw⟩ again4 hag4 _
      dsimp only at ha hmax hyl hy0 hyx Jw ⊢
      refine drw_mk fun w43 hb _ => ?_
      replace Jw := Jup Jw hb
      refine br_dec (fun e3 => ?_) (fun e3 => hK _ _ ⟨a, rfl, ha, hmax, fun q => absurd (by omega) e3, ys, hyl, hy0, hyx, Jw⟩)
      have ha' : a < up.length := by omega
      refine at_int tyI64 (by kernel_rfl) Jw.1.sl (j := a) rfl ha' fun x hx => ?_
      refine rd_box0 (by kernel_rfl) Jw.2.1 rfl rfl ?_
      refine at_int tyI64 (by kernel_rfl) (hf Jw.2.2).u (j := a) rfl (by omega) fun v hv => ?_
      have gx : xs.getD a 0 = x := by rw [← hyx a (Nat.le_refl _)]; exact getD_at hx
      refine br_eq (fun e4 => ?_) (fun e4 => hK _ _ ⟨a, rfl, ha, hmax, fun _ => by rw [gx, getD_at hv]; exact e4, ys, hyl, hy0, hyx, Jw⟩)
      refine set_mk tyI64 Jw.1 (j := a) rfl ha' rfl fun w50 O' hg _ => ?_
      rw [ints_set] at O'
      refine z_i64 (by omega) ?_
      refine hag4 (a + 1, ys.set a 0) _ _ ⟨rfl, ha', fun k hk => ?_, by simp [hyl], fun k hk => ?_, fun k hk => ?_, O', Jw.2.1.grown hg hne, Jw.2.2.grownAt hg had⟩ (by dsimp only; omega)
      · rcases Nat.lt_or_ge k a with q | q
        · exact hmax k q
        · have : k = a := by dsimp only at hk; omega
          subst this; rw [gx, getD_at hv]; exact e4
      · rcases Nat.lt_or_ge k a with q | q
        · rw [Off.set a ys 0 k (by omega)]; exact hy0 k q
        · have : k = a := by dsimp only at hk; omega
          subst this; rw [List.getD_eq_getElem?_getD, List.getElem?_set_self (by omega)]; rfl
      · rw [Off.set a ys 0 k (by dsimp only at hk; omega)]; exact hyx k (by dsimp only at hk; omega)
    · rintro ⟨s1, _⟩ w34 ⟨a, rfl, ha, hmax, hstop, ys, hyl, hy0, hyx, Jw⟩ _
      refine br_eq (fun e3 => ?_) (fun e3 => ?_)
      · refine ⟨false, rfl, ⟨fun q => (by cases q), fun ⟨zs', hz⟩ => ?_⟩, Jw.2.2⟩
        have ha' : a = up.length := by dsimp only at e3; omega
        subst ha'
        obtain ⟨hzl, hzi⟩ := ofPt hz
        have h1 := o_max hin up.length hmax
        have h2 := (o_bd hzi up.length).2
        exact absurd hz (htill zs' hzl hzi (by omega))
      · have ha' : a < up.length := by dsimp only at e3; omega
        have hlt : xs.getD a 0 < up.getD a 0 := by have := hstop ha'; have := hin a; omega
        refine at_int tyI64 (by kernel_rfl) Jw.1.sl (j := a) rfl ha' fun x hx => ?_
        have gx : xs.getD a 0 = x := by rw [← hyx a (Nat.le_refl _)]; exact getD_at hx
        have := hup a
        have := hin a
        refine z_i64 (by omega) ?_
        refine set_mk tyI64 Jw.1 (j := a) rfl ha' rfl fun w39 O' hg _ => ?_
        rw [ints_set] at O'
        have q0 : ∀ k, k < a → (ys.set a (x + 1)).getD k 0 = 0 := fun k hk => by rw [Off.set a ys _ k (by omega)]; exact hy0 k hk
        have q1 : (ys.set a (x + 1)).getD a 0 = xs.getD a 0 + 1 := by rw [List.getD_eq_getElem?_getD, List.getElem?_set_self (by omega), gx]; rfl
        have q2 : ∀ k, a < k → (ys.set a (x + 1)).getD k 0 = xs.getD k 0 := fun k hk => by rw [Off.set a ys _ k (by omega)]; exact hyx k (by omega)
        have hnx := o_next hin ha' hmax q0 q1 q2
        have hlast := (o_bd hin up.length).2
        refine hag (ys.set a (x + 1)) _ _ ⟨by simp [hyl], fun k => ?_, fun zs' hzl hzi hz => htill zs' hzl hzi (by omega), O', Jw.2.1.grown hg hne, Jw.2.2.grownAt hg had⟩ (by omega)
        rcases Nat.lt_trichotomy k a with q | q | q
        · rw [q0 k q]; have := hin k; omega
        · subst q; rw [q1]; omega
        · rw [q2 k q]; exact hin k
end Go.Proofs.YtajpdnphamomjaaGreat

/- The walk of IntegralNarrow. -/


namespace Go.Proofs.YtajpdnphamomjaaGreat
open Go.RowKit Go.Q Go.Q.Num Go.V

theorem fill_h2 (a b : Hdr) : Instr.fill (fun i => some (i * 1, 1)) ((Array.range (2 * 1)).map ((Value.slice none 0 0).cells[· % (Value.slice none 0 0).cells.size]!)) (#[(0, .slice a.1 a.2.1 a.2.2), (1, .slice b.1 b.2.1 b.2.2)] : Array (Nat × Value)).toList = some #[.slice a.1 a.2.1 a.2.2, .slice b.1 b.2.1 b.2.2] := by kernel_rfl
theorem fill_i2 (a b : Int) : Instr.fill (fun i => some (i * 1, 1)) ((Array.range (2 * 1)).map ((Value.int .i64 0).cells[· % (Value.int .i64 0).cells.size]!)) (#[(0, .int .i64 a), (1, .int .i64 b)] : Array (Nat × Value)).toList = some #[.int .i64 a, .int .i64 b] := by kernel_rfl
theorem litI2 {a b : Int} {w : World} {k : Hdr → World → Prop} (hk : ∀ (x : Hdr) w', bel w w' → Sl w' x.1 x.2.1 x.2.2 1 (ints .i64 [a, b]) → k x w') : wr Tryz.prog (Instr.buildSlice 26 2 #[(0, .int .i64 a), (1, .int .i64 b)]) (.one .slice) w k :=
  wr_lit tyI64 #[.int .i64 a, .int .i64 b] (fill_i2 a b) (by omega) (by omega) rfl (by unfold maxLen; omega) fun ad w' O hb _ _ => hk (some ad, 2, 2) w' hb (O w.heap.size (Nat.le_refl _)).sl
theorem litT2 {h g : Hdr} {r1 r2 : List Int} {w : World} {k : Hdr → World → Prop} (H : Sl w h.1 h.2.1 h.2.2 1 (ints .i64 r1)) (G : Sl w g.1 g.2.1 g.2.2 1 (ints .i64 r2)) (hk : ∀ (x : Hdr) w', bel w w' → TabI .i64 w' x [r1, r2] → k x w') :
    wr Tryz.prog (Instr.buildSlice 27 2 #[(0, .slice h.1 h.2.1 h.2.2), (1, .slice g.1 g.2.1 g.2.2)]) (.one .slice) w k :=
  wr_lit tyTab #[.slice h.1 h.2.1 h.2.2, .slice g.1 g.2.1 g.2.2] (fill_h2 h g) (by omega) (by omega) rfl (by unfold maxLen; omega) fun ad w' O hb _ _ => hk (some ad, 2, 2) w' hb
    ⟨[h, g], (O w.heap.size (Nat.le_refl _)).sl, rfl, fun i x r h1 h2 => by
      match i, h1, h2 with
      | 0, h1, h2 => cases h1; cases h2; exact H.kept hb
      | 1, h1, h2 => cases h1; cases h2; exact G.kept hb
      | i + 2, h1, _ => simp at h1⟩
/-- what Solve says agrees with the reference's tests and with the trial of all points -/
theorem narrow_tail {up : List Int} {T : List (List Int)} {rt : List Int} {x : HX} {w : World} {n : Nat} (h : SRes up T rt n x w) :
    ((∃ xs, Pt T rt (zs up.length) up xs) → x.2.2.1 = 0 ∧ ∃ xs, Sl w x.1.1 x.1.2.1 x.1.2.2 1 (ints .i64 xs) ∧ Pt T rt (zs up.length) up xs) ∧
    ((¬ ∃ xs, Pt T rt (zs up.length) up xs) → x.2.2.1 = 12 ∧ x.1 = (none, 0, 0) ∧ ∃ p : PT n, PrAt w n p x.2.1 ∧ ProofOk up T rt n p) := by
  rcases h with ⟨h1, xs, h2, h3⟩ | ⟨h1, h2, p, h3, h4⟩
  · exact ⟨fun _ => ⟨h1, xs, h2, h3⟩, fun q => absurd ⟨xs, h3⟩ q⟩
  · exact ⟨fun ⟨xs, q⟩ => absurd q (right_sound n p _ _ h4.2.2.2 (by simp) rfl), fun _ => ⟨h1, h2, p, h3, h4⟩⟩

set_option maxHeartbeats 1600000 in
theorem narrow (v0 v1 v2 v3 : Int) (w : World) (a0 : 0 ≤ v0 ∧ v0 ≤ 65535) (a1 : 0 ≤ v1 ∧ v1 ≤ 65535) (a2 : -128 ≤ v2 ∧ v2 ≤ 127) (a3 : -128 ≤ v3 ∧ v3 ≤ 127) :
    Calls Tryz.prog 4 #[.int .u16 v0, .int .u16 v1, .int .i8 v2, .int .i8 v3] w (fun e w' => e = .returned (.bool true) ∧ Below w.heap.size w w') := by
  refine Calls.mono (S4_calls v0 v1 v2 v3 w (fun v w' => v = .bool true ∧ bel w w') ?_) (by rintro e w' ⟨v, rfl, rfl, hb⟩; exact ⟨rfl, hb⟩)
  unfold S4
  have m0 : v0.tmod 500 = v0 % 500 := Int.tmod_eq_emod_of_nonneg a0.1
  have m1 : v1.tmod 1000 = v1 % 1000 := Int.tmod_eq_emod_of_nonneg a1.1
  have m2 : v1.tmod 7 = v1 % 7 := Int.tmod_eq_emod_of_nonneg a1.1
  refine rdp_rem (by decide) ?_
  rw [m0]
  refine z_i64 (by omega) ?_
  refine litI fun x3 w4 h S3 => ?_
  refine z_i64 (by omega) ?_
  refine litI fun x6 w7 hb S6 => ?_
  replace S3 := S3.up hb; replace h := h.trans hb
  refine z_i64 (by omega) ?_
  refine litI fun x9 w10 hb S9 => ?_
  replace S3 := S3.up hb; replace S6 := S6.up hb; replace h := h.trans hb
  refine litT2 S6 S9 fun x11 w12 hb T11 => ?_
  replace S3 := S3.up hb; replace h := h.trans hb
  clear S6 S9
  refine rdp_rem (by decide) ?_
  rw [m1]
  refine z_i64 (by omega) ?_
  refine rdp_rem (by decide) ?_
  rw [m2]
  refine z_i64 (by omega) ?_
  refine z_i64 (by omega) ?_
  have b7 : 0 ≤ v1 % 7 ∧ v1 % 7 ≤ 6 := by omega
  have bm : -10000 ≤ v1 % 7 * v3 ∧ v1 % 7 * v3 ≤ 10000 := by
    have q1 := Int.mul_le_mul_of_nonneg_left a3.2 b7.1
    have q2 := Int.mul_le_mul_of_nonneg_left a3.1 b7.1
    omega
  refine z_i64 (by omega) ?_
  generalize hy : v1 % 7 * v3 = y at bm ⊢
  clear hy
  refine litI2 fun x19 w20 hb S19 => ?_
  replace S3 := S3.up hb; replace T11 := T11.up hb; replace h := h.trans hb
  have H : Sys w20 x3 x11 x19 [v0 % 500] [[v2], [v3]] [v1 % 1000, y] := ⟨S3, T11, S19⟩
  clear S3 T11 S19
  refine var_mk (z := .agg #[.slice none 0 0, .slice none 0 0, .slice none 0 0]) (by kernel_rfl) (by kernel_rfl) rfl rfl fun x21 w23 X hb _ => ?_
  replace X : Box w23 x21 (sysc x3 x11 x19) := X
  replace H := H.up hb; replace h := h.trans hb
  have hok : sysE [v0 % 500] [[v2], [v3]] [v1 % 1000, y] = 0 := by
    refine sysE_0 (by simp) (by simp) ⟨?_, ?_, ?_⟩ ⟨rfl, ?_⟩
    · intro x hx; simp at hx; omega
    · intro x hx; simp at hx; omega
    · intro r hr x hx; simp at hr; rcases hr with rfl | rfl <;> simp at hx <;> omega
    · intro r hr; simp at hr; rcases hr with rfl | rfl <;> rfl
  generalize hup : [v0 % 500] = up at *
  generalize hT : [[v2], [v3]] = T at *
  generalize hrt : [v1 % 1000, y] = rt at *
  have few : ptsN (zs up.length) up up.length ≤ 500 := by
    subst hup
    show (1 : Int) * (v0 % 500 - 0 + 1) ≤ 500
    omega
  clear hT hrt m0 m1 m2
  refine rd_boxN X (by kernel_rfl) rfl ?_
  refine call_mono (solveFew x3 x11 x19 up T rt w23 H hok few) ?_
  rintro (x25 : HX) w26 ⟨R, hb⟩
  replace X := X.up hb; replace H := H.up hb; replace h := h.trans hb
  refine var_mk (z := .agg zpc.toArray) (by kernel_rfl) (by kernel_rfl) rfl rfl fun x27 w29 X27 hb _ => ?_
  replace X27 : Box w29 x27 (prc x25.2.1) := X27
  replace X := X.up hb; replace H := H.up hb; replace h := h.trans hb; replace R := R.up hb
  refine rd_boxN X (by kernel_rfl) rfl ?_
  refine call_mono (solvableF x3 x11 x19 up T rt w29 H hok) ?_
  rintro x31 w32 ⟨hx31, hb⟩
  replace X := X.up hb; replace X27 := X27.up hb; replace H := H.up hb; replace h := h.trans hb; replace R := R.up hb
  obtain ⟨R1, R2⟩ := narrow_tail R
  obtain ⟨hul, _, _, _⟩ := sysE_ok hok
  refine br_mk (fun e1 => ?_) (fun e1 => ?_)
  · obtain ⟨q0, xs, S, P⟩ := R1 (hx31.1 e1)
    obtain ⟨sol, sl, si⟩ := pt_sol hok P
    refine br_eq (fun _ => ?_) (fun q => absurd q0 q)
    refine rd_boxN X (by kernel_rfl) rfl ?_
    refine call_mono (chk12 x3 x11 x19 x25.1 up T rt xs w32 H S si (by omega)) ?_
    rintro x34 w35 ⟨hx, hb⟩
    exact ⟨by rw [hx.2 sol], h.trans hb⟩
  · obtain ⟨q0, _, p, P, ok⟩ := R2 (fun q => by have := hx31.2 q; rw [e1] at this; cases this)
    refine br_eq (fun _ => ?_) (fun q => absurd q0 q)
    refine rd_boxN X (by kernel_rfl) rfl ?_
    refine rd_boxN X27 (by kernel_rfl) rfl ?_
    refine call_mono (chkP12 x3 x11 x19 up T rt (by omega) 18 (by omega) p x25.2.1 w32 P H) ?_
    rintro x38 w39 ⟨hx, hb⟩
    exact ⟨by rw [hx.2 ok], h.trans hb⟩

theorem argU16 {w : World} {v : Value} (h : Go.Q.Arg Tryz.prog w 43 v) : ∃ n : Int, v = .int .u16 n ∧ 0 ≤ n ∧ n ≤ 65535 := by
  obtain ⟨n, rfl, hw⟩ := h.int Tryz.underlying43
  simp [Lit.wf, IntKind.min, IntKind.max, IntKind.signed, IntKind.bits] at hw
  exact ⟨n, rfl, by omega, by omega⟩
theorem argI8 {w : World} {v : Value} (h : Go.Q.Arg Tryz.prog w 44 v) : ∃ n : Int, v = .int .i8 n ∧ -128 ≤ n ∧ n ≤ 127 := by
  obtain ⟨n, rfl, hw⟩ := h.int Tryz.underlying44
  simp [Lit.wf, IntKind.min, IntKind.max, IntKind.signed, IntKind.bits] at hw
  exact ⟨n, rfl, by omega, by omega⟩
end Go.Proofs.YtajpdnphamomjaaGreat

/- The conditions of functions, printed by our tool; each is checked against the code by the kernel. -/



namespace Go.Proofs
open Go Go.V Go.RowKit
/-- querylab/querylablaw12.proof -/
def S15 (t_ : (Option Addr)) (s_0a : Option Addr) (s_0n : Nat) (s_0c : Nat) (s_1a : Option Addr) (s_1n : Nat) (s_1c : Nat) (s_2a : Option Addr) (s_2n : Nat) (s_2c : Nat) (deep_ : Int) (w0 : World) (R : Value → World → Prop) : Prop :=
 wr Tryz.prog (Instr.box 29 (.agg #[(.slice s_0a s_0n s_0c), (.slice s_1a s_1n s_1c), (.slice s_2a s_2n s_2c)])) (.one .addr) w0 fun (x1 : Addr) (w2 : World) =>
 wr Tryz.prog (Instr.alloc 35 true (.tuple #[])) (.one .addr) w2 fun (x3 : Addr) (w4 : World) =>
 join (T := (Bool × Unit)) (fun (s6 : (Bool × Unit)) w7 => ∀ _ : Nat → Value,
 br s6.1 (call Tryz.prog 17 [(.pointer t_), (.int .i64 2)] (.one (.one (.int .i64))) w7 fun (x8 : Int) (w9 : World) =>
 z (IntKind.wrap .i64 (1 + x8)) fun (z10 : Int) =>
 wr Tryz.prog (Instr.alloc 35 true (.tuple #[])) (.one .addr) w9 fun (x11 : Addr) (w12 : World) =>
 wu Tryz.prog (Instr.storeAt 35 (.pointer (some x11)) (.agg #[(.int .i64 z10), (.slice none 0 0), (.int .i64 0), (.int .i64 0), (.slice none 0 0)])) w12 fun (w13 : World) =>
 loop (T := (Int × Unit)) (0, ()) w13 fun (again14 : (Int × Unit) → World → Prop) (s15 : (Int × Unit)) w16 => ∀ _ : Nat → Value,
 rd Tryz.prog (Instr.loadAt 27 (.pointer (some (Addr.add x1 1)))) (.one .slice) w16 fun (x17 : (Option Addr × Nat × Nat)) =>
 br (decide (s15.1 < ((x17.2.1 : Nat) : Int))) (drw w16 fun w18 => flExC w18 fun E21 G20 Y19 F22 =>
 rdE Tryz.prog (ER Y19 [7, 9] E21) (Instr.loadAt 32 (.pointer (some (Addr.add x11 1)))) (.one .slice) w18 fun (x23 : (Option Addr × Nat × Nat)) =>
 flcC Y19 3 E21 w18 (fun _w25 => True) (fun (D26 : Nat → Bool) (w24 : World) =>
   call Tryz.prog 17 [(.pointer t_), (.int .i64 5)] (.one (.one (.int .i64))) w24 fun (x27 : Int) (w28 : World) =>
 (E21 w24 w28 ∧ G20 3 w24 w28 ∧ Y19 (setD D26 3) w28 ∧ F22 3 [(.pointer t_), (.int .i64 5)] (.int .i64 x27) w28))
  fun (x29 : Int) =>
 z (IntKind.wrap .i64 (x29 - 2)) fun (z30 : Int) =>
 flcC Y19 6 E21 w18 (fun w32 => F22 3 [(.pointer t_), (.int .i64 5)] (.int .i64 x29) w32 ∧ True) (fun (D33 : Nat → Bool) (w31 : World) =>
   wr Tryz.prog (Instr.buildSlice 32 1 #[(0, (.agg #[(.int .i64 z30), (.int .i64 1)]))]) (.one .slice) w31 fun (x34 : (Option Addr × Nat × Nat)) (w35 : World) =>
 (E21 w31 w35 ∧ G20 6 w31 w35 ∧ Y19 (setD D33 6) w35 ∧ F22 6 [] (.slice x34.1 x34.2.1 x34.2.2) w35))
  fun (x36 : (Option Addr × Nat × Nat)) =>
 flendC Y19 [6, 3] E21 w18 (fun w38 => F22 6 [] (.slice x36.1 x36.2.1 x36.2.2) w38 ∧ F22 3 [(.pointer t_), (.int .i64 5)] (.int .i64 x29) w38 ∧ True) fun w37 =>
 wr Tryz.prog (Builtin.append_ #[32, 32] 32 #[(.slice x23.1 x23.2.1 x23.2.2), (.slice x36.1 x36.2.1 x36.2.2)]) (.one .slice) w37 fun (x39 : (Option Addr × Nat × Nat)) (w40 : World) =>
 wu Tryz.prog (Instr.storeAt 32 (.pointer (some (Addr.add x11 1))) (.slice x39.1 x39.2.1 x39.2.2)) w40 fun (w41 : World) =>
 z (IntKind.wrap .i64 (s15.1 + 1)) fun (z42 : Int) =>
 again14 (z42, ()) w41)
 (join (T := (Unit)) (fun (_s44 : (Unit)) w45 => ∀ _ : Nat → Value,
 rd Tryz.prog (Instr.loadAt 35 (.pointer (some x11))) (.agg [(.int .i64), .slice, (.int .i64), (.int .i64), .slice]) w45 fun (x46 : (Int × (Option Addr × Nat × Nat) × Int × Int × (Option Addr × Nat × Nat) × Unit)) =>
 wu Tryz.prog (Instr.storeAt 35 (.pointer (some x3)) (.agg #[(.int .i64 x46.1), (.slice x46.2.1.1 x46.2.1.2.1 x46.2.1.2.2), (.int .i64 x46.2.2.1), (.int .i64 x46.2.2.2.1), (.slice x46.2.2.2.2.1.1 x46.2.2.2.2.1.2.1 x46.2.2.2.2.1.2.2)])) w45 fun (w47 : World) =>
 rd Tryz.prog (loadVar 35 x3) (.agg [(.int .i64), .slice, (.int .i64), (.int .i64), .slice]) w47 fun (x48 : (Int × (Option Addr × Nat × Nat) × Int × Int × (Option Addr × Nat × Nat) × Unit)) =>
 R (.agg #[(.int .i64 x48.1), (.slice x48.2.1.1 x48.2.1.2.1 x48.2.1.2.2), (.int .i64 x48.2.2.1), (.int .i64 x48.2.2.2.1), (.slice x48.2.2.2.2.1.1 x48.2.2.2.2.1.2.1 x48.2.2.2.2.1.2.2)]) w47)
  fun (K43 : (Unit) → World → Prop) =>
 rd Tryz.prog (Instr.loadAt 32 (.pointer (some (Addr.add x11 1)))) (.one .slice) w16 fun (x49 : (Option Addr × Nat × Nat)) =>
 br (decide (((x49.2.1 : Nat) : Int) > 0)) (rd Tryz.prog (Instr.loadAt 3 (.pointer (some x11))) (.one (.int .i64)) w16 fun (x50 : Int) =>
 br (x50 == 2) (rd Tryz.prog (Instr.loadAt 32 (.pointer (some (Addr.add x11 1)))) (.one .slice) w16 fun (x51 : (Option Addr × Nat × Nat)) =>
 rdp Tryz.prog (Instr.indexAt 32 (.slice x51.1 x51.2.1 x51.2.2) (.int .i64 0)) (.one .addr) fun (x52 : Addr) =>
 rd Tryz.prog (Instr.loadAt 2 (.pointer (some x52))) (.one (.int .i64)) w16 fun (x53 : Int) =>
 rdp Tryz.prog (cmpS .rem 2 (.tmp 53) (.const (.int .i64 2)) (.int .i64 x53) (.int .i64 2)) (.one (.int .i64)) fun (x54 : Int) =>
 br (x54 != 0) (rd Tryz.prog (Instr.loadAt 32 (.pointer (some (Addr.add x11 1)))) (.one .slice) w16 fun (x55 : (Option Addr × Nat × Nat)) =>
 rdp Tryz.prog (Instr.indexAt 32 (.slice x55.1 x55.2.1 x55.2.2) (.int .i64 0)) (.one .addr) fun (x56 : Addr) =>
 wu Tryz.prog (Instr.storeAt 2 (.pointer (some (Addr.add x56 1))) (.int .i64 2)) w16 fun (w57 : World) =>
 K43 (()) w57)
 (K43 (()) w16))
 (K43 (()) w16))
 (K43 (()) w16)))
 (rd Tryz.prog (Instr.loadAt 26 (.pointer (some x1))) (.one .slice) w7 fun (x58 : (Option Addr × Nat × Nat)) =>
 call Tryz.prog 17 [(.pointer t_), (.int .i64 ((x58.2.1 : Nat) : Int))] (.one (.one (.int .i64))) w7 fun (x59 : Int) (w60 : World) =>
 rd Tryz.prog (Instr.loadAt 26 (.pointer (some x1))) (.one .slice) w60 fun (x61 : (Option Addr × Nat × Nat)) =>
 rdp Tryz.prog (Instr.indexAt 26 (.slice x61.1 x61.2.1 x61.2.2) (.int .i64 x59)) (.one .addr) fun (x62 : Addr) =>
 rd Tryz.prog (Instr.loadAt 2 (.pointer (some x62))) (.one (.int .i64)) w60 fun (x63 : Int) =>
 z (IntKind.wrap .i64 (x63 + 2)) fun (z64 : Int) =>
 call Tryz.prog 17 [(.pointer t_), (.int .i64 z64)] (.one (.one (.int .i64))) w60 fun (x65 : Int) (w66 : World) =>
 wr Tryz.prog (Instr.alloc 35 true (.tuple #[])) (.one .addr) w66 fun (x67 : Addr) (w68 : World) =>
 wu Tryz.prog (Instr.storeAt 35 (.pointer (some x67)) (.agg #[(.int .i64 3), (.slice none 0 0), (.int .i64 x59), (.int .i64 x65), (.slice none 0 0)])) w68 fun (w69 : World) =>
 rd Tryz.prog (Instr.loadAt 29 (.pointer (some x1))) (.agg [.slice, .slice, .slice]) w69 fun (x70 : ((Option Addr × Nat × Nat) × (Option Addr × Nat × Nat) × (Option Addr × Nat × Nat) × Unit)) =>
 z (IntKind.wrap .i64 (deep_ - 1)) fun (z71 : Int) =>
 call Tryz.prog 15 [(.pointer t_), (.agg #[(.slice x70.1.1 x70.1.2.1 x70.1.2.2), (.slice x70.2.1.1 x70.2.1.2.1 x70.2.1.2.2), (.slice x70.2.2.1.1 x70.2.2.1.2.1 x70.2.2.1.2.2)]), (.int .i64 z71)] (.one (.agg [(.int .i64), .slice, (.int .i64), (.int .i64), .slice])) w69 fun (x72 : (Int × (Option Addr × Nat × Nat) × Int × Int × (Option Addr × Nat × Nat) × Unit)) (w73 : World) =>
 wr Tryz.prog (Instr.alloc 35 true (.tuple #[])) (.one .addr) w73 fun (x74 : Addr) (w75 : World) =>
 wu Tryz.prog (Instr.storeAt 35 (.pointer (some x74)) (.agg #[(.int .i64 x72.1), (.slice x72.2.1.1 x72.2.1.2.1 x72.2.1.2.2), (.int .i64 x72.2.2.1), (.int .i64 x72.2.2.2.1), (.slice x72.2.2.2.2.1.1 x72.2.2.2.2.1.2.1 x72.2.2.2.2.1.2.2)])) w75 fun (w76 : World) =>
 drw w76 fun w77 => flExC w77 fun E80 G79 Y78 F81 =>
 rdE Tryz.prog (ER Y78 [6, 8] E80) (Instr.loadAt 35 (.pointer (some x74))) (.agg [(.int .i64), .slice, (.int .i64), (.int .i64), .slice]) w77 fun (x82 : (Int × (Option Addr × Nat × Nat) × Int × Int × (Option Addr × Nat × Nat) × Unit)) =>
 rdE Tryz.prog (ER Y78 [5, 6, 8] E80) (Instr.loadAt 29 (.pointer (some x1))) (.agg [.slice, .slice, .slice]) w77 fun (x83 : ((Option Addr × Nat × Nat) × (Option Addr × Nat × Nat) × (Option Addr × Nat × Nat) × Unit)) =>
 z (IntKind.wrap .i64 (deep_ - 1)) fun (z84 : Int) =>
 flcC Y78 5 E80 w77 (fun _w86 => True) (fun (D87 : Nat → Bool) (w85 : World) =>
   call Tryz.prog 15 [(.pointer t_), (.agg #[(.slice x83.1.1 x83.1.2.1 x83.1.2.2), (.slice x83.2.1.1 x83.2.1.2.1 x83.2.1.2.2), (.slice x83.2.2.1.1 x83.2.2.1.2.1 x83.2.2.1.2.2)]), (.int .i64 z84)] (.one (.agg [(.int .i64), .slice, (.int .i64), (.int .i64), .slice])) w85 fun (x88 : (Int × (Option Addr × Nat × Nat) × Int × Int × (Option Addr × Nat × Nat) × Unit)) (w89 : World) =>
 (E80 w85 w89 ∧ G79 5 w85 w89 ∧ Y78 (setD D87 5) w89 ∧ F81 5 [(.pointer t_), (.agg #[(.slice x83.1.1 x83.1.2.1 x83.1.2.2), (.slice x83.2.1.1 x83.2.1.2.1 x83.2.1.2.2), (.slice x83.2.2.1.1 x83.2.2.1.2.1 x83.2.2.1.2.2)]), (.int .i64 z84)] (.agg #[(.int .i64 x88.1), (.slice x88.2.1.1 x88.2.1.2.1 x88.2.1.2.2), (.int .i64 x88.2.2.1), (.int .i64 x88.2.2.2.1), (.slice x88.2.2.2.2.1.1 x88.2.2.2.2.1.2.1 x88.2.2.2.2.1.2.2)]) w89))
  fun (x90 : (Int × (Option Addr × Nat × Nat) × Int × Int × (Option Addr × Nat × Nat) × Unit)) =>
 flendC Y78 [5] E80 w77 (fun w92 => F81 5 [(.pointer t_), (.agg #[(.slice x83.1.1 x83.1.2.1 x83.1.2.2), (.slice x83.2.1.1 x83.2.1.2.1 x83.2.1.2.2), (.slice x83.2.2.1.1 x83.2.2.1.2.1 x83.2.2.1.2.2)]), (.int .i64 z84)] (.agg #[(.int .i64 x90.1), (.slice x90.2.1.1 x90.2.1.2.1 x90.2.1.2.2), (.int .i64 x90.2.2.1), (.int .i64 x90.2.2.2.1), (.slice x90.2.2.2.2.1.1 x90.2.2.2.2.1.2.1 x90.2.2.2.2.1.2.2)]) w92 ∧ True) fun w91 =>
 wr Tryz.prog (Instr.buildSlice 33 2 #[(0, (.agg #[(.int .i64 x82.1), (.slice x82.2.1.1 x82.2.1.2.1 x82.2.1.2.2), (.int .i64 x82.2.2.1), (.int .i64 x82.2.2.2.1), (.slice x82.2.2.2.2.1.1 x82.2.2.2.2.1.2.1 x82.2.2.2.2.1.2.2)])), (1, (.agg #[(.int .i64 x90.1), (.slice x90.2.1.1 x90.2.1.2.1 x90.2.1.2.2), (.int .i64 x90.2.2.1), (.int .i64 x90.2.2.2.1), (.slice x90.2.2.2.2.1.1 x90.2.2.2.2.1.2.1 x90.2.2.2.2.1.2.2)]))]) (.one .slice) w91 fun (x93 : (Option Addr × Nat × Nat)) (w94 : World) =>
 wu Tryz.prog (Instr.storeAt 33 (.pointer (some (Addr.add x67 4))) (.slice x93.1 x93.2.1 x93.2.2)) w94 fun (w95 : World) =>
 rd Tryz.prog (Instr.loadAt 35 (.pointer (some x67))) (.agg [(.int .i64), .slice, (.int .i64), (.int .i64), .slice]) w95 fun (x96 : (Int × (Option Addr × Nat × Nat) × Int × Int × (Option Addr × Nat × Nat) × Unit)) =>
 wu Tryz.prog (Instr.storeAt 35 (.pointer (some x3)) (.agg #[(.int .i64 x96.1), (.slice x96.2.1.1 x96.2.1.2.1 x96.2.1.2.2), (.int .i64 x96.2.2.1), (.int .i64 x96.2.2.2.1), (.slice x96.2.2.2.2.1.1 x96.2.2.2.2.1.2.1 x96.2.2.2.2.1.2.2)])) w95 fun (w97 : World) =>
 rd Tryz.prog (loadVar 35 x3) (.agg [(.int .i64), .slice, (.int .i64), (.int .i64), .slice]) w97 fun (x98 : (Int × (Option Addr × Nat × Nat) × Int × Int × (Option Addr × Nat × Nat) × Unit)) =>
 R (.agg #[(.int .i64 x98.1), (.slice x98.2.1.1 x98.2.1.2.1 x98.2.1.2.2), (.int .i64 x98.2.2.1), (.int .i64 x98.2.2.2.1), (.slice x98.2.2.2.2.1.1 x98.2.2.2.2.1.2.1 x98.2.2.2.2.1.2.2)]) w97))
  fun (K5 : (Bool × Unit) → World → Prop) =>
 br (decide (deep_ ≤ 1)) (K5 (true, ()) w4)
 (call Tryz.prog 17 [(.pointer t_), (.int .i64 3)] (.one (.one (.int .i64))) w4 fun (x99 : Int) (w100 : World) =>
 K5 ((x99 == 0), ()) w100)
def H15 : Hints := ⟨[(3, 1, [(18, (.one .bool))]), (2, 0, [(8, (.one (.int .i64)))]), (0, 56, [])], [(6, 7), (13, 6)], [], [1000013, 1000006]⟩
set_option maxRecDepth 100000 in
theorem S15_eq (t_ : (Option Addr)) (s_0a : Option Addr) (s_0n : Nat) (s_0c : Nat) (s_1a : Option Addr) (s_1n : Nat) (s_1c : Nat) (s_2a : Option Addr) (s_2n : Nat) (s_2c : Nat) (deep_ : Int) (w0 : World) (R : Value → World → Prop) : vcFn Tryz.prog H15 Tryz.f15 [(.pointer t_), (.agg #[(.slice s_0a s_0n s_0c), (.slice s_1a s_1n s_1c), (.slice s_2a s_2n s_2c)]), (.int .i64 deep_)] w0 R = S15 t_ s_0a s_0n s_0c s_1a s_1n s_1c s_2a s_2n s_2c deep_ w0 R := by kernel_rfl
set_option maxRecDepth 100000 in
theorem S15_calls (t_ : (Option Addr)) (s_0a : Option Addr) (s_0n : Nat) (s_0c : Nat) (s_1a : Option Addr) (s_1n : Nat) (s_1c : Nat) (s_2a : Option Addr) (s_2n : Nat) (s_2c : Nat) (deep_ : Int) (w0 : World) (R : Value → World → Prop) (h : S15 t_ s_0a s_0n s_0c s_1a s_1n s_1c s_2a s_2n s_2c deep_ w0 R) : Calls Tryz.prog 15 #[(.pointer t_), (.agg #[(.slice s_0a s_0n s_0c), (.slice s_1a s_1n s_1c), (.slice s_2a s_2n s_2c)]), (.int .i64 deep_)] w0 (ret R) := by
  rw [← S15_eq] at h; exact vcFn_sound follows_ Tryz.func15 h

/-- querylab/querylablaw12.IntegralSound -/
def S6 (l_a : Option Addr) (l_n : Nat) (l_c : Nat) (w0 : World) (R : Value → World → Prop) : Prop :=
 wr Tryz.prog (Instr.box 25 (.agg #[(.slice l_a l_n l_c), (.int .i64 0)])) (.one .addr) w0 fun (x1 : Addr) (w2 : World) =>
 call Tryz.prog 7 [(.pointer (some x1)), (.int .i64 3), (.int .i64 3), (.int .i64 6)] (.one (.agg [.slice, .slice, .slice])) w2 fun (x3 : ((Option Addr × Nat × Nat) × (Option Addr × Nat × Nat) × (Option Addr × Nat × Nat) × Unit)) (w4 : World) =>
 wr Tryz.prog (Instr.alloc 29 true (.tuple #[])) (.one .addr) w4 fun (x5 : Addr) (w6 : World) =>
 wu Tryz.prog (Instr.storeAt 29 (.pointer (some x5)) (.agg #[(.slice x3.1.1 x3.1.2.1 x3.1.2.2), (.slice x3.2.1.1 x3.2.1.2.1 x3.2.1.2.2), (.slice x3.2.2.1.1 x3.2.2.1.2.1 x3.2.2.1.2.2)])) w6 fun (w7 : World) =>
 loop (T := (Int × Unit)) (0, ()) w7 fun (again8 : (Int × Unit) → World → Prop) (s9 : (Int × Unit)) w10 => ∀ _ : Nat → Value,
 br (decide (s9.1 < 4)) (join (T := (Unit)) (fun (_s12 : (Unit)) w13 => ∀ _ : Nat → Value,
 z (IntKind.wrap .i64 (s9.1 + 1)) fun (z14 : Int) =>
 again8 (z14, ()) w13)
  fun (K11 : (Unit) → World → Prop) =>
 rd Tryz.prog (Instr.loadAt 29 (.pointer (some x5))) (.agg [.slice, .slice, .slice]) w10 fun (x15 : ((Option Addr × Nat × Nat) × (Option Addr × Nat × Nat) × (Option Addr × Nat × Nat) × Unit)) =>
 call Tryz.prog 15 [(.pointer (some x1)), (.agg #[(.slice x15.1.1 x15.1.2.1 x15.1.2.2), (.slice x15.2.1.1 x15.2.1.2.1 x15.2.1.2.2), (.slice x15.2.2.1.1 x15.2.2.1.2.1 x15.2.2.1.2.2)]), (.int .i64 4)] (.one (.agg [(.int .i64), .slice, (.int .i64), (.int .i64), .slice])) w10 fun (x16 : (Int × (Option Addr × Nat × Nat) × Int × Int × (Option Addr × Nat × Nat) × Unit)) (w17 : World) =>
 wr Tryz.prog (Instr.alloc 35 true (.tuple #[])) (.one .addr) w17 fun (x18 : Addr) (w19 : World) =>
 wu Tryz.prog (Instr.storeAt 35 (.pointer (some x18)) (.agg #[(.int .i64 x16.1), (.slice x16.2.1.1 x16.2.1.2.1 x16.2.1.2.2), (.int .i64 x16.2.2.1), (.int .i64 x16.2.2.2.1), (.slice x16.2.2.2.2.1.1 x16.2.2.2.2.1.2.1 x16.2.2.2.2.1.2.2)])) w19 fun (w20 : World) =>
 rd Tryz.prog (Instr.loadAt 29 (.pointer (some x5))) (.agg [.slice, .slice, .slice]) w20 fun (x21 : ((Option Addr × Nat × Nat) × (Option Addr × Nat × Nat) × (Option Addr × Nat × Nat) × Unit)) =>
 rd Tryz.prog (Instr.loadAt 35 (.pointer (some x18))) (.agg [(.int .i64), .slice, (.int .i64), (.int .i64), .slice]) w20 fun (x22 : (Int × (Option Addr × Nat × Nat) × Int × Int × (Option Addr × Nat × Nat) × Unit)) =>
 call Tryz.prog 16 [(.agg #[(.slice x21.1.1 x21.1.2.1 x21.1.2.2), (.slice x21.2.1.1 x21.2.1.2.1 x21.2.1.2.2), (.slice x21.2.2.1.1 x21.2.2.1.2.1 x21.2.2.1.2.2)]), (.agg #[(.int .i64 x22.1), (.slice x22.2.1.1 x22.2.1.2.1 x22.2.1.2.2), (.int .i64 x22.2.2.1), (.int .i64 x22.2.2.2.1), (.slice x22.2.2.2.2.1.1 x22.2.2.2.2.1.2.1 x22.2.2.2.2.1.2.2)])] (.one (.one .bool)) w20 fun (x23 : Bool) (w24 : World) =>
 rd Tryz.prog (Instr.loadAt 29 (.pointer (some x5))) (.agg [.slice, .slice, .slice]) w24 fun (x25 : ((Option Addr × Nat × Nat) × (Option Addr × Nat × Nat) × (Option Addr × Nat × Nat) × Unit)) =>
 rd Tryz.prog (Instr.loadAt 35 (.pointer (some x18))) (.agg [(.int .i64), .slice, (.int .i64), (.int .i64), .slice]) w24 fun (x26 : (Int × (Option Addr × Nat × Nat) × Int × Int × (Option Addr × Nat × Nat) × Unit)) =>
 call Tryz.prog 11 [(.agg #[(.slice x25.1.1 x25.1.2.1 x25.1.2.2), (.slice x25.2.1.1 x25.2.1.2.1 x25.2.1.2.2), (.slice x25.2.2.1.1 x25.2.2.1.2.1 x25.2.2.1.2.2)]), (.agg #[(.int .i64 x26.1), (.slice x26.2.1.1 x26.2.1.2.1 x26.2.1.2.2), (.int .i64 x26.2.2.1), (.int .i64 x26.2.2.2.1), (.slice x26.2.2.2.2.1.1 x26.2.2.2.2.1.2.1 x26.2.2.2.2.1.2.2)])] (.one (.one .bool)) w24 fun (x27 : Bool) (w28 : World) =>
 br (!(x23 == x27)) (R (.bool false) w28)
 (br x23 (rd Tryz.prog (Instr.loadAt 29 (.pointer (some x5))) (.agg [.slice, .slice, .slice]) w28 fun (x29 : ((Option Addr × Nat × Nat) × (Option Addr × Nat × Nat) × (Option Addr × Nat × Nat) × Unit)) =>
 call Tryz.prog 12 [(.agg #[(.slice x29.1.1 x29.1.2.1 x29.1.2.2), (.slice x29.2.1.1 x29.2.1.2.1 x29.2.1.2.2), (.slice x29.2.2.1.1 x29.2.2.1.2.1 x29.2.2.1.2.2)])] (.one (.one .bool)) w28 fun (x30 : Bool) (w31 : World) =>
 br x30 (R (.bool false) w31)
 (K11 (()) w31))
 (K11 (()) w28)))
 (rd Tryz.prog (Instr.loadAt 29 (.pointer (some x5))) (.agg [.slice, .slice, .slice]) w10 fun (x32 : ((Option Addr × Nat × Nat) × (Option Addr × Nat × Nat) × (Option Addr × Nat × Nat) × Unit)) =>
 call Tryz.prog 9 [(.agg #[(.slice x32.1.1 x32.1.2.1 x32.1.2.2), (.slice x32.2.1.1 x32.2.1.2.1 x32.2.1.2.2), (.slice x32.2.2.1.1 x32.2.2.1.2.1 x32.2.2.1.2.2)])] (.many [(.one .slice), (.agg [(.int .i64), .slice, (.int .i64), (.int .i64), .slice]), (.one (.int .i64))]) w10 fun (x33 : ((Option Addr × Nat × Nat) × (Int × (Option Addr × Nat × Nat) × Int × Int × (Option Addr × Nat × Nat) × Unit) × Int × Unit)) (w34 : World) =>
 wr Tryz.prog (Instr.alloc 35 true (.tuple #[])) (.one .addr) w34 fun (x35 : Addr) (w36 : World) =>
 wu Tryz.prog (Instr.storeAt 35 (.pointer (some x35)) (.agg #[(.int .i64 x33.2.1.1), (.slice x33.2.1.2.1.1 x33.2.1.2.1.2.1 x33.2.1.2.1.2.2), (.int .i64 x33.2.1.2.2.1), (.int .i64 x33.2.1.2.2.2.1), (.slice x33.2.1.2.2.2.2.1.1 x33.2.1.2.2.2.2.1.2.1 x33.2.1.2.2.2.2.1.2.2)])) w36 fun (w37 : World) =>
 br (x33.2.2.1 == 0) (rd Tryz.prog (Instr.loadAt 29 (.pointer (some x5))) (.agg [.slice, .slice, .slice]) w37 fun (x38 : ((Option Addr × Nat × Nat) × (Option Addr × Nat × Nat) × (Option Addr × Nat × Nat) × Unit)) =>
 call Tryz.prog 10 [(.agg #[(.slice x38.1.1 x38.1.2.1 x38.1.2.2), (.slice x38.2.1.1 x38.2.1.2.1 x38.2.1.2.2), (.slice x38.2.2.1.1 x38.2.2.1.2.1 x38.2.2.1.2.2)]), (.slice x33.1.1 x33.1.2.1 x33.1.2.2)] (.one (.one .bool)) w37 fun (x39 : Bool) (w40 : World) =>
 br x39 (R (.bool true) w40)
 (br (x33.2.2.1 == 12) (rd Tryz.prog (Instr.loadAt 29 (.pointer (some x5))) (.agg [.slice, .slice, .slice]) w40 fun (x41 : ((Option Addr × Nat × Nat) × (Option Addr × Nat × Nat) × (Option Addr × Nat × Nat) × Unit)) =>
 rd Tryz.prog (Instr.loadAt 35 (.pointer (some x35))) (.agg [(.int .i64), .slice, (.int .i64), (.int .i64), .slice]) w40 fun (x42 : (Int × (Option Addr × Nat × Nat) × Int × Int × (Option Addr × Nat × Nat) × Unit)) =>
 call Tryz.prog 11 [(.agg #[(.slice x41.1.1 x41.1.2.1 x41.1.2.2), (.slice x41.2.1.1 x41.2.1.2.1 x41.2.1.2.2), (.slice x41.2.2.1.1 x41.2.2.1.2.1 x41.2.2.1.2.2)]), (.agg #[(.int .i64 x42.1), (.slice x42.2.1.1 x42.2.1.2.1 x42.2.1.2.2), (.int .i64 x42.2.2.1), (.int .i64 x42.2.2.2.1), (.slice x42.2.2.2.2.1.1 x42.2.2.2.2.1.2.1 x42.2.2.2.2.1.2.2)])] (.one (.one .bool)) w40 fun (x43 : Bool) (w44 : World) =>
 R (.bool x43) w44)
 (R (.bool false) w40)))
 (br (x33.2.2.1 == 12) (rd Tryz.prog (Instr.loadAt 29 (.pointer (some x5))) (.agg [.slice, .slice, .slice]) w37 fun (x45 : ((Option Addr × Nat × Nat) × (Option Addr × Nat × Nat) × (Option Addr × Nat × Nat) × Unit)) =>
 rd Tryz.prog (Instr.loadAt 35 (.pointer (some x35))) (.agg [(.int .i64), .slice, (.int .i64), (.int .i64), .slice]) w37 fun (x46 : (Int × (Option Addr × Nat × Nat) × Int × Int × (Option Addr × Nat × Nat) × Unit)) =>
 call Tryz.prog 11 [(.agg #[(.slice x45.1.1 x45.1.2.1 x45.1.2.2), (.slice x45.2.1.1 x45.2.1.2.1 x45.2.1.2.2), (.slice x45.2.2.1.1 x45.2.2.1.2.1 x45.2.2.1.2.2)]), (.agg #[(.int .i64 x46.1), (.slice x46.2.1.1 x46.2.1.2.1 x46.2.1.2.2), (.int .i64 x46.2.2.1), (.int .i64 x46.2.2.2.1), (.slice x46.2.2.2.2.1.1 x46.2.2.2.2.1.2.1 x46.2.2.2.2.1.2.2)])] (.one (.one .bool)) w37 fun (x47 : Bool) (w48 : World) =>
 R (.bool x47) w48)
 (R (.bool false) w37)))
def H6 : Hints := ⟨[(2, 0, [(5, (.one (.int .i64)))]), (1, 1, [])], [], [], []⟩
set_option maxRecDepth 100000 in
theorem S6_eq (l_a : Option Addr) (l_n : Nat) (l_c : Nat) (w0 : World) (R : Value → World → Prop) : vcFn Tryz.prog H6 Tryz.f6 [(.slice l_a l_n l_c)] w0 R = S6 l_a l_n l_c w0 R := by kernel_rfl
set_option maxRecDepth 100000 in
theorem S6_calls (l_a : Option Addr) (l_n : Nat) (l_c : Nat) (w0 : World) (R : Value → World → Prop) (h : S6 l_a l_n l_c w0 R) : Calls Tryz.prog 6 #[(.slice l_a l_n l_c)] w0 (ret R) := by
  rw [← S6_eq] at h; exact vcFn_sound follows_ Tryz.func6 h

end Go.Proofs

/- The conditions of functions, printed by our tool; each is checked against the code by the kernel. -/



namespace Go.Proofs
open Go Go.V Go.RowKit
/-- (*querylab/querylabmade.Tape).Next -/
def S17 (t_ : (Option Addr)) (n_ : Int) (w0 : World) (R : Value → World → Prop) : Prop :=
 br (decide (n_ < 1)) (R (.int .i64 0) w0)
 (join (T := (Int × Unit)) (fun (s2 : (Int × Unit)) w3 => ∀ _ : Nat → Value,
 nn t_ fun (a4 : Addr) =>
 rd Tryz.prog (Instr.loadAt 3 (.pointer (some (Addr.add a4 1)))) (.one (.int .i64)) w3 fun (x5 : Int) =>
 z (IntKind.wrap .i64 (x5 + 1)) fun (z6 : Int) =>
 nn t_ fun (a7 : Addr) =>
 wu Tryz.prog (Instr.storeAt 3 (.pointer (some (Addr.add a7 1))) (.int .i64 z6)) w3 fun (w8 : World) =>
 R (.int .i64 s2.1) w8)
  fun (K1 : (Int × Unit) → World → Prop) =>
 drw w0 fun w9 =>
 nn t_ fun (a10 : Addr) =>
 rd Tryz.prog (Instr.loadAt 3 (.pointer (some (Addr.add a10 1)))) (.one (.int .i64)) w9 fun (x11 : Int) =>
 nn t_ fun (a12 : Addr) =>
 rd Tryz.prog (Instr.loadAt 22 (.pointer (some a12))) (.one .slice) w9 fun (x13 : (Option Addr × Nat × Nat)) =>
 br (decide (x11 < ((x13.2.1 : Nat) : Int))) (drw w9 fun w14 =>
 nn t_ fun (a15 : Addr) =>
 rd Tryz.prog (Instr.loadAt 22 (.pointer (some a15))) (.one .slice) w14 fun (x16 : (Option Addr × Nat × Nat)) =>
 nn t_ fun (a17 : Addr) =>
 rd Tryz.prog (Instr.loadAt 3 (.pointer (some (Addr.add a17 1)))) (.one (.int .i64)) w14 fun (x18 : Int) =>
 rdp Tryz.prog (Instr.indexAt 22 (.slice x16.1 x16.2.1 x16.2.2) (.int .i64 x18)) (.one .addr) fun (x19 : Addr) =>
 rd Tryz.prog (Instr.loadAt 3 (.pointer (some x19))) (.one (.int .i64)) w14 fun (x20 : Int) =>
 rdp Tryz.prog (cmpS .rem 3 (.tmp 27) (.tmp 28) (.int .i64 x20) (.int .i64 n_)) (.one (.int .i64)) fun (x21 : Int) =>
 br (decide (x21 < 0)) (z (IntKind.wrap .i64 (x21 + n_)) fun (z22 : Int) =>
 K1 (z22, ()) w14)
 (K1 (x21, ()) w14))
 (K1 (0, ()) w9))
def H17 : Hints := ⟨[(0, 17, [(5, (.one (.int .i64)))])], [(4, 9), (5, 11)], [], []⟩
set_option maxRecDepth 100000 in
theorem S17_eq (t_ : (Option Addr)) (n_ : Int) (w0 : World) (R : Value → World → Prop) : vcFn Tryz.prog H17 Tryz.f17 [(.pointer t_), (.int .i64 n_)] w0 R = S17 t_ n_ w0 R := by kernel_rfl
set_option maxRecDepth 100000 in
theorem S17_calls (t_ : (Option Addr)) (n_ : Int) (w0 : World) (R : Value → World → Prop) (h : S17 t_ n_ w0 R) : Calls Tryz.prog 17 #[(.pointer t_), (.int .i64 n_)] w0 (ret R) := by
  rw [← S17_eq] at h; exact vcFn_sound follows_ Tryz.func17 h

/-- querylab/querylabmade.System -/
def S7 (t_ : (Option Addr)) (vars_ : Int) (rows_ : Int) (most_ : Int) (w0 : World) (R : Value → World → Prop) : Prop :=
 wr Tryz.prog (Instr.alloc 29 true (.tuple #[])) (.one .addr) w0 fun (x1 : Addr) (w2 : World) =>
 wr Tryz.prog (Instr.alloc 29 true (.tuple #[])) (.one .addr) w2 fun (x3 : Addr) (w4 : World) =>
 call Tryz.prog 17 [(.pointer t_), (.int .i64 vars_)] (.one (.one (.int .i64))) w4 fun (x5 : Int) (w6 : World) =>
 z (IntKind.wrap .i64 (1 + x5)) fun (z7 : Int) =>
 loop (T := (Int × Unit)) (0, ()) w6 fun (again8 : (Int × Unit) → World → Prop) (s9 : (Int × Unit)) w10 => ∀ _ : Nat → Value,
 br (decide (s9.1 < z7)) (drw w10 fun w11 => flExC w11 fun E14 G13 Y12 F15 =>
 rdE Tryz.prog (ER Y12 [7, 9] E14) (Instr.loadAt 26 (.pointer (some x3))) (.one .slice) w11 fun (x16 : (Option Addr × Nat × Nat)) =>
 z (IntKind.wrap .i64 (most_ + 1)) fun (z17 : Int) =>
 flcC Y12 5 E14 w11 (fun _w19 => True) (fun (D20 : Nat → Bool) (w18 : World) =>
   call Tryz.prog 17 [(.pointer t_), (.int .i64 z17)] (.one (.one (.int .i64))) w18 fun (x21 : Int) (w22 : World) =>
 (E14 w18 w22 ∧ G13 5 w18 w22 ∧ Y12 (setD D20 5) w22 ∧ F15 5 [(.pointer t_), (.int .i64 z17)] (.int .i64 x21) w22))
  fun (x23 : Int) =>
 flcC Y12 6 E14 w11 (fun w25 => F15 5 [(.pointer t_), (.int .i64 z17)] (.int .i64 x23) w25 ∧ True) (fun (D26 : Nat → Bool) (w24 : World) =>
   wr Tryz.prog (Instr.buildSlice 26 1 #[(0, (.int .i64 x23))]) (.one .slice) w24 fun (x27 : (Option Addr × Nat × Nat)) (w28 : World) =>
 (E14 w24 w28 ∧ G13 6 w24 w28 ∧ Y12 (setD D26 6) w28 ∧ F15 6 [] (.slice x27.1 x27.2.1 x27.2.2) w28))
  fun (x29 : (Option Addr × Nat × Nat)) =>
 flendC Y12 [6, 5] E14 w11 (fun w31 => F15 6 [] (.slice x29.1 x29.2.1 x29.2.2) w31 ∧ F15 5 [(.pointer t_), (.int .i64 z17)] (.int .i64 x23) w31 ∧ True) fun w30 =>
 wr Tryz.prog (Builtin.append_ #[26, 26] 26 #[(.slice x16.1 x16.2.1 x16.2.2), (.slice x29.1 x29.2.1 x29.2.2)]) (.one .slice) w30 fun (x32 : (Option Addr × Nat × Nat)) (w33 : World) =>
 wu Tryz.prog (Instr.storeAt 26 (.pointer (some x3)) (.slice x32.1 x32.2.1 x32.2.2)) w33 fun (w34 : World) =>
 z (IntKind.wrap .i64 (s9.1 + 1)) fun (z35 : Int) =>
 again8 (z35, ()) w34)
 (wr Tryz.prog (Instr.makeSlice 26 (.int .i64 z7) (.int .i64 z7)) (.one .slice) w10 fun (x36 : (Option Addr × Nat × Nat)) (w37 : World) =>
 loop (T := (Int × Unit)) (0, ()) w37 fun (again38 : (Int × Unit) → World → Prop) (s39 : (Int × Unit)) w40 => ∀ _ : Nat → Value,
 br (decide (s39.1 < z7)) (rd Tryz.prog (Instr.loadAt 26 (.pointer (some x3))) (.one .slice) w40 fun (x41 : (Option Addr × Nat × Nat)) =>
 rdp Tryz.prog (Instr.indexAt 26 (.slice x41.1 x41.2.1 x41.2.2) (.int .i64 s39.1)) (.one .addr) fun (x42 : Addr) =>
 rd Tryz.prog (Instr.loadAt 2 (.pointer (some x42))) (.one (.int .i64)) w40 fun (x43 : Int) =>
 z (IntKind.wrap .i64 (x43 + 1)) fun (z44 : Int) =>
 call Tryz.prog 17 [(.pointer t_), (.int .i64 z44)] (.one (.one (.int .i64))) w40 fun (x45 : Int) (w46 : World) =>
 rdp Tryz.prog (Instr.indexAt 26 (.slice x36.1 x36.2.1 x36.2.2) (.int .i64 s39.1)) (.one .addr) fun (x47 : Addr) =>
 wu Tryz.prog (Instr.storeAt 2 (.pointer (some x47)) (.int .i64 x45)) w46 fun (w48 : World) =>
 z (IntKind.wrap .i64 (s39.1 + 1)) fun (z49 : Int) =>
 again38 (z49, ()) w48)
 (call Tryz.prog 17 [(.pointer t_), (.int .i64 2)] (.one (.one (.int .i64))) w40 fun (x50 : Int) (w51 : World) =>
 z (IntKind.wrap .i64 (rows_ + 1)) fun (z52 : Int) =>
 call Tryz.prog 17 [(.pointer t_), (.int .i64 z52)] (.one (.one (.int .i64))) w51 fun (x53 : Int) (w54 : World) =>
 loop (T := (Int × Unit)) (x53, ()) w54 fun (again55 : (Int × Unit) → World → Prop) (s56 : (Int × Unit)) w57 => ∀ _ : Nat → Value,
 br (decide (s56.1 > 0)) (join (T := (Unit)) (fun (_s59 : (Unit)) w60 => ∀ _ : Nat → Value,
 z (IntKind.wrap .i64 (s56.1 - 1)) fun (z61 : Int) =>
 again55 (z61, ()) w60)
  fun (K58 : (Unit) → World → Prop) =>
 loop (T := ((Option Addr × Nat × Nat) × Int × Int × Unit)) ((none, 0, 0), 0, 0, ()) w57 fun (again62 : ((Option Addr × Nat × Nat) × Int × Int × Unit) → World → Prop) (s63 : ((Option Addr × Nat × Nat) × Int × Int × Unit)) w64 => ∀ _ : Nat → Value,
 br (decide (s63.2.2.1 < z7)) (call Tryz.prog 17 [(.pointer t_), (.int .i64 11)] (.one (.one (.int .i64))) w64 fun (x65 : Int) (w66 : World) =>
 z (IntKind.wrap .i64 (x65 - 5)) fun (z67 : Int) =>
 wr Tryz.prog (Instr.buildSlice 26 1 #[(0, (.int .i64 z67))]) (.one .slice) w66 fun (x68 : (Option Addr × Nat × Nat)) (w69 : World) =>
 wr Tryz.prog (Builtin.append_ #[26, 26] 26 #[(.slice s63.1.1 s63.1.2.1 s63.1.2.2), (.slice x68.1 x68.2.1 x68.2.2)]) (.one .slice) w69 fun (x70 : (Option Addr × Nat × Nat)) (w71 : World) =>
 rdp Tryz.prog (Instr.indexAt 26 (.slice x36.1 x36.2.1 x36.2.2) (.int .i64 s63.2.2.1)) (.one .addr) fun (x72 : Addr) =>
 rd Tryz.prog (Instr.loadAt 2 (.pointer (some x72))) (.one (.int .i64)) w71 fun (x73 : Int) =>
 z (IntKind.wrap .i64 (z67 * x73)) fun (z74 : Int) =>
 z (IntKind.wrap .i64 (s63.2.1 + z74)) fun (z75 : Int) =>
 z (IntKind.wrap .i64 (s63.2.2.1 + 1)) fun (z76 : Int) =>
 again62 ((x70.1, x70.2.1, x70.2.2), z75, z76, ()) w71)
 (join (T := (Int × Unit)) (fun (s78 : (Int × Unit)) w79 => ∀ _ : Nat → Value,
 drw w79 fun w80 => flExC w80 fun E83 G82 Y81 F84 =>
 rdE Tryz.prog (ER Y81 [4, 9, 11, 13] E83) (Instr.loadAt 27 (.pointer (some (Addr.add x3 1)))) (.one .slice) w80 fun (x85 : (Option Addr × Nat × Nat)) =>
 flcC Y81 3 E83 w80 (fun _w87 => True) (fun (D88 : Nat → Bool) (w86 : World) =>
   wr Tryz.prog (Instr.buildSlice 27 1 #[(0, (.slice s63.1.1 s63.1.2.1 s63.1.2.2))]) (.one .slice) w86 fun (x89 : (Option Addr × Nat × Nat)) (w90 : World) =>
 (E83 w86 w90 ∧ G82 3 w86 w90 ∧ Y81 (setD D88 3) w90 ∧ F84 3 [] (.slice x89.1 x89.2.1 x89.2.2) w90))
  fun (x91 : (Option Addr × Nat × Nat)) =>
 flcC Y81 4 E83 w80 (fun w93 => F84 3 [] (.slice x91.1 x91.2.1 x91.2.2) w93 ∧ True) (fun (D94 : Nat → Bool) (w92 : World) =>
   wr Tryz.prog (Builtin.append_ #[27, 27] 27 #[(.slice x85.1 x85.2.1 x85.2.2), (.slice x91.1 x91.2.1 x91.2.2)]) (.one .slice) w92 fun (x95 : (Option Addr × Nat × Nat)) (w96 : World) =>
 (E83 w92 w96 ∧ G82 4 w92 w96 ∧ Y81 (setD D94 4) w96 ∧ F84 4 [(.slice x85.1 x85.2.1 x85.2.2), (.slice x91.1 x91.2.1 x91.2.2)] (.slice x95.1 x95.2.1 x95.2.2) w96))
  fun (x97 : (Option Addr × Nat × Nat)) =>
 rdE Tryz.prog (ER Y81 [9, 11, 13] E83) (Instr.loadAt 26 (.pointer (some (Addr.add x3 2)))) (.one .slice) w80 fun (x98 : (Option Addr × Nat × Nat)) =>
 flcC Y81 8 E83 w80 (fun _w100 => True) (fun (D101 : Nat → Bool) (w99 : World) =>
   wr Tryz.prog (Instr.buildSlice 26 1 #[(0, (.int .i64 s78.1))]) (.one .slice) w99 fun (x102 : (Option Addr × Nat × Nat)) (w103 : World) =>
 (E83 w99 w103 ∧ G82 8 w99 w103 ∧ Y81 (setD D101 8) w103 ∧ F84 8 [] (.slice x102.1 x102.2.1 x102.2.2) w103))
  fun (x104 : (Option Addr × Nat × Nat)) =>
 flcC Y81 9 E83 w80 (fun w106 => F84 8 [] (.slice x104.1 x104.2.1 x104.2.2) w106 ∧ F84 4 [(.slice x85.1 x85.2.1 x85.2.2), (.slice x91.1 x91.2.1 x91.2.2)] (.slice x97.1 x97.2.1 x97.2.2) w106 ∧ F84 3 [] (.slice x91.1 x91.2.1 x91.2.2) w106 ∧ True) (fun (D107 : Nat → Bool) (w105 : World) =>
   wr Tryz.prog (Builtin.append_ #[26, 26] 26 #[(.slice x98.1 x98.2.1 x98.2.2), (.slice x104.1 x104.2.1 x104.2.2)]) (.one .slice) w105 fun (x108 : (Option Addr × Nat × Nat)) (w109 : World) =>
 (E83 w105 w109 ∧ G82 9 w105 w109 ∧ Y81 (setD D107 9) w109 ∧ F84 9 [(.slice x98.1 x98.2.1 x98.2.2), (.slice x104.1 x104.2.1 x104.2.2)] (.slice x108.1 x108.2.1 x108.2.2) w109))
  fun (x110 : (Option Addr × Nat × Nat)) =>
 flendC Y81 [9, 8, 4, 3] E83 w80 (fun w112 => F84 9 [(.slice x98.1 x98.2.1 x98.2.2), (.slice x104.1 x104.2.1 x104.2.2)] (.slice x110.1 x110.2.1 x110.2.2) w112 ∧ F84 8 [] (.slice x104.1 x104.2.1 x104.2.2) w112 ∧ F84 4 [(.slice x85.1 x85.2.1 x85.2.2), (.slice x91.1 x91.2.1 x91.2.2)] (.slice x97.1 x97.2.1 x97.2.2) w112 ∧ F84 3 [] (.slice x91.1 x91.2.1 x91.2.2) w112 ∧ True) fun w111 =>
 wu Tryz.prog (Instr.storeAt 27 (.pointer (some (Addr.add x3 1))) (.slice x97.1 x97.2.1 x97.2.2)) w111 fun (w113 : World) =>
 wu Tryz.prog (Instr.storeAt 26 (.pointer (some (Addr.add x3 2))) (.slice x110.1 x110.2.1 x110.2.2)) w113 fun (w114 : World) =>
 K58 (()) w114)
  fun (K77 : (Int × Unit) → World → Prop) =>
 br (!(x50 == 0)) (call Tryz.prog 17 [(.pointer t_), (.int .i64 7)] (.one (.one (.int .i64))) w64 fun (x115 : Int) (w116 : World) =>
 z (IntKind.wrap .i64 (x115 - 3)) fun (z117 : Int) =>
 z (IntKind.wrap .i64 (s63.2.1 + z117)) fun (z118 : Int) =>
 K77 (z118, ()) w116)
 (K77 (s63.2.1, ()) w64)))
 (rd Tryz.prog (Instr.loadAt 29 (.pointer (some x3))) (.agg [.slice, .slice, .slice]) w57 fun (x119 : ((Option Addr × Nat × Nat) × (Option Addr × Nat × Nat) × (Option Addr × Nat × Nat) × Unit)) =>
 wu Tryz.prog (Instr.storeAt 29 (.pointer (some x1)) (.agg #[(.slice x119.1.1 x119.1.2.1 x119.1.2.2), (.slice x119.2.1.1 x119.2.1.2.1 x119.2.1.2.2), (.slice x119.2.2.1.1 x119.2.2.1.2.1 x119.2.2.1.2.2)])) w57 fun (w120 : World) =>
 rd Tryz.prog (loadVar 29 x1) (.agg [.slice, .slice, .slice]) w120 fun (x121 : ((Option Addr × Nat × Nat) × (Option Addr × Nat × Nat) × (Option Addr × Nat × Nat) × Unit)) =>
 R (.agg #[(.slice x121.1.1 x121.1.2.1 x121.1.2.2), (.slice x121.2.1.1 x121.2.1.2.1 x121.2.1.2.2), (.slice x121.2.2.1.1 x121.2.2.1.2.1 x121.2.2.1.2.2)]) w120)))
def H7 : Hints := ⟨[(2, 0, [(11, (.one (.int .i64)))]), (2, 2, [(13, (.one (.int .i64)))]), (2, 4, [(15, (.one (.int .i64)))]), (2, 6, [(16, (.one .slice)), (17, (.one (.int .i64))), (18, (.one (.int .i64)))]), (0, 88, [(17, (.one (.int .i64)))]), (1, 5, [])], [(6, 7), (26, 11)], [], [1000026, 1000006]⟩
set_option maxRecDepth 100000 in
theorem S7_eq (t_ : (Option Addr)) (vars_ : Int) (rows_ : Int) (most_ : Int) (w0 : World) (R : Value → World → Prop) : vcFn Tryz.prog H7 Tryz.f7 [(.pointer t_), (.int .i64 vars_), (.int .i64 rows_), (.int .i64 most_)] w0 R = S7 t_ vars_ rows_ most_ w0 R := by kernel_rfl
set_option maxRecDepth 100000 in
theorem S7_calls (t_ : (Option Addr)) (vars_ : Int) (rows_ : Int) (most_ : Int) (w0 : World) (R : Value → World → Prop) (h : S7 t_ vars_ rows_ most_ w0 R) : Calls Tryz.prog 7 #[(.pointer t_), (.int .i64 vars_), (.int .i64 rows_), (.int .i64 most_)] w0 (ret R) := by
  rw [← S7_eq] at h; exact vcFn_sound follows_ Tryz.func7 h

end Go.Proofs

/- The tape of numbers that made worlds are read from. -/



namespace Go.Proofs.YtajpdnphamomjaaGreat
open Go.RowKit Go.Q Go.Q.Num Go.V

theorem tyInts : TyS Tryz.prog 22 3 (.int .i64 0) 1 8 := ⟨by kernel_rfl, by kernel_rfl⟩
structure Tape (w : World) (tb : Addr) (l : Hdr) (L : List Int) (p : Nat) : Prop where
  box : Box w tb [.slice l.1 l.2.1 l.2.2, .int .i64 (p : Int)]
  sl : Sl w l.1 l.2.1 l.2.2 1 (ints .i64 L)
  old : ∀ ad, l.1 = some ad → L ≠ [] → ad.block < tb.block
  i64 : ∀ x ∈ L, I64 x
theorem Tape.up {w w' : World} {tb : Addr} {l : Hdr} {L : List Int} {p : Nat} (h : Tape w tb l L p) (hb : bel w w') : Tape w' tb l L p := ⟨h.box.up hb, h.sl.up hb, h.old, h.i64⟩
theorem Tape.grown {w w' : World} {tb : Addr} {l : Hdr} {L : List Int} {p b : Nat} (h : Tape w tb l L p) (hg : w.grownBy w' (some b)) (hb : tb.block < b) : Tape w' tb l L p :=
  ⟨h.box.xg hg (by omega), Sl.xg h.sl hg (fun ad ha hx => by have := h.old ad ha (by rintro rfl; exact hx rfl); omega), h.old, h.i64⟩
theorem Tape.xb {S : Nat → Prop} {w w' : World} {tb : Addr} {l : Hdr} {L : List Int} {p : Nat} (h : Tape w tb l L p) (hX : Xb S w w') (hs : ∀ k, S k → tb.block < k) : Tape w' tb l L p :=
  ⟨h.box.xb hX (fun q => by have := hs _ q; omega), h.sl.xb hX (fun ad ha hx q => by have := h.old ad ha (by rintro rfl; exact hx rfl); have := hs _ q; omega), h.old, h.i64⟩
set_option maxHeartbeats 400000 in
theorem nextF {w : World} {tb : Addr} {l : Hdr} {L : List Int} {p : Nat} (n : Int) (h : Tape w tb l L p) (hp : p ≤ 1000000) (hn : 1 ≤ n ∧ n ≤ 9223372036854775807) :
    call Tryz.prog 17 [.pointer (some tb), .int .i64 n] (.one (.one (.int .i64))) w (fun (x : Int) w' => (0 ≤ x ∧ x < n) ∧ Tape w' tb l L (p + 1) ∧ w.grownBy w' (some tb.block)) := by
  refine call_of (S17_calls (some tb) n w _ ?_)
  unfold S17
  have hl := h.sl.int
  refine br_dec (fun e => by omega) (fun _ => ?_)
  refine join_mk (fun s w' => (0 ≤ s.1 ∧ s.1 < n) ∧ bel w w') (fun K hK => ?_) (fun s w3 hh _ => ?_)
  · refine drw_mk fun w9 h9 _ => ?_
    refine nn_mk rfl ?_
    refine rd_box (by kernel_rfl) (h.box.up h9) (i := 1) rfl rfl ?_
    refine nn_mk rfl ?_
    refine rd_box0 (by kernel_rfl) (h.box.up h9) rfl rfl ?_
    refine br_dec (fun e => ?_) (fun e => hK _ _ ⟨⟨by dsimp only; omega, by dsimp only; omega⟩, h9⟩)
    dsimp only at e
    refine drw_mk fun w14 h14 _ => ?_
    have h14' := h9.trans h14
    refine nn_mk rfl ?_
    refine rd_box0 (by kernel_rfl) (h.box.up h14') rfl rfl ?_
    refine nn_mk rfl ?_
    refine rd_box (by kernel_rfl) (h.box.up h14') (i := 1) rfl rfl ?_
    refine at_int tyInts (by kernel_rfl) (h.sl.up h14') rfl (by omega) fun x hx => ?_
    refine rdp_rem (by omega) ?_
    have b1 := Int.tmod_lt_of_pos x (show 0 < n by omega)
    have b2 := Int.lt_tmod_of_pos x (show 0 < n by omega)
    refine br_dec (fun e2 => ?_) (fun e2 => hK _ _ ⟨⟨by dsimp only; omega, by dsimp only; omega⟩, h14'⟩)
    refine z_i64 (by omega) ?_
    exact hK _ _ ⟨⟨by dsimp only; omega, by dsimp only; omega⟩, h14'⟩
  · obtain ⟨x, _⟩ := s
    obtain ⟨hx, hb⟩ := hh
    refine nn_mk rfl ?_
    refine rd_box (by kernel_rfl) (h.box.up hb) (i := 1) rfl rfl ?_
    refine z_i64 (by omega) ?_
    refine nn_mk rfl ?_
    refine wu_boxi (h.box.up hb) (by kernel_rfl) (by simp) rfl fun w8 X hg _ => ?_
    have X' : Box w8 tb [.slice l.1 l.2.1 l.2.2, .int .i64 ((p + 1 : Nat) : Int)] := X
    exact ⟨x, rfl, hx, ⟨X', Sl.xg (h.sl.up hb) hg (fun ad ha hx => by have := h.old ad ha (by rintro rfl; exact hx rfl); omega), h.old, h.i64⟩, (grown_of_bel hb _).trans hg⟩
end Go.Proofs.YtajpdnphamomjaaGreat

/- Made systems. -/


namespace Go.Proofs.YtajpdnphamomjaaGreat
open Go.RowKit Go.Q Go.Q.Num Go.V

structure MadeS (up : List Int) (T : List (List Int)) (rt : List Int) (vars rows most : Nat) : Prop where
  n1 : 1 ≤ up.length
  n2 : up.length ≤ vars
  t : T.length ≤ rows
  r : rt.length = T.length
  row : ∀ q ∈ T, q.length = up.length ∧ ∀ x ∈ q, -5 ≤ x ∧ x ≤ 5
  up : ∀ x ∈ up, 0 ≤ x ∧ x ≤ (most : Int)
  rt : ∀ x ∈ rt, x.natAbs ≤ vars * 50000 + 3
abbrev nil3 : List Value := [.slice none 0 0, .slice none 0 0, .slice none 0 0]
/-- rows of a table in memory, apart from some blocks -/
def RowsAt (w : World) (hs : List Hdr) (T : List (List Int)) (B : Nat) (o1 o2 : Option Nat) : Prop :=
  hs.length = T.length ∧ ∀ (i : Nat) (x : Hdr) (q : List Int), hs[i]? = some x → T[i]? = some q → Sl w x.1 x.2.1 x.2.2 1 (ints .i64 q) ∧ ∀ ad, x.1 = some ad → B ≤ ad.block ∧ ad.block < w.heap.size ∧ some ad.block ≠ o1 ∧ some ad.block ≠ o2
theorem RowsAt.grown {w w' : World} {hs : List Hdr} {T : List (List Int)} {B : Nat} {o1 o2 o : Option Nat} (h : RowsAt w hs T B o1 o2) (hg : w.grownBy w' o) (ho : (∀ k, o = some k → k < B) ∨ o = o1 ∨ o = o2) : RowsAt w' hs T B o1 o2 := by
  refine ⟨h.1, fun i x q h1 h2 => ?_⟩
  obtain ⟨s, f⟩ := h.2 i x q h1 h2
  refine ⟨s.grown hg fun ad ha _ e => ?_, fun ad ha => ?_⟩
  · obtain ⟨a1, a2, a3, a4⟩ := f ad ha
    rcases ho with ho | ho | ho
    · have := ho _ e.symm; omega
    · exact a3 (e.trans ho)
    · exact a4 (e.trans ho)
  · obtain ⟨a1, a2, a3, a4⟩ := f ad ha
    exact ⟨a1, by have := hg.size; omega, a3, a4⟩
theorem RowsAt.up {w w' : World} {hs : List Hdr} {T : List (List Int)} {B : Nat} {o1 o2 : Option Nat} (h : RowsAt w hs T B o1 o2) (hb : bel w w') : RowsAt w' hs T B o1 o2 := h.grown (grown_of_bel hb none) (.inl fun k q => by cases q)
abbrev TabH (w : World) (B : Nat) (rh : Hdr) (hs : List Hdr) : Prop := Own w B 26 1 rh.1 rh.2.1 rh.2.2 (hs.map hv)
theorem TabH.len {w : World} {B : Nat} {h : Hdr} {xs : List Hdr} (H : TabH w B h xs) : xs.length = h.2.1 := by have := H.sl.len; simpa using this

theorem TabH.apart {w : World} {B B' : Nat} {rh bh : Hdr} {hs : List Hdr} {rt : List Int} (OR : TabH w B rh hs) (OB : OwnI w B' bh rt) : ∀ k, blk rh.1 = some k → blk bh.1 = some k → False := Own.apart OR OB (by decide)

theorem RowsAt.xb {S : Nat → Prop} {w w' : World} {hs : List Hdr} {T : List (List Int)} {B : Nat} {o1 o2 : Option Nat} (h : RowsAt w hs T B o1 o2) (hX : Xb S w w') (ho : ∀ k, S k → o1 = some k ∨ o2 = some k) : RowsAt w' hs T B o1 o2 := by
  refine ⟨h.1, fun i x q h1 h2 => ?_⟩
  obtain ⟨s, f⟩ := h.2 i x q h1 h2
  refine ⟨s.xb hX fun ad ha _ e => ?_, fun ad ha => ?_⟩
  · obtain ⟨a1, a2, a3, a4⟩ := f ad ha
    rcases ho _ e with q | q
    · exact a3 q.symm
    · exact a4 q.symm
  · obtain ⟨a1, a2, a3, a4⟩ := f ad ha
    exact ⟨a1, by have := hX.size; omega, a3, a4⟩
theorem dotI_snoc {row xs : List Int} {c : Int} : ∀ {k : Nat}, k ≤ row.length → dotI (row ++ [c]) xs k = dotI row xs k
  | 0, _ => rfl
  | k + 1, h => by
    show dotI (row ++ [c]) xs k + dotJ (row ++ [c]) xs k = dotI row xs k + dotJ row xs k
    rw [dotI_snoc (by omega)]
    unfold dotJ
    rw [List.getElem?_append_left (by omega)]
set_option maxHeartbeats 4000000 in
theorem systemF {w : World} {tb : Addr} {l : Hdr} {L : List Int} {p : Nat} (vars rows most : Nat) (h : Tape w tb l L p) (hp : p ≤ 100000) (hv1 : 1 ≤ vars) (hv2 : vars ≤ 20) (hr : rows ≤ 20) (hm : most ≤ 10000) :
    call Tryz.prog 7 [.pointer (some tb), .int .i64 (vars : Int), .int .i64 (rows : Int), .int .i64 (most : Int)] (.one (.agg [.slice, .slice, .slice])) w (fun (x : Hdr × Hdr × Hdr × Unit) w' =>
      ∃ up T rt p', MadeS up T rt vars rows most ∧ (∀ w2, w'.grownBy w2 (some tb.block) → Sys w2 x.1 x.2.1 x.2.2.1 up T rt) ∧ Tape w' tb l L p' ∧ p' ≤ p + 1000 ∧ w.grownBy w' (some tb.block)) := by
  refine call_of (S7_calls (some tb) vars rows most w _ ?_)
  unfold S7
  have htb := h.box.lt
  refine wr_alloc (z := .agg #[.slice none 0 0, .slice none 0 0, .slice none 0 0]) (by kernel_rfl) fun x1 w2 A h1 hx1 _ => ?_
  refine wr_alloc (z := .agg #[.slice none 0 0, .slice none 0 0, .slice none 0 0]) (by kernel_rfl) fun x3 w4 V h2 hx3 _ => ?_
  replace A : Box w4 x1 nil3 := A.up h2
  replace V : Box w4 x3 nil3 := V
  have l1 := A.lt
  have l3 := V.lt
  have hb4 := h1.trans h2
  have hsz4 : w.heap.size ≤ w4.heap.size := hb4.size
  have n13 : x1.block < x3.block := by have := h1.size; omega
  have hw1 : w.heap.size ≤ x1.block := by omega
  have hw3 : w.heap.size ≤ x3.block := by omega
  refine call_mono (nextF (vars : Int) (h.up hb4) (by omega) ⟨by omega, by omega⟩) ?_
  rintro (x5 : Int) w6 ⟨hx5, ht, hg⟩
  obtain ⟨n, hn⟩ : ∃ n : Nat, 1 + x5 = (n : Int) := ⟨(1 + x5).toNat, by have := hx5.1; omega⟩
  have hn1 : 1 ≤ n := by have := hx5.1; omega
  have hn2 : n ≤ vars := by have := hx5.2; omega
  refine z_eq (m := (n : Int)) (by rw [IntWalk.i64_in _ ⟨by omega, by omega⟩]; exact hn) ?_
  have hf6 : w.grownBy w6 (some tb.block) := (grown_of_bel hb4 _).trans hg
  replace A := A.xg hg (by omega)
  replace V := V.xg hg (by omega)
  -- the bounds
  refine loop_up n (fun i w' => w.grownBy w' (some tb.block) ∧ Box w' x1 nil3 ∧ w4.heap.size ≤ w'.heap.size ∧ ∃ p' uh up, Tape w' tb l L p' ∧ p' ≤ p + 1 + i ∧ Box w' x3 [.slice (uh : Hdr).1 uh.2.1 uh.2.2, .slice none 0 0, .slice none 0 0] ∧ OwnI w' w4.heap.size uh up ∧ up.length = i ∧ ∀ x ∈ up, 0 ≤ x ∧ x ≤ (most : Int))
    ⟨hf6, A, hg.size, p + 1, (none, 0, 0), [], ht, by omega, V, Own.nil _ _ _ _, rfl, by simp⟩ fun i w10 hi ⟨hf, A, hs4, p', uh, up, ht, hp', V, O, hul, hub⟩ again hag _ => ?_
  have hol := O.len
  refine br_dec (fun e => ?_) (fun e => ?_)
  · dsimp only at e
    refine drw_mk fun w11 h11 _ => ?_
    replace A := A.up h11; replace V := V.up h11; replace ht := ht.up h11
    have O : OwnI w11 w4.heap.size uh up := O.kept h11
    replace hf := hf.trans (grown_of_bel h11 _)
    have hs11 : w4.heap.size ≤ w11.heap.size := by have := h11.size; omega
    refine flExC_mk (Xg tb.block) (fun _ _ _ => True) (fun D w' => ∃ q, Tape w' tb l L q ∧ q ≤ p' + (if D 5 = true then 1 else 0)) (fun i _ v w' => (i = 5 → ∃ x, v = .int .i64 x ∧ 0 ≤ x ∧ x ≤ (most : Int)) ∧ (i = 6 → ∃ ad x, v = .slice (some ad) 1 1 ∧ (0 ≤ x ∧ x ≤ (most : Int)) ∧ Sl w' (some ad) 1 1 1 (ints .i64 [x]) ∧ w11.heap.size ≤ ad.block))
      (fun w => grown_refl w _) (fun _ _ _ a b => grown_trans a b) (fun i j ags v w w' _ hΦ hE _ => ⟨hΦ.1, fun e => by
        obtain ⟨ad, x, q1, q2, q3, q4⟩ := hΦ.2 e
        exact ⟨ad, x, q1, q2, q3.xg hE (fun ad' ha _ => by cases ha; omega), q4⟩⟩) ⟨p', ht, by simp⟩ ?_
    refine rdE_box0 (by kernel_rfl) (fun w' hE => V.xg hE.1 (by omega)) rfl rfl ?_
    refine z_i64 (by omega) ?_
    refine flcC_mk (fun D w' hD hE hS _ => ?_) (fun x23 => ?_)
    · obtain ⟨q, hq1, hq2⟩ := hS
      rw [hD] at hq2
      refine call_mono (nextF ((most : Int) + 1) hq1 (by simp at hq2; omega) ⟨by omega, by omega⟩) ?_
      rintro (x : Int) w'' ⟨hx, ht', hg⟩
      exact ⟨hg, trivial, ⟨q + 1, ht', by rw [setD_self]; simp at hq2 ⊢; omega⟩, ⟨fun _ => ⟨x, rfl, hx.1, by have := hx.2; omega⟩, fun e => by omega⟩⟩
    refine flcC_mk (fun D w' hD hE hS hf => ?_) (fun x29 => ?_)
    · obtain ⟨q, hq1, hq2⟩ := hS
      obtain ⟨x', hx', hx2⟩ := hf.1.1 rfl
      injection hx' with _ hx'
      rw [← hx'] at hx2
      refine wr_lit tyI64 #[.int .i64 x23] (fill_one 1 (.int .i64 x23) _ rfl (by simp)) (by omega) (by omega) rfl (by unfold maxLen; omega) fun ad w'' O' hb hbl _ => ?_
      exact ⟨hb.xg _, trivial, ⟨q, hq1.up hb, by rw [setD_ne (by decide)]; exact hq2⟩, ⟨fun e => by omega, fun _ => ⟨ad, x23, rfl, hx2, (O' w'.heap.size (Nat.le_refl _)).sl, by have := hE.size; omega⟩⟩⟩
    refine flendC_mk fun w30 hE hS hfa => ?_
    obtain ⟨q, hq1, hq2⟩ := hS
    obtain ⟨ad, xv, ev, hxv, S, hS11⟩ := hfa.1.2 rfl
    have hq3 : q ≤ p' + 1 := hq2
    simp only [Value.slice.injEq] at ev
    obtain ⟨ev1, ev2, ev3⟩ := ev
    rw [ev1, ev2, ev3]
    have O30 : OwnI w30 w4.heap.size uh up := Own.xg O hE (by omega)
    replace A := A.xg hE (by omega); replace V := V.xg hE (by omega)
    replace hf := hf.trans hE
    refine wr_app tyI64 O30 S (by have := hE.size; omega) rfl (by omega) rfl (by omega) (by unfold maxLen; omega) fun a' c' w33 O33 hg33 _ _ => ?_
    have ho : ∀ k, blk uh.1 = some k → w4.heap.size ≤ k := fun k hk => (O30.lt k hk).1
    have hne1 : some x1.block ≠ blk uh.1 := fun e => by have := ho _ e.symm; omega
    have hne3 : some x3.block ≠ blk uh.1 := fun e => by have := ho _ e.symm; omega
    have htt : Tape w33 tb l L q := ⟨hq1.box.grown hg33 (fun e => by have := ho _ e.symm; omega), hq1.sl.grown hg33 (fun ad ha hx e => by have := hq1.old ad ha (by rintro rfl; exact hx rfl); have := ho _ e.symm; omega), hq1.old, hq1.i64⟩
    refine wu_box (V.grown hg33 hne3) (by kernel_rfl) (show 1 ≤ 3 by omega) rfl fun w34 V' hg34 _ => ?_
    refine z_i64 (by dsimp only; omega) ?_
    refine hag _ (by omega) ⟨xg_put (xg_put hf hg33 fun k hk => .inl (by have := ho k hk; have := hb4.size; omega)) hg34 (fun k hk => .inl (by injection hk; omega)), (A.grown hg33 hne1).xg hg34 (by omega), by have := hg33.size; have := hg34.size; have := hE.size; omega, q, (a', uh.2.1 + 1, c'), up ++ [xv], htt.grown hg34 (by omega), by omega, V', ?_, by simp [hul], ?_⟩
    · have : OwnI w33 w4.heap.size (a', uh.2.1 + 1, c') (up ++ [xv]) := by
        show Own w33 _ _ 1 a' (uh.2.1 + 1) c' (ints .i64 (up ++ [xv]))
        rw [ints_app]; exact O33
      exact Own.xg this hg34 l3
    · intro x hx
      rcases List.mem_append.1 hx with hx | hx
      · exact hub x hx
      · simp at hx; subst hx; exact hxv
  -- all bounds are there
  dsimp only at e
  have hin : i = n := by omega
  subst hin
  clear hag again
  have hol' := O.len
  have SU := O.sl
  have lu : ∀ ad, uh.1 = some ad → ints .i64 up ≠ [] → w4.heap.size ≤ ad.block ∧ ad.block < w10.heap.size := fun ad ha hx => ⟨(O.lt ad.block (by rw [ha]; rfl)).1, SU.lt ad ha hx⟩
  have l10 : w4.heap.size ≤ w10.heap.size := hs4
  refine wr_make tyI64 i rfl rfl (by omega) (by unfold maxLen; omega) fun xd w37 OX h37 hxd _ => ?_
  have OX' : OwnI w37 w10.heap.size (some xd, i, i) (List.replicate i 0) := by
    have := OX w10.heap.size (Nat.le_refl _)
    have hq : (madeCells (Value.int .i64 0).cells (i * 1)).toList = ints .i64 (List.replicate i 0) := by rw [Nat.mul_one]; exact made_int .i64 i
    rw [hq] at this
    exact this
  -- frames from here on: the tape, the system's variable, and what is new
  refine loop_up i (fun j w' => w10.grownBy w' (some tb.block) ∧ ∃ p' xs, Tape w' tb l L p' ∧ p' ≤ p + 1 + i + j ∧ OwnI w' w10.heap.size (some xd, i, i) xs ∧ ∀ x ∈ xs, 0 ≤ x ∧ x ≤ (most : Int))
    ⟨h37.xg _, p', List.replicate i 0, ht.up h37, by omega, OX', fun x hx => by rw [List.eq_of_mem_replicate hx]; omega⟩ fun j w40 hj ⟨hf40, p2, xs, ht, hp2, OX, hxb⟩ again hag _ => ?_
  have hxl := OX.len
  have V40 := V.xg hf40 (by omega)
  have SU40 := SU.xg hf40 (fun ad ha hx => by have := lu ad ha hx; omega)
  refine br_dec (fun e2 => ?_) (fun e2 => ?_)
  · dsimp only at e2
    refine rd_box0 (by kernel_rfl) V40 rfl rfl ?_
    refine at_int tyI64 (by kernel_rfl) SU40 rfl (by omega) fun u hu => ?_
    have hub' := hub u (mem_at hu)
    refine z_i64 (by omega) ?_
    refine call_mono (nextF (u + 1) ht (by omega) ⟨by omega, by omega⟩) ?_
    rintro (x45 : Int) w46 ⟨hx45, ht2, hg46⟩
    have OX46 : OwnI w46 w10.heap.size (some xd, i, i) xs := Own.xg OX hg46 (by omega)
    refine set_mk tyI64 OX46 rfl (show j < i by omega) rfl fun w48 OX48 hg48 _ => ?_
    rw [ints_set] at OX48
    refine z_i64 (by dsimp only; omega) ?_
    have hxd' : w10.heap.size ≤ xd.block := by omega
    refine hag _ (by omega) ⟨xg_put (hf40.trans hg46) hg48 (fun k hk => .inl (by simp [blk] at hk; omega)), p2 + 1, xs.set j x45, Tape.grown (b := xd.block) ht2 hg48 (by omega), by omega, OX48, fun x hx => ?_⟩
    rcases List.mem_or_eq_of_mem_set hx with hx | rfl
    · exact hxb x hx
    · exact ⟨hx45.1, by have := hx45.2; omega⟩
  dsimp only at e2
  clear hag again
  have hji : j = i := by omega
  subst hji
  have SX := OX.sl
  have lx : w10.heap.size ≤ xd.block ∧ xd.block < w40.heap.size := ⟨by omega, (OX.lt xd.block rfl).2⟩
  refine call_mono (nextF 2 ht (by omega) ⟨by omega, by omega⟩) ?_
  rintro (x50 : Int) w51 ⟨_, ht, hg51⟩
  refine z_i64 (by omega) ?_
  refine call_mono (nextF ((rows : Int) + 1) ht (by omega) ⟨by omega, by omega⟩) ?_
  rintro (x53 : Int) w54 ⟨hx53, ht, hg54⟩
  have hf54 := hg51.trans hg54
  have hsz54 := hf54.size
  have hsz40 := hf40.size
  obtain ⟨K, hK⟩ : ∃ K : Nat, x53 = (K : Int) := ⟨x53.toNat, by have := hx53.1; omega⟩
  subst hK
  have hKr : K ≤ rows := by have := hx53.2; omega
  have V54 := V40.xg hf54 (by omega)
  have A54 := (A.xg hf40 (by omega)).xg hf54 (by omega)
  have SU54 := SU40.xg hf54 (fun ad ha hx => by have := lu ad ha hx; omega)
  have SX54 := Sl.xg SX hf54 (fun ad ha _ => by cases ha; omega)
  have hfw54 : w.grownBy w54 (some tb.block) := (hf.trans hf40).trans hf54
  have hA1 : x1.block ≠ tb.block ∧ x1.block ≠ x3.block := ⟨by omega, by omega⟩
  -- what stays while rows are made
  have Kx : ∀ {w' : World}, Xb (fun k => k = tb.block ∨ k = x3.block) w54 w' → Sl w' (some xd) j j 1 (ints .i64 xs) := fun hX => by
    refine ⟨SX54.len, SX54.cap, SX54.most, SX54.nil', fun k u hu => ?_⟩
    obtain ⟨ad, q1, q2, q3⟩ := SX54.at' k u hu
    cases q1
    refine ⟨xd, rfl, ?_, by have := hX.size; omega⟩
    have := hX.block xd.block q3 (by omega)
    unfold World.cell? at q2 ⊢
    rw [add_block] at q2 ⊢
    rw [this]; exact q2
  have Ku : ∀ {w' : World}, Xb (fun k => k = tb.block ∨ k = x3.block) w54 w' → Sl w' uh.1 uh.2.1 uh.2.2 1 (ints .i64 up) := fun hX => by
    refine ⟨SU54.len, SU54.cap, SU54.most, SU54.nil', fun k u hu => ?_⟩
    obtain ⟨ad, q1, q2, q3⟩ := SU54.at' k u hu
    have hne : ints .i64 up ≠ [] := by rintro h0; rw [h0] at hu; simp at hu
    have := lu ad q1 hne
    refine ⟨ad, q1, ?_, by have := hX.size; omega⟩
    have := hX.block ad.block q3 (by omega)
    unfold World.cell? at q2 ⊢
    rw [add_block] at q2 ⊢
    rw [this]; exact q2
  refine loop_gh (G := Nat) (fun m s w' => s = (((K - m : Nat) : Int), ()) ∧ m ≤ K ∧ Xb (fun k => k = tb.block ∨ k = x3.block) w54 w' ∧ Box w' x1 nil3 ∧ ∃ p' rh bh hs T rt, Tape w' tb l L p' ∧ p' ≤ p + 3 + 2 * j + m * (j + 1) ∧
      Box w' x3 [.slice uh.1 uh.2.1 uh.2.2, .slice (rh : Hdr).1 rh.2.1 rh.2.2, .slice (bh : Hdr).1 bh.2.1 bh.2.2] ∧ TabH w' w54.heap.size rh hs ∧ OwnI w' w54.heap.size bh rt ∧ RowsAt w' hs T w54.heap.size (blk rh.1) (blk bh.1) ∧ T.length = m ∧ rt.length = m ∧
      (∀ q ∈ T, q.length = up.length ∧ ∀ x ∈ q, -5 ≤ x ∧ x ≤ 5) ∧ (∀ x ∈ rt, x.natAbs ≤ vars * 50000 + 3)) (fun m => K - m) 0
    ⟨rfl, Nat.zero_le _, Xb.refl _ _, A54, p2 + 1 + 1, (none, 0, 0), (none, 0, 0), [], [], [], ht, by omega, V54, Own.nil _ _ _ _, Own.nil _ _ _ _, ⟨rfl, fun i x q h1 _ => by simp at h1⟩, rfl, rfl, by simp, by simp⟩ ?_
  rintro m s w57 ⟨rfl, hmK, hX, A57, p3, rh, bh, hs, T, rt, ht, hp3, V57, OR, OB, RA, hTl, hrl, hTp, hrp⟩ again hag _
  have hX57 := hX.size
  refine br_dec (fun e3 => ?_) (fun e3 => ?_)
  · dsimp only at e3
    have SX57 := Kx hX
    have hrl0 := OR.len
    have hbl0 := OB.len
    have hhs := RA.1
    have apt : ∀ k, blk rh.1 = some k → blk bh.1 = some k → False := TabH.apart OR OB
    have lR : ∀ k, blk rh.1 = some k → w54.heap.size ≤ k ∧ k < w57.heap.size := fun k hk => OR.lt k hk
    have lB : ∀ k, blk bh.1 = some k → w54.heap.size ≤ k ∧ k < w57.heap.size := fun k hk => OB.lt k hk
    refine join_mk (fun _ w' => Xb (fun k => k = tb.block ∨ k = x3.block) w54 w' ∧ Box w' x1 nil3 ∧ ∃ p' rh bh hs T rt, Tape w' tb l L p' ∧ p' ≤ p + 3 + 2 * j + (m + 1) * (j + 1) ∧
      Box w' x3 [.slice uh.1 uh.2.1 uh.2.2, .slice (rh : Hdr).1 rh.2.1 rh.2.2, .slice (bh : Hdr).1 bh.2.1 bh.2.2] ∧ TabH w' w54.heap.size rh hs ∧ OwnI w' w54.heap.size bh rt ∧ RowsAt w' hs T w54.heap.size (blk rh.1) (blk bh.1) ∧ T.length = m + 1 ∧ rt.length = m + 1 ∧
      (∀ q ∈ T, q.length = up.length ∧ ∀ x ∈ q, -5 ≤ x ∧ x ≤ 5) ∧ (∀ x ∈ rt, x.natAbs ≤ vars * 50000 + 3)) (fun K' hK' => ?_) (fun _ w60 hJ _ => ?_)
    · refine loop_gh (G := Nat) (fun i s w' => ∃ (a : Hdr) (row : List Int) (p' : Nat), s = (a, dotI row xs i, ((i : Nat) : Int), ()) ∧ i ≤ j ∧ w57.grownBy w' (some tb.block) ∧ Tape w' tb l L p' ∧ p' ≤ p3 + i ∧ OwnI w' w57.heap.size a row ∧ row.length = i ∧ (∀ x ∈ row, -5 ≤ x ∧ x ≤ 5) ∧ (dotI row xs i).natAbs ≤ i * 50000) (fun i => j - i) 0
        ⟨(none, 0, 0), [], p3, rfl, Nat.zero_le _, grown_refl _ _, ht, by omega, Own.nil _ _ _ _, rfl, by simp, by simp [dotI]⟩ ?_
      rintro i s w64 ⟨a, row, p4, rfl, hij, hf57, ht, hp4, OA, hrow, hrb, hsum⟩ again2 hag2 _
      have hal := OA.len
      have hs64 := hf57.size
      refine br_dec (fun e4 => ?_) (fun e4 => ?_)
      · dsimp only at e4
        refine call_mono (nextF 11 ht (by have : m * (j + 1) ≤ 20 * 21 := Nat.mul_le_mul (by omega) (by omega); omega) ⟨by omega, by omega⟩) ?_
        rintro (x65 : Int) w66 ⟨hx65, ht, hg66⟩
        refine z_i64 (by omega) ?_
        have OA66 : OwnI w66 w57.heap.size a row := Own.xg OA hg66 (by omega)
        refine wr_app1 tyI64 OA66 (by have := hg66.size; omega) rfl (by omega) (by omega) rfl rfl (by omega) (by unfold maxLen; omega) fun a' c' w71 O71 hg71 _ _ => ?_
        have hoA : ∀ k, blk a.1 = some k → w57.heap.size ≤ k := fun k hk => (OA66.lt k hk).1
        have SX66 := Sl.xg (Sl.xg SX57 hf57 (fun ad ha _ => by cases ha; omega)) hg66 (fun ad ha _ => by cases ha; omega)
        have SX71 := Sl.grown SX66 hg71 (fun ad ha _ e => by cases ha; have := hoA _ e.symm; omega)
        refine at_int tyI64 (by kernel_rfl) SX71 rfl (by omega) fun xv hxv => ?_
        have bx := hxb xv (mem_at hxv)
        have hc : (row ++ [x65 - 5])[i]? = some (x65 - 5) := by rw [List.getElem?_append_right (by omega), hrow, Nat.sub_self]; rfl
        have st : dotI (row ++ [x65 - 5]) xs (i + 1) = dotI row xs i + (x65 - 5) * xv := by rw [dotI_step hc hxv, dotI_snoc (by omega)]
        have bp : ((x65 - 5) * xv).natAbs ≤ 50000 := by
          rw [Int.natAbs_mul]
          exact Nat.le_trans (Nat.mul_le_mul (show (x65 - 5).natAbs ≤ 5 by omega) (show xv.natAbs ≤ 10000 by omega)) (by omega)
        have bs : (dotI (row ++ [x65 - 5]) xs (i + 1)).natAbs ≤ (i + 1) * 50000 := by rw [st]; omega
        refine z_i64 (by omega) ?_
        refine z_i64 (by dsimp only; omega) ?_
        refine z_i64 (by dsimp only; omega) ?_
        have htt : Tape w71 tb l L (p4 + 1) := ⟨ht.box.grown hg71 (fun e => by have := hoA _ e.symm; omega), ht.sl.grown hg71 (fun ad ha hx e => by have := ht.old ad ha (by rintro rfl; exact hx rfl); have := hoA _ e.symm; omega), ht.old, ht.i64⟩
        refine hag2 (i + 1) _ _ ⟨(a', i + 1, c'), row ++ [x65 - 5], p4 + 1, ?_, by omega, xg_put (hf57.trans hg66) hg71 (fun k hk => .inl (hoA k hk)), htt, by omega, ?_, by simp [hrow], fun x hx => ?_, bs⟩ (by omega)
        · rw [st]
          have : a.2.1 = i := by omega
          rw [this]; rfl
        · show Own w71 _ _ 1 a' (i + 1) c' (ints .i64 (row ++ [x65 - 5]))
          have : a.2.1 = i := by omega
          rw [ints_app, ← this]; exact O71
        · rcases List.mem_append.1 hx with hx | hx
          · exact hrb x hx
          · simp at hx; subst hx; omega
      dsimp only at e4
      have hij' : i = j := by omega
      subst hij'
      have bmul : m * (i + 1) ≤ 20 * 21 := Nat.mul_le_mul (by omega) (by omega)
      have bi : i * 50000 ≤ vars * 50000 := Nat.mul_le_mul (by omega) (Nat.le_refl _)
      refine join_mk (fun s w' => s.1.natAbs ≤ vars * 50000 + 3 ∧ w57.grownBy w' (some tb.block) ∧ OwnI w' w57.heap.size a row ∧ ∃ p', Tape w' tb l L p' ∧ p' ≤ p3 + i + 1) (fun K'' hK'' => ?_) (fun s w79 hh _ => ?_)
      · refine br_not (fun _ => ?_) (fun _ => hK'' _ _ ⟨Nat.le_trans hsum (Nat.le_trans bi (Nat.le_add_right _ _)), hf57, OA, p4, ht, by omega⟩)
        refine call_mono (nextF 7 ht (by omega) ⟨by omega, by omega⟩) ?_
        rintro (x115 : Int) w116 ⟨hx115, ht, hg116⟩
        refine z_i64 (by omega) ?_
        refine z_i64 (by dsimp only; omega) ?_
        exact hK'' _ _ ⟨by dsimp only; omega, hf57.trans hg116, Own.xg OA hg116 (by omega), p4 + 1, ht, by omega⟩
      obtain ⟨sv, _⟩ := s
      obtain ⟨hsv, hf79, OA, p5, ht, hp5⟩ := hh
      dsimp only at hsv
      have hs79 := hf79.size
      refine drw_mk fun w80 h80 _ => ?_
      replace ht := ht.up h80
      have hf80 : w57.grownBy w80 (some tb.block) := hf79.trans (grown_of_bel h80 _)
      have hs80 := hf80.size
      have OR80 : TabH w80 w54.heap.size rh hs := Own.xg OR hf80 (by omega)
      have OB80 : OwnI w80 w54.heap.size bh rt := Own.xg OB hf80 (by omega)
      have OA80 : OwnI w80 w57.heap.size a row := Own.kept OA h80
      have V80 := V57.xg hf80 (by omega)
      have nx3 : ¬ (blk rh.1 = some x3.block ∨ blk bh.1 = some x3.block) := by rintro (q | q); have := lR _ q; omega; have := lB _ q; omega
      have blB : ∀ {k w'}, blk rh.1 = some k ∨ blk bh.1 = some k → w80.heap.size ≤ w'.heap.size → k < (w' : World).heap.size := by
        rintro k w' (q | q) h
        · have := lR _ q; omega
        · have := lB _ q; omega
      refine flExC_mk (Xb (fun k => blk rh.1 = some k ∨ blk bh.1 = some k)) (fun jj w w' => (jj = 4 → w.grownBy w' (blk rh.1)) ∧ (jj = 9 → w.grownBy w' (blk bh.1)) ∧ (jj ≠ 4 → jj ≠ 9 → bel w w'))
        (fun D w' => (D 4 = false → TabH w' w54.heap.size rh hs) ∧ (D 9 = false → OwnI w' w54.heap.size bh rt))
        (fun i _ v w' => (i = 3 → ∃ ad, v = .slice (some ad) 1 1 ∧ Sl w' (some ad) 1 1 1 [hv a] ∧ w80.heap.size ≤ ad.block) ∧ (i = 8 → ∃ ad, v = .slice (some ad) 1 1 ∧ Sl w' (some ad) 1 1 1 (ints .i64 [sv]) ∧ w80.heap.size ≤ ad.block) ∧
          (i = 4 → ∃ a' c', v = .slice a' (rh.2.1 + 1) c' ∧ TabH w' w54.heap.size (a', rh.2.1 + 1, c') (hs ++ [a]) ∧ (blk a' = blk rh.1 ∨ ∀ k, blk a' = some k → w80.heap.size ≤ k)) ∧
          (i = 9 → ∃ a' c', v = .slice a' (bh.2.1 + 1) c' ∧ OwnI w' w54.heap.size (a', bh.2.1 + 1, c') (rt ++ [sv]) ∧ (blk a' = blk bh.1 ∨ ∀ k, blk a' = some k → w80.heap.size ≤ k)))
        (fun w => Xb.refl _ w) (fun _ _ _ x y => Xb.trans x y) (fun i jj ags v w w' hne hΦ hE hG => ⟨fun e => ?_, fun e => ?_, fun e => ?_, fun e => ?_⟩) ⟨fun _ => OR80, fun _ => OB80⟩ ?_
      · obtain ⟨ad, q1, q2, q3⟩ := hΦ.1 e
        exact ⟨ad, q1, q2.xb hE (fun ad' ha _ q => by cases ha; have := blB q (Nat.le_refl _); omega), q3⟩
      · obtain ⟨ad, q1, q2, q3⟩ := hΦ.2.1 e
        exact ⟨ad, q1, q2.xb hE (fun ad' ha _ q => by cases ha; have := blB q (Nat.le_refl _); omega), q3⟩
      · obtain ⟨a', c', q1, q2, q3⟩ := hΦ.2.2.1 e
        refine ⟨a', c', q1, ?_, q3⟩
        by_cases hj9 : jj = 9
        · refine Own.keptBy q2 (hG.2.1 hj9) ?_
          cases hk : blk a' with
          | none => exact .inl rfl
          | some k =>
            refine .inr fun q => ?_
            rcases q3 with q3 | q3
            · exact apt k (by rw [← q3, hk]) q.symm
            · have := q3 k hk; have := lB k q.symm; omega
        · exact Own.kept q2 (hG.2.2 (fun q => hne (e.trans q.symm)) hj9)
      · obtain ⟨a', c', q1, q2, q3⟩ := hΦ.2.2.2 e
        refine ⟨a', c', q1, ?_, q3⟩
        by_cases hj4 : jj = 4
        · refine Own.keptBy q2 (hG.1 hj4) ?_
          cases hk : blk a' with
          | none => exact .inl rfl
          | some k =>
            refine .inr fun q => ?_
            rcases q3 with q3 | q3
            · exact apt k q.symm (by rw [← q3, hk])
            · have := q3 k hk; have := lR k q.symm; omega
        · exact Own.kept q2 (hG.2.2 hj4 (fun q => hne (e.trans q.symm)))
      have xbel : ∀ {w w' : World}, bel w w' → Xb (fun k => blk rh.1 = some k ∨ blk bh.1 = some k) w w' := fun hb => Xb.of (grown_of_bel hb none) (fun k hk => by cases hk)
      refine rdE_box (by kernel_rfl) (fun w' hE => V80.xb hE.1 nx3) (i := 1) rfl rfl ?_
      refine flcC_mk (fun D w' hD hE hS _ => ?_) (fun (x91 : Hdr) => ?_)
      · refine wr_lit tyTab #[.slice a.1 a.2.1 a.2.2] (fill_one 1 (.slice a.1 a.2.1 a.2.2) _ rfl (by simp)) (by omega) (by omega) rfl (by unfold maxLen; omega) fun ad w'' O' hb hbl _ => ?_
        exact ⟨xbel hb, ⟨fun e => by omega, fun e => by omega, fun _ _ => hb⟩, ⟨fun q => Own.kept (hS.1 (by rw [setD_ne (by decide)] at q; exact q)) hb, fun q => Own.kept (hS.2 (by rw [setD_ne (by decide)] at q; exact q)) hb⟩, ⟨fun _ => ⟨ad, rfl, (O' w'.heap.size (Nat.le_refl _)).sl, by have := hE.size; omega⟩, fun e => by omega, fun e => by omega, fun e => by omega⟩⟩
      refine flcC_mk (fun D w' hD hE hS hf => ?_) (fun (x97 : Hdr) => ?_)
      · obtain ⟨ad, ev, S, hS80⟩ := hf.1.1 rfl
        simp only [Value.slice.injEq] at ev
        obtain ⟨ev1, ev2, ev3⟩ := ev
        rw [ev1, ev2, ev3]
        have OR' := hS.1 hD
        refine wr_app tyTab OR' S (by have := hE.size; omega) rfl (by omega) rfl (by omega) (by unfold maxLen; omega) fun a' c' w'' O' hg hnew _ => ?_
        refine ⟨Xb.of hg (fun k hk => .inl hk), ⟨fun _ => hg, fun e => by omega, fun e => absurd rfl e⟩, ⟨(fun q => by rw [setD_self] at q; cases q), fun q => Own.keptBy (hS.2 (by rw [setD_ne (by decide)] at q; exact q)) hg ?_⟩, ⟨fun e => by omega, fun e => by omega, fun _ => ⟨a', c', rfl, ?_, ?_⟩, fun e => by omega⟩⟩
        · cases hk : blk bh.1 with
          | none => exact .inl rfl
          | some k => exact .inr fun q => apt k q.symm hk
        · show Own w'' _ _ 1 a' (rh.2.1 + 1) c' ((hs ++ [a]).map hv)
          rw [List.map_append]; exact O'
        · rcases hnew with q | q
          · exact .inl q
          · exact .inr fun k hk => by have := q k hk; have := hE.size; omega
      refine rdE_box (by kernel_rfl) (fun w' hE => V80.xb hE.1 nx3) (i := 2) rfl rfl ?_
      refine flcC_mk (fun D w' hD hE hS _ => ?_) (fun (x104 : Hdr) => ?_)
      · refine wr_lit tyI64 #[.int .i64 sv] (fill_one 1 (.int .i64 sv) _ rfl (by simp)) (by omega) (by omega) rfl (by unfold maxLen; omega) fun ad w'' O' hb hbl _ => ?_
        exact ⟨xbel hb, ⟨fun e => by omega, fun e => by omega, fun _ _ => hb⟩, ⟨fun q => Own.kept (hS.1 (by rw [setD_ne (by decide)] at q; exact q)) hb, fun q => Own.kept (hS.2 (by rw [setD_ne (by decide)] at q; exact q)) hb⟩, ⟨fun e => by omega, fun _ => ⟨ad, rfl, (O' w'.heap.size (Nat.le_refl _)).sl, by have := hE.size; omega⟩, fun e => by omega, fun e => by omega⟩⟩
      refine flcC_mk (fun D w' hD hE hS hf => ?_) (fun (x110 : Hdr) => ?_)
      · obtain ⟨ad, ev, S, hS80⟩ := hf.1.2.1 rfl
        simp only [Value.slice.injEq] at ev
        obtain ⟨ev1, ev2, ev3⟩ := ev
        rw [ev1, ev2, ev3]
        have OB' := hS.2 hD
        refine wr_app tyI64 OB' S (by have := hE.size; omega) rfl (by omega) rfl (by omega) (by unfold maxLen; omega) fun a' c' w'' O' hg hnew _ => ?_
        refine ⟨Xb.of hg (fun k hk => .inr hk), ⟨fun e => by omega, fun _ => hg, fun _ e => absurd rfl e⟩, ⟨fun q => Own.keptBy (hS.1 (by rw [setD_ne (by decide)] at q; exact q)) hg ?_, (fun q => by rw [setD_self] at q; cases q)⟩, ⟨fun e => by omega, fun e => by omega, fun e => by omega, fun _ => ⟨a', c', rfl, ?_, ?_⟩⟩⟩
        · cases hk : blk rh.1 with
          | none => exact .inl rfl
          | some k => exact .inr fun q => apt k hk q.symm
        · show Own w'' _ _ 1 a' (bh.2.1 + 1) c' (ints .i64 (rt ++ [sv]))
          rw [ints_app]; exact O'
        · rcases hnew with q | q
          · exact .inl q
          · exact .inr fun k hk => by have := q k hk; have := hE.size; omega
      refine flendC_mk fun w111 hE hS hfa => ?_
      obtain ⟨f9, _, f4, _⟩ := hfa
      obtain ⟨b1, d1, ev, OB1, hb1⟩ := f9.2.2.2 rfl
      have e9 : x110 = (b1, bh.2.1 + 1, d1) := sl_inj ev
      obtain ⟨a1, c1, ev, OR1, ha1⟩ := f4.2.2.1 rfl
      have e4' : x97 = (a1, rh.2.1 + 1, c1) := sl_inj ev
      subst e9 e4'
      have hs111 := hE.size
      have V111 := V80.xb hE nx3
      have ht111 := ht.xb hE (by rintro k (q | q); have := lR _ q; omega; have := lB _ q; omega)
      have A111 := (A57.xg hf80 (by omega)).xb hE (by rintro (q | q); have := lR _ q; omega; have := lB _ q; omega)
      have RA80 := RA.grown hf80 (.inl fun k hk => by injection hk; omega)
      have RA111 := RA80.xb hE (fun k q => q)
      have SA := OA80.sl
      have lA : ∀ ad, a.1 = some ad → w57.heap.size ≤ ad.block ∧ ad.block < w80.heap.size := fun ad ha => OA80.lt ad.block (by rw [ha]; rfl)
      have SA111 := SA.xb hE (fun ad ha _ q => by
        rcases q with q | q
        · have := lR _ q; have := lA ad ha; omega
        · have := lB _ q; have := lA ad ha; omega)
      have RA2 : RowsAt w111 (hs ++ [a]) (T ++ [row]) w54.heap.size (blk a1) (blk b1) := by
        refine ⟨by simp [hhs], fun k x q g1 g2 => ?_⟩
        have off : ∀ ad : Addr, w54.heap.size ≤ ad.block → ad.block < w80.heap.size → some ad.block ≠ blk rh.1 → some ad.block ≠ blk bh.1 → some ad.block ≠ blk a1 ∧ some ad.block ≠ blk b1 := by
          intro ad q1 q2 q3 q4
          constructor
          · intro e
            rcases ha1 with r | r
            · exact q3 (e.trans r)
            · have := r _ e.symm; omega
          · intro e
            rcases hb1 with r | r
            · exact q4 (e.trans r)
            · have := r _ e.symm; omega
        rcases Nat.lt_or_ge k hs.length with r | r
        · rw [List.getElem?_append_left r] at g1
          rw [List.getElem?_append_left (by omega)] at g2
          obtain ⟨s1, s2⟩ := RA111.2 k x q g1 g2
          obtain ⟨_, s3⟩ := RA80.2 k x q g1 g2
          refine ⟨s1, fun ad ha => ?_⟩
          obtain ⟨r1, r2, r3, r4⟩ := s3 ad ha
          obtain ⟨o1, o2⟩ := off ad r1 r2 r3 r4
          exact ⟨r1, by omega, o1, o2⟩
        · rw [List.getElem?_append_right r] at g1
          rw [List.getElem?_append_right (by omega)] at g2
          have hk0 : k - hs.length = 0 := by
            rcases Nat.eq_zero_or_pos (k - hs.length) with z | z
            · exact z
            · rw [List.getElem?_eq_none (by simp; omega)] at g1; cases g1
          rw [hk0] at g1
          rw [show k - T.length = 0 by omega] at g2
          cases g1; cases g2
          refine ⟨SA111, fun ad ha => ?_⟩
          have := lA ad ha
          obtain ⟨o1, o2⟩ := off ad (by omega) (by omega) (fun e => by have := lR _ e.symm; omega) (fun e => by have := lB _ e.symm; omega)
          exact ⟨by omega, by omega, o1, o2⟩
      refine wu_boxi V111 (by kernel_rfl) (show 1 < 3 by omega) rfl fun w113 V113 hg113 _ => ?_
      refine wu_boxi V113 (by kernel_rfl) (show 2 < 3 by omega) rfl fun w114 V114 hg114 _ => ?_
      have hg2 : w111.grownBy w114 (some x3.block) := hg113.trans hg114
      refine hK' _ _ ⟨?_, A111.xg hg2 (by omega), p5, (a1, rh.2.1 + 1, c1), (b1, bh.2.1 + 1, d1), hs ++ [a], T ++ [row], rt ++ [sv], ht111.grown hg2 (by omega), ?_, V114, Own.xg OR1 hg2 (by omega), Own.xg OB1 hg2 (by omega), RA2.grown hg2 (.inl fun k hk => by injection hk; omega), by simp [hTl], by simp [hrl], ?_, ?_⟩
      · refine ((hX.more (Xb.of (S := fun k => k = tb.block) hf80 (fun k hk => by injection hk with hk; exact hk.symm)) (fun k q => .inl (.inl q))).more hE (fun k q => .inr ?_)).more (Xb.of (S := fun k => k = x3.block) hg2 (fun k hk => by injection hk with hk; exact hk.symm)) (fun k q => .inl (.inr q))
        rcases q with q | q
        · exact (lR k q).1
        · exact (lB k q).1
      · have : (m + 1) * (i + 1) = m * (i + 1) + (i + 1) := by rw [Nat.add_mul, Nat.one_mul]
        omega
      · intro q hq
        rcases List.mem_append.1 hq with hq | hq
        · exact hTp q hq
        · simp at hq; subst hq; exact ⟨by omega, hrb⟩
      · intro x hx
        rcases List.mem_append.1 hx with hx | hx
        · exact hrp x hx
        · simp at hx; subst hx; exact hsv
    · obtain ⟨g1, g2, g3⟩ := hJ
      refine z_i64 (by dsimp only; omega) ?_
      refine hag (m + 1) _ _ ⟨?_, by omega, g1, g2, g3⟩ (by omega)
      have : (((K - m : Nat) : Int) - 1) = ((K - (m + 1) : Nat) : Int) := by omega
      rw [this]
  · dsimp only at e3
    have hmK' : m = K := by omega
    subst hmK'
    refine rd_boxN V57 (by kernel_rfl) rfl ?_
    refine wu_box A57 (by kernel_rfl) (Nat.le_refl 3) rfl fun w108 A108 hg108 _ => ?_
    have hhl := OR.len
    refine rd_boxV A108 (by kernel_rfl) rfl ⟨((uh, rh, bh, ()) : Hdr × Hdr × Hdr × Unit), rfl, up, T, rt, p3, ⟨by omega, by omega, by omega, by omega, hTp, hub, hrp⟩, fun w2 hg2 => ⟨?_, ?_, ?_⟩, ht.grown hg108 (by omega), ?_, ?_⟩
    · exact Sl.xg (Sl.xg (Ku hX) hg108 (fun ad ha hx => by have := lu ad ha hx; omega)) hg2 (fun ad ha hx => by have := lu ad ha hx; omega)
    · have OR2 := Own.xg (Own.xg OR hg108 (by omega)) hg2 (by omega)
      have RA2 := (RA.grown hg108 (.inl fun k hk => by injection hk; omega)).grown hg2 (.inl fun k hk => by injection hk; omega)
      exact ⟨hs, OR2.sl, RA2.1, fun i x q h1 h2 => (RA2.2 i x q h1 h2).1⟩
    · exact Own.sl (Own.xg (Own.xg OB hg108 (by omega)) hg2 (by omega))
    · have : m * (j + 1) ≤ 20 * 21 := Nat.mul_le_mul (by omega) (by omega)
      omega
    · refine xg_put (o := some x1.block) ?_ hg108 (fun k hk => .inl (by injection hk; omega))
      exact ⟨hX.os.trans hfw54.os, hX.tape.trans hfw54.tape, hX.output.trans hfw54.output, by have := hfw54.size; omega, fun k hk hne => by
        rw [hX.block k (by have := hfw54.size; omega) (by rintro (q | q); exact hne (by rw [q]); omega), hfw54.block k hk hne]⟩
end Go.Proofs.YtajpdnphamomjaaGreat

/- The walk of LinearCombines. -/

namespace Go.Proofs.YtajpdnphamomjaaGreat
open Go.RowKit Go.Q Go.Q.Num Go.V

theorem tyFracTab : TyS Tryz.prog 95 32 (.slice none 0 0) 1 24 := ⟨by kernel_rfl, by kernel_rfl⟩
theorem fill_two (a b : Hdr) : Instr.fill (fun i => some (i * 1, 1)) ((Array.range (2 * 1)).map ((Value.slice none 0 0).cells[· % (Value.slice none 0 0).cells.size]!)) (#[(0, .slice a.1 a.2.1 a.2.2), (1, .slice b.1 b.2.1 b.2.2)] : Array (Nat × Value)).toList = some #[.slice a.1 a.2.1 a.2.2, .slice b.1 b.2.1 b.2.2] := by kernel_rfl
theorem tape_new {w w' : World} {tb : Addr} {l : Hdr} {L : List Int} (S : Sl w l.1 l.2.1 l.2.2 1 (ints .i64 L)) (hI : ∀ x ∈ L, I64 x) (X : Box w' tb [.slice l.1 l.2.1 l.2.2, .int .i64 0]) (hb : bel w w') (hn : tb.block = w.heap.size) : Tape w' tb l L 0 :=
  ⟨X, S.up hb, fun ad ha hx => by have := S.lt ad ha (by intro e; cases L with | nil => exact hx rfl | cons x L => cases e); omega, hI⟩
theorem Tape.put {w w' : World} {tb : Addr} {l : Hdr} {L : List Int} {p : Nat} {o : Option Nat} (h : Tape w tb l L p) (hg : w.grownBy w' o) (ho : ∀ k, o = some k → tb.block < k) : Tape w' tb l L p :=
  ⟨h.box.grown hg (fun e => by have := ho _ e.symm; omega), h.sl.grown hg (fun ad ha hx e => by have := h.old ad ha (by rintro rfl; exact hx rfl); have := ho _ e.symm; omega), h.old, h.i64⟩
abbrev OwnF (w : World) (B : Nat) (h : Hdr) (M : List (Int × Int)) : Prop := Own w B 60 2 h.1 h.2.1 h.2.2 (M.flatMap encF)
theorem fr_put {C : List (Int × Int)} {h : Hdr} {w w' : World} {X : Addr} (hC : ∀ p ∈ C, p.2 ≠ 0) (S : Sl w h.1 h.2.1 h.2.2 2 (C.flatMap encF)) (B : Box w X [.int .i64 0, .int .i64 0]) (hg : w.grownBy w' (some X.block)) : Sl w' h.1 h.2.1 h.2.2 2 (C.flatMap encF) := by
  refine S.grown hg fun ad ha hx e => ?_
  injection e with e
  cases C with
  | nil => exact hx rfl
  | cons q C =>
    have hq := hC q (List.mem_cons_self ..)
    obtain ⟨ad', h1, h2, _⟩ := S.at' 1 (.int .i64 q.2) rfl
    rw [ha] at h1; cases h1
    obtain ⟨T, hT⟩ := B.blk
    unfold World.cell? at h2
    rw [add_block, e, hT] at h2
    simp only at h2
    split at h2
    · cases h2
    · generalize (ad.add 1).off = o at h2
      match o, h2 with
      | 0, h2 => simp at h2; exact hq h2.symm
      | 1, h2 => simp at h2; exact hq h2.symm
      | o + 2, h2 => simp at h2
theorem CombR.put {up : List Int} {T : List (List Int)} {rt : List Int} {M : List (Int × Int)} {x : CT} {w w' : World} {X : Addr} (h : CombR up T rt M x w) (B : Box w X [.int .i64 0, .int .i64 0]) (hg : w.grownBy w' (some X.block)) : CombR up T rt M x w' :=
  ⟨h.1, fun e => ⟨fr_put (fun p hp => by
    simp only [cols, List.mem_map] at hp
    obtain ⟨k, _, rfl⟩ := hp
    have := (colQ T M k).den_pos
    show (((colQ T M k).den : Nat) : Int) ≠ 0
    omega) (h.2.1 e).1 B hg, (h.2.1 e).2⟩, h.2.2⟩
set_option maxRecDepth 100000 in
theorem argTape {w : World} {v : Value} (h : Go.Q.Arg Tryz.prog w 22 v) : ∃ x xs, v = hv x ∧ Sl w x.1 x.2.1 x.2.2 1 (ints .i64 xs) ∧ ∀ n ∈ xs, I64 n := by
  obtain ⟨a, n, c, rfl, h⟩ := Go.V.Arg.slice Tryz.underlying22 h
  obtain ⟨a1, n1, c1, xs, q1, _, s1, b1⟩ := Go.V.Read.ints Tryz.underlying22 Tryz.underlying3 (by kernel_rfl) h
  cases q1
  exact ⟨(a, n, c), xs, rfl, s1, fun x hx => bounds_i64 (b1 x hx)⟩
end Go.Proofs.YtajpdnphamomjaaGreat

/- Made proofs: the walk of proof. -/



namespace Go.Proofs.YtajpdnphamomjaaGreat
open Go.RowKit Go.Q Go.Q.Num Go.V

abbrev sPr : VS := .agg [.int .i64, .slice, .int .i64, .int .i64, .slice]
def cN : Nat → Nat
  | 0 => 20
  | m + 1 => 2 * cN m + 20
/-- what a maker of proofs is to do -/
def ProofC (u r b : Hdr) (up : List Int) (T : List (List Int)) (rt : List Int) (tb : Addr) (l : Hdr) (L : List Int) (m : Nat) : Prop :=
  ∀ (w : World) (p : Nat), (∀ w2, w.grownBy w2 (some tb.block) → Sys w2 u r b up T rt) → Tape w tb l L p → p + cN m ≤ 100000 →
    call Tryz.prog 15 [.pointer (some tb), sysv u r b, .int .i64 ((m : Int) + 1)] (.one sPr) w (fun (x : CPr) w' => ∃ (p' : Nat) (pf : PT (m + 1)), Tape w' tb l L p' ∧ p' ≤ p + cN m ∧ w.grownBy w' (some tb.block) ∧ PrB w' w.heap.size (m + 1) pf x)
theorem odd_den {v : Int} : encF (v, 2) = (encF (v, 1)).set 1 (.int .i64 2) := rfl

theorem rdE_bxN {P : Program} {E : Rel} {t : TypeId} {l : List Sh} {w : World} {a : Addr} {cs : List Value} {x : LT l} {k : LT l → Prop} (h : ∀ w', E w w' → Box w' a cs) (ht : aggOf P t cs.length = true) (hx : Lget l cs = some x) (hk : k x) :
    rdE P E (Instr.loadAt t (.pointer (some a))) (.agg l) w k := ⟨x, fun w' hw => by rw [run_loadAt, run_loadVarN ht (fun _ _ hj => (h w' hw).cell hj), Lget_spec hx]; rfl, hk⟩
theorem cN_pos : ∀ m, 20 ≤ cN m
  | 0 => Nat.le_refl _
  | m + 1 => by show 20 ≤ 2 * cN m + 20; omega
theorem agPrI : sizeIs Tryz.prog 35 5 = true := by kernel_rfl
theorem sl_eq {v : Hdr} {a : Option Addr} {n c : Nat} (e : Value.slice v.1 v.2.1 v.2.2 = .slice a n c) : v = (a, n, c) := by
  obtain ⟨x, y, z⟩ := v
  simp only [Value.slice.injEq] at e
  obtain ⟨rfl, rfl, rfl⟩ := e
  rfl

set_option maxHeartbeats 6400000 in
theorem proofCore (u r b : Hdr) (up : List Int) (T : List (List Int)) (rt : List Int) (hok : sysE up T rt = 0) (hul : 1 ≤ up.length) (hTl : T.length ≤ 10) (tb : Addr) (l : Hdr) (L : List Int) (m : Nat) (hm : m ≤ 10)
    (IH : ∀ m', m = m' + 1 → ProofC u r b up T rt tb l L m') : ProofC u r b up T rt tb l L m := by
  obtain ⟨hul2, _, hR, hA⟩ := sysE_ok hok
  intro w p HS ht hp
  have hc := cN_pos m
  have H0 := HS w (grown_refl _ _)
  have hrl := H0.r.len
  have hu := H0.u.int
  refine call_of (S15_calls (some tb) u.1 u.2.1 u.2.2 r.1 r.2.1 r.2.2 b.1 b.2.1 b.2.2 ((m : Int) + 1) w _ ?_)
  unfold S15
  have htb := ht.box.lt
  refine wr_box fun x1 w2 X1 h2 hx1 _ => ?_
  replace X1 : Box w2 x1 (sysc u r b) := X1
  refine wr_alloc (z := .agg zpc.toArray) (by kernel_rfl) fun x3 w4 X3 h4 hx3 _ => ?_
  replace X3 : Box w4 x3 zpc := X3
  have n13 : x1.block < x3.block := by have := X1.lt; omega
  have n1 : w.heap.size ≤ x1.block := by omega
  have n3 : w.heap.size ≤ x3.block := by omega
  replace X1 := X1.up h4
  have l3 := X3.lt
  have hb4 := h2.trans h4
  have s4 := hb4.size
  replace ht := ht.up hb4
  have g4 : w.grownBy w4 (some tb.block) := grown_of_bel hb4 _
  clear h2 h4
  -- the last lines
  have fin : ∀ (x : CPr) (w' : World) (p' : Nat) (pf : PT (m + 1)) (B : Nat), Box w' x3 zpc → w.grownBy w' (some tb.block) → Tape w' tb l L p' → p' ≤ p + cN m → PrB w' B (m + 1) pf x → x3.block < B →
      wu Tryz.prog (Instr.storeAt 35 (.pointer (some x3)) (prv x)) w' fun w2 => rd Tryz.prog (loadVar 35 x3) (.agg [.int .i64, .slice, .int .i64, .int .i64, .slice]) w2 fun y =>
        ∃ v : CPr, prv y = (RS.one sPr).val v ∧ ∃ (p' : Nat) (pf : PT (m + 1)), Tape w2 tb l L p' ∧ p' ≤ p + cN m ∧ w.grownBy w2 (some tb.block) ∧ PrB w2 w.heap.size (m + 1) pf v := by
    intro x w' p' pf B X hg ht hp' P hB
    refine wu_box X (by kernel_rfl) (Nat.le_refl 5) rfl fun w3 X hg3 _ => ?_
    exact rd_boxV (show Box w3 x3 (prc x) from X) (by kernel_rfl) rfl ⟨x, rfl, p', pf, ht.grown hg3 (by omega), hp', xg_put hg hg3 (fun k hk => .inl (by injection hk; omega)), (P.grown hg3 fun k hk => by injection hk; omega).mono (by omega)⟩
  refine join_mk (fun s w' => (s.1 = true ∨ 1 ≤ m) ∧ Box w' x1 (sysc u r b) ∧ Box w' x3 zpc ∧ w4.heap.size ≤ w'.heap.size ∧ w.grownBy w' (some tb.block) ∧ ∃ p', Tape w' tb l L p' ∧ p' ≤ p + 1) (fun K hK => ?_) ?_
  · refine br_dec (fun e => hK _ _ ⟨.inl rfl, X1, X3, Nat.le_refl _, g4, p, ht, by omega⟩) (fun e => ?_)
    refine call_mono (nextF 3 ht (by omega) ⟨by omega, by omega⟩) ?_
    rintro (x95 : Int) w96 ⟨_, ht', hg⟩
    refine hK _ _ ⟨.inr (by omega), X1.xg hg (by omega), X3.xg hg (by omega), hg.size, g4.trans hg, p + 1, ht', by omega⟩
  clear ht X1 X3 g4 hb4
  rintro ⟨deep, _⟩ w7 ⟨hd, X1, X3, s7, g7, p7, ht, hp7⟩ _
  dsimp only at hd ⊢
  refine br_mk (fun ed => ?_) (fun ed => ?_)
  · -- a leaf
    clear hd ed IH
    refine call_mono (nextF 2 ht (by omega) ⟨by omega, by omega⟩) ?_
    rintro (x8 : Int) w9 ⟨hx8, ht, hg⟩
    replace X1 := X1.xg hg (by omega); replace X3 := X3.xg hg (by omega)
    have g9 := g7.trans hg
    have s9 := hg.size
    clear hg g7
    refine z_i64 (by omega) ?_
    refine var_mk (z := .agg zpc.toArray) (by kernel_rfl) (by kernel_rfl) rfl rfl fun x11 w13 X11 hb hx11 => ?_
    replace X11 : Box w13 x11 [.int .i64 (1 + x8), .slice none 0 0, .int .i64 0, .int .i64 0, .slice none 0 0] := X11
    replace X1 := X1.up hb; replace X3 := X3.up hb; replace ht := ht.up hb
    have g13 := g9.trans (grown_of_bel hb _)
    have s13 := hb.size
    have l11 := X11.lt
    clear hb g9
    let J : Hdr → List (Int × Int) → World → Prop := fun mh M w' => w.grownBy w' (some tb.block) ∧ Box w' x1 (sysc u r b) ∧ Box w' x3 zpc ∧ w13.heap.size ≤ w'.heap.size ∧ Box w' x11 [.int .i64 (1 + x8), .slice mh.1 mh.2.1 mh.2.2, .int .i64 0, .int .i64 0, .slice none 0 0] ∧ OwnF w' w13.heap.size mh M ∧ ∀ y ∈ M, I64 y.1 ∧ I64 y.2
    refine loop_up T.length (fun i w' => ∃ mh M p', J mh M w' ∧ M.length = i ∧ (∀ y ∈ M, y.2 = 1) ∧ Tape w' tb l L p' ∧ p' ≤ p + 2 + i) ⟨(none, 0, 0), [], p7 + 1, ⟨g13, X1, X3, Nat.le_refl _, X11, Own.nil _ _ _ _, fun y hy => by cases hy⟩, rfl, fun y hy => (by cases hy), ht, by omega⟩ ?_
    clear X1 X3 X11 ht g13
    rintro i w16 hi ⟨mh, M, p', ⟨g16, X1, X3, s16, X11, O, hI⟩, hMl, hone, ht, hp'⟩ again hag _
    have hml : M.length = mh.2.1 := fr_len O.sl
    refine rd_box (by kernel_rfl) X1 (i := 1) rfl rfl ?_
    refine br_dec (fun e => ?_) (fun e => ?_)
    · dsimp only at e
      have hi' : i < T.length := by omega
      refine drw_mk fun w18 hb _ => ?_
      replace X1 := X1.up hb; replace X3 := X3.up hb; replace X11 := X11.up hb; replace ht := ht.up hb
      replace O : OwnF w18 w13.heap.size mh M := Own.kept O hb
      have g18 := g16.trans (grown_of_bel hb _)
      have s18 := hb.size
      clear hb g16
      refine flExC_mk (Xg tb.block) (fun _ _ _ => True) (fun D w' => ∃ q, Tape w' tb l L q ∧ q ≤ p' + (if D 3 = true then 1 else 0)) (fun i _ v w' => (i = 3 → ∃ x, v = .int .i64 x ∧ 0 ≤ x ∧ x < 5) ∧ (i = 6 → ∃ ad x, v = .slice (some ad) 1 1 ∧ (-2 ≤ x ∧ x ≤ 2) ∧ Sl w' (some ad) 1 1 2 (([(x, 1)] : List (Int × Int)).flatMap encF) ∧ w18.heap.size ≤ ad.block))
        (fun w => grown_refl w _) (fun _ _ _ a b => grown_trans a b) (fun i j ags v w w' _ hΦ hE _ => ⟨hΦ.1, fun e => by
          obtain ⟨ad, x, q1, q2, q3, q4⟩ := hΦ.2 e
          exact ⟨ad, x, q1, q2, q3.xg hE (fun ad' ha _ => by cases ha; omega), q4⟩⟩) ⟨p', ht, by simp⟩ ?_
      refine rdE_box (by kernel_rfl) (fun w' hE => X11.xg hE.1 (by omega)) (i := 1) rfl rfl ?_
      refine flcC_mk (fun D w' hD hE hS _ => ?_) (fun x29 => ?_)
      · obtain ⟨q, hq1, hq2⟩ := hS
        rw [hD] at hq2
        refine call_mono (nextF 5 hq1 (by simp at hq2; omega) ⟨by omega, by omega⟩) ?_
        rintro (x : Int) w'' ⟨hx, ht', hg⟩
        exact ⟨hg, trivial, ⟨q + 1, ht', by rw [setD_self]; simp at hq2 ⊢; omega⟩, ⟨fun _ => ⟨x, rfl, hx.1, hx.2⟩, fun e => by omega⟩⟩
      refine z_eq rfl ?_
      refine flcC_mk (fun D w' hD hE hS hf => ?_) (fun x36 => ?_)
      · obtain ⟨q, hq1, hq2⟩ := hS
        obtain ⟨x', hx', hx2⟩ := hf.1.1 rfl
        injection hx' with _ hx'
        rw [← hx'] at hx2
        rw [IntWalk.i64_in (x29 - 2) ⟨by omega, by omega⟩]
        refine wr_lit tyFr #[.int .i64 (x29 - 2), .int .i64 1] (fill_one 2 (.agg #[.int .i64 (x29 - 2), .int .i64 1]) _ rfl (by simp)) (by omega) (by omega) rfl (by unfold maxLen; omega) fun ad w'' O' hb hbl _ => ?_
        exact ⟨hb.xg _, trivial, ⟨q, hq1.up hb, by rw [setD_ne (by decide)]; exact hq2⟩, ⟨fun e => by omega, fun _ => ⟨ad, x29 - 2, rfl, ⟨by omega, by omega⟩, (O' w'.heap.size (Nat.le_refl _)).sl, by have := hE.size; omega⟩⟩⟩
      refine flendC_mk fun w37 hE hS hfa => ?_
      obtain ⟨q, hq1, hq2⟩ := hS
      obtain ⟨ad, xv, ev, hxv, S, hS11⟩ := hfa.1.2 rfl
      have hq3 : q ≤ p' + 1 := hq2
      rw [sl_eq ev]
      replace O : OwnF w37 w13.heap.size mh M := Own.xg O hE (by omega)
      replace X1 := X1.xg hE (by omega); replace X3 := X3.xg hE (by omega); replace X11 := X11.xg hE (by omega)
      have g37 := g18.trans hE
      have s37 := hE.size
      refine wr_app tyFr O S (by omega) rfl (by omega) rfl (by omega) (by unfold maxLen; omega) fun a' c' w40 O40 hg40 _ _ => ?_
      have ho : ∀ k, blk mh.1 = some k → w13.heap.size ≤ k := fun k hk => (O.lt k hk).1
      replace X1 := X1.grown hg40 (fun e => by have := ho _ e.symm; omega)
      replace X3 := X3.grown hg40 (fun e => by have := ho _ e.symm; omega)
      replace X11 := X11.grown hg40 (fun e => by have := ho _ e.symm; omega)
      have htt : Tape w40 tb l L q := ⟨hq1.box.grown hg40 (fun e => by have := ho _ e.symm; omega), hq1.sl.grown hg40 (fun ad ha hx e => by have := hq1.old ad ha (by rintro rfl; exact hx rfl); have := ho _ e.symm; omega), hq1.old, hq1.i64⟩
      have g40 := xg_put g37 hg40 (fun k hk => .inl (by have := ho k hk; omega))
      have s40 := hg40.size
      refine wu_boxi X11 (by kernel_rfl) (by simp) rfl fun w41 X11 hg41 _ => ?_
      refine z_i64 (by omega) ?_
      refine hag _ hi' ⟨(a', mh.2.1 + 1, c'), M ++ [(xv, 1)], q, ⟨xg_put g40 hg41 (fun k hk => .inl (by injection hk; omega)), X1.xg hg41 (by omega), X3.xg hg41 (by omega), by have := hg41.size; omega, X11, ?_, ?_⟩, by simp [hMl], ?_, htt.grown hg41 (by omega), by omega⟩
      · have : OwnF w40 w13.heap.size (a', mh.2.1 + 1, c') (M ++ [(xv, 1)]) := by
          show Own w40 _ _ 2 a' (mh.2.1 + 1) c' ((M ++ [(xv, 1)]).flatMap encF)
          rw [List.flatMap_append]; exact O40
        exact Own.xg this hg41 (by omega)
      · intro y hy
        rcases List.mem_append.1 hy with hy | hy
        · exact hI y hy
        · simp at hy; subst hy; exact ⟨⟨by dsimp only; omega, by dsimp only; omega⟩, i64_1⟩
      · intro y hy
        rcases List.mem_append.1 hy with hy | hy
        · exact hone y hy
        · simp at hy; subst hy; rfl
    · dsimp only at e
      have hi' : i = T.length := by omega
      have hc2 := cN_pos m
      refine join_mk (fun _ w' => ∃ M, J mh M w' ∧ ∃ p', Tape w' tb l L p' ∧ p' ≤ p + cN m) (fun K hK => ?_) ?_
      · have J0 : J mh M w16 := ⟨g16, X1, X3, s16, X11, O, hI⟩
        have T0 : ∃ p', Tape w16 tb l L p' ∧ p' ≤ p + cN m := ⟨p', ht, by omega⟩
        refine rd_box (by kernel_rfl) X11 (i := 1) rfl rfl ?_
        refine br_dec (fun e2 => ?_) (fun _ => hK _ _ ⟨M, J0, T0⟩)
        dsimp only at e2
        refine rd_box0 (by kernel_rfl) X11 rfl rfl ?_
        refine br_eq (fun _ => ?_) (fun _ => hK _ _ ⟨M, J0, T0⟩)
        refine rd_box (by kernel_rfl) X11 (i := 1) rfl rfl ?_
        obtain ⟨⟨v, d⟩, hv⟩ : ∃ y, M[0]? = some y := ⟨_, List.getElem?_eq_getElem (by omega)⟩
        have hd : d = 1 := hone _ (mem_at hv)
        subst hd
        have hvI := (hI _ (mem_at hv)).1
        refine at_fst O.sl (j := 0) rfl hv ?_
        refine rdp_rem (by decide) ?_
        refine br_ne (fun _ => ?_) (fun _ => hK _ _ ⟨M, J0, T0⟩)
        refine rd_box (by kernel_rfl) X11 (i := 1) rfl rfl ?_
        refine set_fld tyFr (by kernel_rfl) encF_len O (j := 0) rfl hv (odd_den (v := v)) (by omega) rfl fun w57 O' hg _ => ?_
        have ho : ∀ k, blk mh.1 = some k → w13.heap.size ≤ k := fun k hk => (O.lt k hk).1
        refine hK _ _ ⟨M.set 0 (v, 2), ⟨xg_put g16 hg (fun k hk => .inl (by have := ho k hk; omega)), X1.grown hg (fun e => by have := ho _ e.symm; omega), X3.grown hg (fun e => by have := ho _ e.symm; omega), by have := hg.size; omega, X11.grown hg (fun e => by have := ho _ e.symm; omega), O', fun y hy => ?_⟩, p', ⟨ht.box.grown hg (fun e => by have := ho _ e.symm; omega), ht.sl.grown hg (fun ad ha hx e => by have := ht.old ad ha (by rintro rfl; exact hx rfl); have := ho _ e.symm; omega), ht.old, ht.i64⟩, by omega⟩
        rcases List.mem_or_eq_of_mem_set hy with hy | hy
        · exact hI y hy
        · subst hy; exact ⟨hvI, ⟨by dsimp only; omega, by dsimp only; omega⟩⟩
      · rintro _ w45 ⟨M', ⟨g45, X1, X3, s45, X11, O, hI⟩, p2, ht, hp2⟩ _
        refine rd_boxN X11 (by kernel_rfl) rfl ?_
        refine fin (lfv (1 + x8) mh) w45 p2 (⟨1 + x8, M', 0, 0, []⟩ : PN (PT m)) w13.heap.size X3 g45 ht hp2 (leafB m (1 + x8) ⟨by omega, by omega⟩ O.sl hI fun ad ha => (O.lt ad.block (by rw [ha]; rfl)).1) (by omega)
  · -- a split
    have hm1 : 1 ≤ m := by rcases hd with q | q; rw [ed] at q; cases q; exact q
    obtain ⟨m', rfl⟩ : ∃ m', m = m' + 1 := ⟨m - 1, by omega⟩
    have IH := IH m' rfl
    have hcm : cN (m' + 1) = 2 * cN m' + 20 := rfl
    clear hd ed
    refine rd_box0 (by kernel_rfl) X1 rfl rfl ?_
    refine call_mono (nextF ((u.2.1 : Nat) : Int) ht (by omega) ⟨by omega, by omega⟩) ?_
    rintro (x59 : Int) w60 ⟨hx59, ht, hg⟩
    replace X1 := X1.xg hg (by omega); replace X3 := X3.xg hg (by omega)
    have g60 := g7.trans hg
    have s60 := hg.size
    clear hg g7
    obtain ⟨n, rfl⟩ : ∃ n : Nat, x59 = (n : Int) := ⟨x59.toNat, by omega⟩
    refine rd_box0 (by kernel_rfl) X1 rfl rfl ?_
    refine at_int tyI64 (by kernel_rfl) (HS _ g60).u (j := n) rfl (by omega) fun y hy => ?_
    have hyR := hR.1 y (mem_at hy)
    refine z_i64 (by omega) ?_
    refine call_mono (nextF (y + 2) ht (by omega) ⟨by omega, by omega⟩) ?_
    rintro (x65 : Int) w66 ⟨hx65, ht, hg⟩
    replace X1 := X1.xg hg (by omega); replace X3 := X3.xg hg (by omega)
    have g66 := g60.trans hg
    have s66 := hg.size
    clear hg g60
    refine var_mk (z := .agg zpc.toArray) (by kernel_rfl) (by kernel_rfl) rfl rfl fun x67 w69 X67 hb hx67 => ?_
    replace X67 : Box w69 x67 [.int .i64 3, .slice none 0 0, .int .i64 (n : Int), .int .i64 x65, .slice none 0 0] := X67
    replace X1 := X1.up hb; replace X3 := X3.up hb; replace ht := ht.up hb
    have g69 := g66.trans (grown_of_bel hb _)
    have s69 := hb.size
    clear hb g66
    refine rd_boxN X1 (by kernel_rfl) rfl ?_
    refine z_eq (m := (m' : Int) + 1) (by rw [IntWalk.i64_in _ ⟨by omega, by omega⟩]; omega) ?_
    have l67 := X67.lt
    refine call_mono (IH w69 _ (fun w2 hg => HS w2 (g69.trans hg)) ht (by omega)) ?_
    rintro (x72 : CPr) w73 ⟨p73, pa, ht, hp73, hg, PA⟩
    replace X1 := X1.xg hg (by omega); replace X3 := X3.xg hg (by omega); replace X67 := X67.xg hg (by omega)
    have g73 := g69.trans hg
    have s73 := hg.size
    clear hg
    refine var_mk (z := .agg zpc.toArray) (by kernel_rfl) (by kernel_rfl) rfl rfl fun x74 w76 X74 hb hx74 => ?_
    replace X74 : Box w76 x74 (prc x72) := X74
    replace X1 := X1.up hb; replace X3 := X3.up hb; replace X67 := X67.up hb; replace ht := ht.up hb; replace PA := PA.up hb
    have g76 := g73.trans (grown_of_bel hb _)
    have s76 := hb.size
    clear hb g73
    refine drw_mk fun w77 hb _ => ?_
    replace X1 := X1.up hb; replace X3 := X3.up hb; replace X67 := X67.up hb; replace X74 := X74.up hb; replace ht := ht.up hb; replace PA := PA.up hb
    have g77 := g76.trans (grown_of_bel hb _)
    have s77 := hb.size
    clear hb g76
    refine flExC_mk (Xg tb.block) (fun _ _ _ => True) (fun D w' => ∃ q, Tape w' tb l L q ∧ q ≤ p73 + (if D 5 = true then cN m' else 0)) (fun i _ v w' => i = 5 → ∃ x : CPr, v = prv x ∧ ∃ pf : PT (m' + 1), PrB w' w77.heap.size (m' + 1) pf x)
      (fun w => grown_refl w _) (fun _ _ _ a b => grown_trans a b) (fun i j ags v w w' _ hΦ hE _ e => by
        obtain ⟨x, q1, pf, q2⟩ := hΦ e
        exact ⟨x, q1, pf, q2.grown hE (fun k hk => by injection hk; omega)⟩) ⟨p73, ht, by simp⟩ ?_
    refine rdE_bxN (fun w' hE => X74.xg hE.1 (by omega)) (by kernel_rfl) rfl ?_
    refine rdE_bxN (fun w' hE => X1.xg hE.1 (by omega)) (by kernel_rfl) rfl ?_
    refine z_eq (m := (m' : Int) + 1) (by rw [IntWalk.i64_in _ ⟨by omega, by omega⟩]; omega) ?_
    refine flcC_mk (fun D w' hD hE hS _ => ?_) (fun x90 => ?_)
    · obtain ⟨q, hq1, hq2⟩ := hS
      rw [hD] at hq2
      simp at hq2
      refine call_mono (IH w' q (fun w2 hg => HS w2 ((g77.trans hE).trans hg)) hq1 (by omega)) ?_
      rintro (x : CPr) w'' ⟨p2, pf, ht', hp2, hg, P⟩
      exact ⟨hg, trivial, ⟨p2, ht', by rw [setD_self]; simp; omega⟩, fun _ => ⟨x, rfl, pf, P.mono hE.size⟩⟩
    refine flendC_mk fun w91 hE hS hfa => ?_
    obtain ⟨q, hq1, hq2⟩ := hS
    have hq3 : q ≤ p73 + cN m' := hq2
    obtain ⟨xb, exb, pb, PB⟩ := hfa.1 rfl
    have exb' : x90 = xb := by
      obtain ⟨a1, ⟨a2, a3, a4⟩, a5, a6, ⟨a7, a8, a9⟩, _⟩ := x90
      obtain ⟨b1, ⟨b2, b3, b4⟩, b5, b6, ⟨b7, b8, b9⟩, _⟩ := xb
      simp only [prv, Value.agg.injEq, Array.mk.injEq, List.cons.injEq, Value.int.injEq, Value.slice.injEq, true_and, and_true] at exb
      obtain ⟨rfl, ⟨rfl, rfl, rfl⟩, rfl, rfl, rfl, rfl, rfl⟩ := exb
      rfl
    subst exb'
    replace X1 := X1.xg hE (by omega); replace X3 := X3.xg hE (by omega); replace X67 := X67.xg hE (by omega)
    replace PA := PA.grown hE (fun k hk => by injection hk; omega)
    have g91 := g77.trans hE
    have s91 := hE.size
    refine wr_lit tyPrs (prc x72 ++ prc x90).toArray (fill_pr2 _ _) (by omega) (by omega) rfl (by unfold maxLen; omega) fun ad w94 O hb had _ => ?_
    have SO := (O w91.heap.size (Nat.le_refl _)).sl
    replace X3 := X3.up hb; replace X67 := X67.up hb; replace PA := PA.up hb; replace PB := PB.up hb
    have htt := hq1.up hb
    have g94 := g91.trans (grown_of_bel hb _)
    have s94 := hb.size
    refine wu_boxi X67 (by kernel_rfl) (by simp) rfl fun w95 X67 hg95 _ => ?_
    replace X67 : Box w95 x67 [.int .i64 3, .slice none 0 0, .int .i64 (n : Int), .int .i64 x65, .slice (some ad) 2 2] := X67
    replace X3 := X3.xg hg95 (by omega)
    replace PA := PA.grown hg95 (fun k hk => by injection hk; omega)
    replace PB := PB.grown hg95 (fun k hk => by injection hk; omega)
    replace SO := Sl.xg SO hg95 (fun a ha _ => by cases ha; omega)
    replace htt := htt.grown hg95 (by omega)
    have g95 := xg_put g94 hg95 (fun k hk => .inl (by injection hk; omega))
    refine rd_boxN X67 (by kernel_rfl) rfl ?_
    refine fin (3, (none, 0, 0), n, x65, (some ad, 2, 2), ()) w95 q (⟨3, [], (n : Int), x65, [pa, pb]⟩ : PN (PT (m' + 1))) w69.heap.size X3 g95 htt (by omega) ?_ (by omega)
    refine ⟨⟨rfl, ⟨by show -9223372036854775808 ≤ (3 : Int); omega, by show (3 : Int) ≤ 9223372036854775807; omega⟩⟩, ⟨Sl.nil _ _, fun y hy => (by cases hy), fun ad ha => (by cases ha)⟩, ⟨rfl, ⟨by show _ ≤ (n : Int); omega, by show (n : Int) ≤ _; omega⟩⟩, ⟨rfl, ⟨by show _ ≤ x65; omega, by show x65 ≤ _; omega⟩⟩, by show 2 ≤ 3; omega, fun a ha => by cases ha; omega, [x72, x90], by simpa using SO, rfl, fun i y kk hy hkk => ?_⟩
    match i, hy, hkk with
    | 0, hy, hkk =>
      have e1 : x72 = y := by simpa using hy
      have e2 : pa = kk := by simpa using hkk
      rw [← e1, ← e2]; exact PA
    | 1, hy, hkk =>
      have e1 : x90 = y := by simpa using hy
      have e2 : pb = kk := by simpa using hkk
      rw [← e1, ← e2]; exact PB.mono (by omega)
    | i + 2, hy, _ => simp at hy
theorem proofF (u r b : Hdr) (up : List Int) (T : List (List Int)) (rt : List Int) (hok : sysE up T rt = 0) (hul : 1 ≤ up.length) (hTl : T.length ≤ 10) (tb : Addr) (l : Hdr) (L : List Int) : ∀ m, m ≤ 10 → ProofC u r b up T rt tb l L m
  | 0, _ => proofCore u r b up T rt hok hul hTl tb l L 0 (by omega) fun m' h => by omega
  | m + 1, hm => proofCore u r b up T rt hok hul hTl tb l L (m + 1) hm fun m' h => by
    obtain rfl : m = m' := by omega
    exact proofF u r b up T rt hok hul hTl tb l L m (by omega)
end Go.Proofs.YtajpdnphamomjaaGreat

/- The walk of IntegralSound. -/

namespace Go.Proofs.YtajpdnphamomjaaGreat
open Go.RowKit Go.Q Go.Q.Num Go.V

theorem made_ok {up : List Int} {T : List (List Int)} {rt : List Int} {v r m : Nat} (h : MadeS up T rt v r m) (hv : v ≤ 20) (hr : r ≤ 20) (hm : m ≤ 10000) : sysE up T rt = 0 := by
  have h1 := h.n2
  have h2 := h.t
  refine sysE_0 (by omega) (by omega) ⟨fun x hx => ?_, fun x hx => ?_, fun q hq x hx => ?_⟩ ⟨h.r, fun q hq => (h.row q hq).1⟩
  · have := h.up x hx; omega
  · have := h.rt x hx; omega
  · have := (h.row q hq).2 x hx; omega
theorem pts_le {up : List Int} {M : Nat} (h : ∀ k, 0 ≤ up.getD k 0 ∧ up.getD k 0 ≤ (M : Int)) : ∀ n, ptsN (zs up.length) up n ≤ (((M + 1) ^ n : Nat) : Int)
  | 0 => by show (1 : Int) ≤ ((1 : Nat) : Int); omega
  | n + 1 => by
    have ih := pts_le h n
    have hn := h n
    have hp := pts_pos (lo := zs up.length) (hi := up) (fun k => by rw [zs_getD]; exact (h k).1) n
    rw [pts_succ, Nat.pow_succ, Int.natCast_mul]
    exact Int.mul_le_mul ih (by omega) (by omega) (Int.natCast_nonneg _)
theorem same_f {a b : Bool} (h : a = b) : (!(a == b)) = false := by subst h; cases a <;> rfl
theorem getD_all {l : List Int} {P : Int → Prop} (h : ∀ x ∈ l, P x) (h0 : P 0) (k : Nat) : P (l.getD k 0) := by
  rw [List.getD_eq_getElem?_getD]
  cases hk : l[k]? with
  | none => exact h0
  | some x => exact h x (mem_at hk)

set_option maxHeartbeats 3200000 in
theorem sound (l : Hdr) (L : List Int) (w : World) (HL : Sl w l.1 l.2.1 l.2.2 1 (ints .i64 L)) (hL : ∀ x ∈ L, I64 x) :
    Calls Tryz.prog 6 #[.slice l.1 l.2.1 l.2.2] w (fun e w' => e = .returned (.bool true) ∧ Below w.heap.size w w') := by
  refine Calls.mono (S6_calls l.1 l.2.1 l.2.2 w (fun v w' => v = .bool true ∧ bel w w') ?_) (by rintro e w' ⟨v, rfl, rfl, hb⟩; exact ⟨rfl, hb⟩)
  unfold S6
  refine wr_box fun x1 w2 TB h2 hx1 _ => ?_
  have ht := tape_new HL hL TB h2 hx1
  refine call_mono (systemF 3 3 6 ht (by omega) (by omega) (by omega) (by omega) (by omega)) ?_
  rintro ((x3 : Hdr × Hdr × Hdr × Unit)) w4 ⟨up, T, rt, p, MS, HS, ht, hp, hg4⟩
  obtain ⟨u, r, b, _⟩ := x3
  dsimp only at HS
  have hok := made_ok MS (by omega) (by omega) (by omega)
  obtain ⟨hul2, _, hR, hA⟩ := sysE_ok hok
  have n2 := MS.n2
  have few : ptsN (zs up.length) up up.length ≤ 500 := by
    have h1 := pts_le (up := up) (M := 6) (fun k => getD_all (P := fun x => 0 ≤ x ∧ x ≤ ((6 : Nat) : Int)) MS.up (by omega) k) up.length
    have h2 : 7 ^ up.length ≤ 7 ^ 3 := Nat.pow_le_pow_right (by omega) n2
    have h3 : (7 : Nat) ^ 3 = 343 := by decide
    have h4 : (6 + 1 : Nat) = 7 := rfl
    rw [h4] at h1
    omega
  have l1 := TB.lt
  have hs4 : w.heap.size < w4.heap.size := by have := hg4.size; omega
  refine var_mk (v := sysv u r b) (z := .agg #[.slice none 0 0, .slice none 0 0, .slice none 0 0]) (by kernel_rfl) (by kernel_rfl) rfl rfl fun x5 w7 X h7 hx5 => ?_
  replace X : Box w7 x5 (sysc u r b) := X
  have hs7 := h7.size
  have x15 : x1.block < x5.block := by omega
  have fin : ∀ {w' : World}, w7.grownBy w' (some x1.block) → bel w w' := fun hg => ((h2.grownAt hg4 (by omega)).trans h7).grownAt hg (by omega)
  have sysAt : ∀ {w' : World}, w7.grownBy w' (some x1.block) → Sys w' u r b up T rt := fun hg => HS _ ((grown_of_bel h7 _).trans hg)
  replace ht := ht.up h7
  refine loop_up 4 (fun i w' => w7.grownBy w' (some x1.block) ∧ ∃ p', Tape w' x1 l L p' ∧ p' ≤ p + 300 * i) ⟨grown_refl _ _, p, ht, by omega⟩ ?_
  clear ht
  rintro i w10 hi ⟨hg, p1, ht, hp1⟩ again hag _
  refine br_dec (fun e => ?_) (fun e => ?_)
  · dsimp only at e
    have hi' : i < 4 := by omega
    refine join_mk (fun _ w' => w7.grownBy w' (some x1.block) ∧ ∃ p', Tape w' x1 l L p' ∧ p' ≤ p + 300 * (i + 1)) (fun K hK => ?_) ?_
    · refine rd_boxN (X.xg hg (by omega)) (by kernel_rfl) rfl ?_
      refine call_mono (proofF u r b up T rt hok MS.n1 (by have := MS.t; omega) x1 l L 3 (by omega) w10 p1 (fun w2 hg2 => sysAt (hg.trans hg2)) ht (by have : cN 3 = 300 := rfl; omega)) ?_
      rintro (x16 : CPr) w17 ⟨p2, pf, ht, hp2, hg2, P⟩
      have hc3 : cN 3 = 300 := rfl
      replace hg := hg.trans hg2
      refine var_mk (z := .agg zpc.toArray) (by kernel_rfl) (by kernel_rfl) rfl rfl fun x18 w20 X18 hb _ => ?_
      replace X18 : Box w20 x18 (prc x16) := X18
      replace ht := ht.up hb; replace P := P.up hb; replace hg := hg.trans (grown_of_bel hb _)
      refine rd_boxN (X.xg hg (by omega)) (by kernel_rfl) rfl ?_
      refine rd_boxN X18 (by kernel_rfl) rfl ?_
      refine call_mono (chkPL u r b up T rt (by omega) 4 (by omega) pf x16 w20 P.at (sysAt hg)) ?_
      rintro x23 w24 ⟨h23, hb⟩
      replace ht := ht.up hb; replace P := P.up hb; replace X18 := X18.up hb; replace hg := hg.trans (grown_of_bel hb _)
      refine rd_boxN (X.xg hg (by omega)) (by kernel_rfl) rfl ?_
      refine rd_boxN X18 (by kernel_rfl) rfl ?_
      refine call_mono (chkP12 u r b up T rt (by omega) 4 (by omega) pf x16 w24 P.at (sysAt hg)) ?_
      rintro x27 w28 ⟨h27, hb⟩
      replace ht := ht.up hb; replace hg := hg.trans (grown_of_bel hb _)
      have e27 : x23 = x27 := iff_eq h23 h27
      refine br_f (same_f e27) ?_
      refine br_mk (fun e3 => ?_) (fun _ => hK _ _ ⟨hg, p2, ht, by omega⟩)
      refine rd_boxN (X.xg hg (by omega)) (by kernel_rfl) rfl ?_
      refine call_mono (solvableF u r b up T rt w28 (sysAt hg) hok) ?_
      rintro x30 w31 ⟨h30, hb⟩
      replace ht := ht.up hb; replace hg := hg.trans (grown_of_bel hb _)
      refine br_f ?_ (hK _ _ ⟨hg, p2, ht, by omega⟩)
      cases hx : x30 with
      | false => rfl
      | true =>
        obtain ⟨xs, q⟩ := h30.1 hx
        exact absurd q (right_sound 4 pf _ _ (h23.1 e3).2.2.2 (by simp) rfl)
    · rintro _ w13 ⟨hg, p2, ht, hp2⟩ _
      refine z_i64 (by omega) ?_
      exact hag _ hi' ⟨hg, p2, ht, hp2⟩
  · refine rd_boxN (X.xg hg (by omega)) (by kernel_rfl) rfl ?_
    refine call_mono (solveFew u r b up T rt w10 (sysAt hg) hok few) ?_
    rintro (x33 : HX) w34 ⟨R, hb⟩
    replace hg := hg.trans (grown_of_bel hb _)
    refine var_mk (z := .agg zpc.toArray) (by kernel_rfl) (by kernel_rfl) rfl rfl fun x35 w37 X35 hb _ => ?_
    replace X35 : Box w37 x35 (prc x33.2.1) := X35
    replace R := R.up hb; replace hg := hg.trans (grown_of_bel hb _)
    rcases R with ⟨q0, xs, S, P⟩ | ⟨q0, _, pf, P, ok⟩
    · obtain ⟨sol, sl, si⟩ := pt_sol hok P
      refine br_eq (fun _ => ?_) (fun q => absurd q0 q)
      refine rd_boxN (X.xg hg (by omega)) (by kernel_rfl) rfl ?_
      refine call_mono (chk12 u r b x33.1 up T rt xs w37 (sysAt hg) S si (by omega)) ?_
      rintro x39 w40 ⟨hx, hb⟩
      exact br_t (hx.2 sol) ⟨rfl, fin (hg.trans (grown_of_bel hb _))⟩
    · refine br_eq (fun q => absurd (q.symm.trans q0) (by decide)) (fun _ => ?_)
      refine br_eq (fun _ => ?_) (fun q => absurd q0 q)
      refine rd_boxN (X.xg hg (by omega)) (by kernel_rfl) rfl ?_
      refine rd_boxN X35 (by kernel_rfl) rfl ?_
      refine call_mono (chkP12 u r b up T rt (by omega) 18 (by omega) pf x33.2.1 w37 P (sysAt hg)) ?_
      rintro x43 w44 ⟨hx, hb⟩
      exact ⟨by rw [hx.2 ok], fin (hg.trans (grown_of_bel hb _))⟩
end Go.Proofs.YtajpdnphamomjaaGreat
