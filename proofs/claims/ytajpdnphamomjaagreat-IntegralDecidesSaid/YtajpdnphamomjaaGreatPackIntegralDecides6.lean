import Derived.Test.YtajpdnphamomjaaGreatOpen
import Derived.KernelRfl
import Derived.Test.YtajpdnphamomjaaGreatPackIntegralDecides5

/- A node of a search by relaxations: the walk. -/


namespace Go.Proofs.YtajpdnphamomjaaGreat
open Go.RowKit Go.Q Go.Q.Num Go.V

theorem floorFc (n d : Int) (w : World) (a : I64 n ∧ I64 d) : call Tryz.prog 44 [fracv n d] (.one (.one (.int .i64))) w (fun x w' => x = floorq n d ∧ bel w w') := callI (floorF n d w a.1.1 a.1.2 a.2.1 a.2.2)
theorem floor_split {q : Rat} (hf : Fits q) (hd : q.den ≠ 1) {a b : Int} (h1 : (a : Rat) ≤ q) (h2 : q ≤ (b : Rat)) : a ≤ floorq q.num q.den ∧ floorq q.num q.den < b := by
  have e : floorq q.num q.den = q.num / ((q.den : Nat) : Int) := by unfold floorq; rw [if_pos (frac_fits hf)]
  have hp : (0 : Int) < ((q.den : Nat) : Int) := by have := q.den_pos; omega
  have e1 : q = mkRat q.num q.den := (Rat.mkRat_self q).symm
  have f1 : a * ((q.den : Nat) : Int) ≤ q.num := by
    have := h1
    rw [Rat.le_iff] at this
    simpa using this
  have f2 : q.num ≤ b * ((q.den : Nat) : Int) := by
    have := h2
    rw [Rat.le_iff] at this
    simpa using this
  have hne : q.num ≠ b * ((q.den : Nat) : Int) := by
    intro h
    have hc := q.reduced
    have hdv : q.den ∣ q.num.natAbs := by rw [h, Int.natAbs_mul]; exact ⟨b.natAbs, by simp [Nat.mul_comm]⟩
    have h3 : Nat.gcd q.num.natAbs q.den = q.den := Nat.gcd_eq_right hdv
    have h4 : Nat.gcd q.num.natAbs q.den = 1 := hc
    omega
  rw [e]
  exact ⟨(Int.le_ediv_iff_mul_le hp).2 f1, (Int.ediv_lt_iff_lt_mul hp).2 (by omega)⟩

def NRes (up : List Int) (T : List (List Int)) (rt lo hi : List Int) (u r b : Hdr) (xa : Addr) (left : Int) (B n : Nat) (x : HX) (w' : World) : Prop :=
  ∃ left' : Int, Box w' xa (srcC u r b left') ∧ left' < left ∧
    ((x.2.2.1 = 0 ∧ ∃ xs, Sl w' x.1.1 x.1.2.1 x.1.2.2 1 (ints .i64 xs) ∧ Hi B x.1 ∧ Pt T rt lo hi xs) ∨
     (x.2.2.1 = 12 ∧ x.1 = (none, 0, 0) ∧ 0 ≤ left' ∧ ∃ p : PT n, PrB w' B n p x.2.1 ∧ rightP up T rt n p lo hi ∧ (szP n p : Int) ≤ left - left') ∨
     (x.2.2.1 = 8 ∧ x.1 = (none, 0, 0)))
def NodeC (u r b : Hdr) (up : List Int) (T : List (List Int)) (rt : List Int) (xa : Addr) (n : Nat) : Prop :=
  ∀ (lo hi : Hdr) (ls hs : List Int) (left deep : Int) (w : World), (∀ w2, Xg xa.block w w2 → Sys w2 u r b up T rt) → Box w xa (srcC u r b left) → 0 ≤ left → left ≤ 300 → (∀ w2, Xg xa.block w w2 → Sl w2 lo.1 lo.2.1 lo.2.2 1 (ints .i64 ls)) → (∀ w2, Xg xa.block w w2 → Sl w2 hi.1 hi.2.1 hi.2.2 1 (ints .i64 hs)) →
    ls.length = up.length → hs.length = up.length → OkBox ls hs → (∀ k, 0 ≤ ls.getD k 0 ∧ hs.getD k 0 ≤ 1000000000) → deep + (n : Int) = 201 → 1 ≤ deep →
    call Tryz.prog 22 [.pointer (some xa), .slice lo.1 lo.2.1 lo.2.2, .slice hi.1 hi.2.1 hi.2.2, .int .i64 deep] rHX w (fun (x : HX) w' => NRes up T rt ls hs u r b xa left w.heap.size n x w' ∧ Xg xa.block w w')

theorem innerF {u r b : Hdr} {up : List Int} {T : List (List Int)} {rt : List Int} {xa : Addr} {n : Nat} (IH : NodeC u r b up T rt xa n)
    (lo hi : Hdr) (ls hs : List Int) (left deep : Int) (c0 c1 : Addr) (w : World) (C0 : Box w c0 [.pointer (some xa)]) (C1 : Box w c1 [.int .i64 deep]) (HS : ∀ w2, Xg xa.block w w2 → Sys w2 u r b up T rt) (XA : Box w xa (srcC u r b left)) (hl0 : 0 ≤ left) (hl3 : left ≤ 300)
    (L : ∀ w2, Xg xa.block w w2 → Sl w2 lo.1 lo.2.1 lo.2.2 1 (ints .i64 ls)) (U : ∀ w2, Xg xa.block w w2 → Sl w2 hi.1 hi.2.1 hi.2.2 1 (ints .i64 hs)) (hl : ls.length = up.length) (hh : hs.length = up.length) (ob : OkBox ls hs) (win : ∀ k, 0 ≤ ls.getD k 0 ∧ hs.getD k 0 ≤ 1000000000) (hd : deep + 1 + (n : Int) = 201) (hd1 : 1 ≤ deep) :
    call Tryz.prog 45 [.slice lo.1 lo.2.1 lo.2.2, .slice hi.1 hi.2.1 hi.2.2, .pointer (some c0), .pointer (some c1)] rHX w (fun (x : HX) w' => NRes up T rt ls hs u r b xa left w.heap.size n x w' ∧ Xg xa.block w w') := by
  refine call_of (S45_calls lo.1 lo.2.1 lo.2.2 hi.1 hi.2.1 hi.2.2 c0 c1 w _ ?_)
  unfold S45
  have lx := XA.lt
  refine wr_alloc (z := .agg zpc.toArray) (by kernel_rfl) fun x1 w2 X1 h2 hx1 _ => ?_
  refine rd_box0 (by kernel_rfl) (C0.up h2) rfl rfl ?_
  refine rd_box0 (by kernel_rfl) (C1.up h2) rfl rfl ?_
  refine z_i64 (by omega) ?_
  refine call_mono (IH lo hi ls hs left (deep + 1) w2 (fun w3 h => HS w3 ((h2.xg _).trans h)) (XA.up h2) hl0 hl3 (fun w3 h => L w3 ((h2.xg _).trans h)) (fun w3 h => U w3 ((h2.xg _).trans h)) hl hh ob win hd (by omega)) ?_
  rintro (x : HX) w7 ⟨R, g⟩
  have s2 := h2.size
  have l1 := X1.lt
  replace X1 : Box w7 x1 zpc := X1.xg g (by omega)
  refine wu_box X1 (by kernel_rfl) (Nat.le_refl 5) rfl fun w8 X1 hg _ => ?_
  refine rd_boxV (show Box w8 x1 (prc x.2.1) from X1) (by kernel_rfl) rfl ⟨x, rfl, ?_, xg_put ((h2.xg _).trans g) hg fun k hk => by injection hk; omega⟩
  obtain ⟨left', Y, hle, q⟩ := R
  refine ⟨left', Y.xg hg (by omega), hle, ?_⟩
  rcases q with ⟨e1, xs, q1, q2, q3⟩ | ⟨e1, e2, e3, p, q1, q2, q3⟩ | q
  · exact .inl ⟨e1, xs, q1.grown hg fun ad ha _ e => by (have := q2 ad ha); injection e; omega, fun ad ha => by have := q2 ad ha; omega, q3⟩
  · exact .inr (.inl ⟨e1, e2, e3, p, (q1.grown hg fun j hj => by injection hj; omega).mono (by omega), q2, q3⟩)
  · exact .inr (.inr q)

set_option maxHeartbeats 1600000 in
theorem splitN (u r b : Hdr) (up : List Int) (T : List (List Int)) (rt : List Int) (hok : sysE up T rt = 0) (xa : Addr) (n : Nat) (IH : NodeC u r b up T rt xa n)
    (lo hi : Hdr) (ls hs : List Int) (left deep : Int) (c0 c1 : Addr) (w : World) (C0 : Box w c0 [.pointer (some xa)]) (C1 : Box w c1 [.int .i64 deep]) (n0 : c0.block ≠ xa.block) (n1 : c1.block ≠ xa.block) (HS : ∀ w2, Xg xa.block w w2 → Sys w2 u r b up T rt) (XA : Box w xa (srcC u r b left)) (hl0 : 0 ≤ left) (hl3 : left ≤ 299)
    (L : ∀ w2, Xg xa.block w w2 → Sl w2 lo.1 lo.2.1 lo.2.2 1 (ints .i64 ls)) (U : ∀ w2, Xg xa.block w w2 → Sl w2 hi.1 hi.2.1 hi.2.2 1 (ints .i64 hs)) (hl : ls.length = up.length) (hh : hs.length = up.length) (ob : OkBox ls hs) (win : ∀ k, 0 ≤ ls.getD k 0 ∧ hs.getD k 0 ≤ 1000000000) (hd : deep + 1 + (n : Int) = 201) (hd1 : 1 ≤ deep)
    (k : Nat) (m : Int) (hk : k < up.length) (hm1 : ls.getD k 0 ≤ m) (hm2 : m < hs.getD k 0) :
    call Tryz.prog 40 [.pointer (some xa), .slice lo.1 lo.2.1 lo.2.2, .slice hi.1 hi.2.1 hi.2.2, .int .i64 (k : Int), .int .i64 m, .func (.func 45) #[] #[.pointer (some c0), .pointer (some c1)]] rHX w
      (fun (x : HX) w' => NRes up T rt ls hs u r b xa (left + 1) w.heap.size (n + 1) x w' ∧ Xg xa.block w w') := by
  obtain ⟨hul, _, hR, hA⟩ := sysE_ok hok
  have wk := win k
  have lx := XA.lt
  refine call_of (S40n_calls (some xa) lo.1 lo.2.1 lo.2.2 hi.1 hi.2.1 hi.2.2 k m c0 c1 w _ ?_)
  unfold S40n
  have hll := (L w (grown_refl _ _)).int
  have hul' := (U w (grown_refl _ _)).int
  refine wr_alloc (z := .agg zpc.toArray) (by kernel_rfl) fun x1 w2 X1 h2 hx1 _ => ?_
  have hx1w : w.heap.size ≤ x1.block := by omega
  refine call_mono (clone64 lo ls w2 (L w2 (h2.xg _)) (by omega)) ?_
  rintro (x3 : Hdr) w4 ⟨O3, h4⟩
  refine call_mono (clone64 hi hs w4 (U w4 ((h2.trans h4).xg _)) (by omega)) ?_
  rintro (x5 : Hdr) w6 ⟨O5, h6⟩
  have n3 := O3.len
  have n5 := O5.len
  obtain ⟨a5, ha5⟩ := own_some O5 (j := k) (by omega)
  obtain ⟨a3, ha3⟩ := own_some O3 (j := k) (by omega)
  have l3 := O3.lt a3.block (by rw [ha3]; rfl)
  have l5 := O5.lt a5.block (by rw [ha5]; rfl)
  have bk5 : blk x5.1 = some a5.block := by rw [ha5]; rfl
  have bk3 : blk x3.1 = some a3.block := by rw [ha3]; rfl
  replace O3 : OwnI w6 w2.heap.size x3 ls := Own.kept O3 h6
  have X1l := X1.lt
  have s2 := h2.size
  have s4 := h4.size
  have s6 := h6.size
  replace X1 : Box w6 x1 zpc := (X1.up h4).up h6
  have h := (h2.trans h4).trans h6
  refine z_i64 (by omega) ?_
  refine set_mk tyI64 O5 (j := k) rfl (by omega) rfl fun w9 O5 g5 z9 => ?_
  rw [ints_set] at O5
  rw [bk5] at g5
  replace O3 : OwnI w9 w2.heap.size x3 ls := Own.putNew O3 g5 (fun j hj => by rw [bk3] at hj; cases hj; omega)
  replace X1 := X1.grown g5 (by intro e; injection e; omega)
  replace h := h.grownAt g5 (by omega)
  refine set_mk tyI64 O3 (j := k) rfl (by omega) rfl fun w11 O3 g3 z11 => ?_
  rw [ints_set] at O3
  rw [bk3] at g3
  replace O5 : OwnI w11 w4.heap.size x5 (hs.set k m) := Own.putNew O5 g3 (fun j hj => by rw [bk5] at hj; cases hj; omega)
  replace X1 := X1.grown g3 (by intro e; injection e; omega)
  replace h := h.grownAt g3 (by omega)
  clear g3 g5 h2 h4 h6
  have s11 := h.size
  have g1 : (hs.set k m).getD k 0 = m := by rw [List.getD_eq_getElem?_getD, List.getElem?_set_self (by omega)]; rfl
  have g2 : (ls.set k (m + 1)).getD k 0 = m + 1 := by rw [List.getD_eq_getElem?_getD, List.getElem?_set_self (by omega)]; rfl
  have ob1 : OkBox ls (hs.set k m) := fun j => by
    by_cases e : j = k
    · subst e; rw [g1]; omega
    · rw [Off.set k hs m j e]; exact ob j
  have ob2 : OkBox (ls.set k (m + 1)) hs := fun j => by
    by_cases e : j = k
    · subst e; rw [g2]; omega
    · rw [Off.set k ls (m + 1) j e]; exact ob j
  have win1 : ∀ j, 0 ≤ ls.getD j 0 ∧ (hs.set k m).getD j 0 ≤ 1000000000 := fun j => by
    by_cases e : j = k
    · subst e; rw [g1]; exact ⟨(win j).1, by omega⟩
    · rw [Off.set k hs m j e]; exact win j
  have win2 : ∀ j, 0 ≤ (ls.set k (m + 1)).getD j 0 ∧ hs.getD j 0 ≤ 1000000000 := fun j => by
    by_cases e : j = k
    · subst e; rw [g2]; exact ⟨by omega, (win j).2⟩
    · rw [Off.set k ls (m + 1) j e]; exact win j
  have C0l := C0.lt
  have C1l := C1.lt
  have hg : Xg xa.block w w11 := h.xg _
  refine call_mono (innerF IH lo x5 ls (hs.set k m) left deep c0 c1 w11 (C0.up h) (C1.up h) (fun w3 q => HS w3 (hg.trans q)) (XA.up h) hl0 (by omega) (fun w3 q => L w3 (hg.trans q)) (fun w3 q => (Own.xg O5 q (by omega)).sl) hl (by simp [hh]) ob1 win1 hd hd1) ?_
  rintro (x12 : HX) w13 ⟨R1, g13⟩
  have X1' : Box w13 x1 zpc := X1.xg g13 (by omega)
  replace O3 : OwnI w13 w2.heap.size x3 (ls.set k (m + 1)) := Own.xg O3 g13 (by omega)
  replace hg := hg.trans g13
  have s13 := g13.size
  replace C0 := C0.xg hg n0
  replace C1 := C1.xg hg n1
  refine var_mk (z := .agg zpc.toArray) (by kernel_rfl) (by kernel_rfl) rfl rfl fun x14 w16 X14 h16 hx14 => ?_
  replace X14 : Box w16 x14 (prc x12.2.1) := X14
  replace X1' : Box w16 x1 zpc := X1'.up h16
  replace O3 : OwnI w16 w2.heap.size x3 (ls.set k (m + 1)) := Own.kept O3 h16
  replace C0 := C0.up h16
  replace C1 := C1.up h16
  replace hg := hg.trans (h16.xg _)
  have t16 := h16.size
  have b1 : x1.block < w11.heap.size := by omega
  -- what is handed back from a side
  have back : ∀ (x : HX) (w' : World), Box w' x1 zpc → Xg xa.block w w' → NRes up T rt ls hs u r b xa (left + 1) w11.heap.size (n + 1) x w' →
      wu Tryz.prog (Instr.storeAt 35 (.pointer (some x1)) (prv x.2.1)) w' fun w2 => rd Tryz.prog (loadVar 35 x1) (.agg [.int .i64, .slice, .int .i64, .int .i64, .slice]) w2 fun y =>
        ∃ v : HX, Value.tuple #[.slice x.1.1 x.1.2.1 x.1.2.2, prv y, .int .i64 x.2.2.1] = rHX.val v ∧ NRes up T rt ls hs u r b xa (left + 1) w.heap.size (n + 1) v w2 ∧ Xg xa.block w w2 := by
    intro x w' X hb hr
    refine wu_box X (by kernel_rfl) (Nat.le_refl 5) rfl fun w3 X hg _ => ?_
    refine rd_boxV (show Box w3 x1 (prc x.2.1) from X) (by kernel_rfl) rfl ⟨x, rfl, ?_, xg_put hb hg fun k hk => by injection hk; omega⟩
    obtain ⟨left', Y, hle, q⟩ := hr
    refine ⟨left', Y.xg hg (by omega), hle, ?_⟩
    rcases q with ⟨e1, xs, q1, q2, q3⟩ | ⟨e1, e2, e3, p, q1, q2, q3⟩ | q
    · exact .inl ⟨e1, xs, q1.grown hg fun ad ha _ e => by (have := q2 ad ha); injection e; omega, fun ad ha => by have := q2 ad ha; omega, q3⟩
    · exact .inr (.inl ⟨e1, e2, e3, p, (q1.grown hg fun j hj => by injection hj; omega).mono (by omega), q2, q3⟩)
    · exact .inr (.inr q)
  obtain ⟨left1, Y1, hle1, R1⟩ := R1
  replace Y1 := Y1.up h16
  refine br_ne (fun e1 => ?_) (fun e1 => ?_)
  · refine drw_mk fun w17 h17 _ => ?_
    refine rd_boxN (X14.up h17) (by kernel_rfl) rfl ?_
    refine back x12 w17 (X1'.up h17) (hg.trans (h17.xg _)) ⟨left1, Y1.up h17, by omega, ?_⟩
    rcases R1 with ⟨q0, xs, q1, q2, q3⟩ | ⟨q0, _⟩ | q
    · exact .inl ⟨q0, xs, (q1.up h16).up h17, q2, split_pt q3 fun y hy => by rw [← getD_at hy]; omega⟩
    · exact absurd q0 e1
    · exact .inr (.inr q)
  rcases R1 with ⟨q0, _⟩ | ⟨_, _, hp1, p, P1, P2, P3⟩ | ⟨q0, _⟩
  · exact absurd (q0.symm.trans e1) (by decide)
  case inr.inr => exact absurd (q0.symm.trans e1) (by decide)
  replace P1 := P1.up h16
  clear h16
  refine call_mono (innerF IH x3 hi (ls.set k (m + 1)) hs left1 deep c0 c1 w16 C0 C1 (fun w3 q => HS w3 (hg.trans q)) Y1 hp1 (by omega) (fun w3 q => (Own.xg O3 q (by omega)).sl) (fun w3 q => U w3 (hg.trans q)) (by simp [hl]) hh ob2 win2 hd hd1) ?_
  rintro (x21 : HX) w22 ⟨R2, g22⟩
  replace X1' : Box w22 x1 zpc := X1'.xg g22 (by omega)
  replace X14 : Box w22 x14 (prc x12.2.1) := X14.xg g22 (by omega)
  replace P1 := P1.grown g22 (fun j hj => by injection hj; omega)
  replace hg := hg.trans g22
  have s22 := g22.size
  refine var_mk (z := .agg zpc.toArray) (by kernel_rfl) (by kernel_rfl) rfl rfl fun x23 w25 X23 h25 hx23 => ?_
  replace X23 : Box w25 x23 (prc x21.2.1) := X23
  replace X1' : Box w25 x1 zpc := X1'.up h25
  replace X14 : Box w25 x14 (prc x12.2.1) := X14.up h25
  replace P1 := P1.up h25
  replace hg := hg.trans (h25.xg _)
  have s25 := h25.size
  obtain ⟨left2, Y2, hle2, R2⟩ := R2
  replace Y2 := Y2.up h25
  refine br_ne (fun e2 => ?_) (fun e2 => ?_)
  · refine drw_mk fun w26 h26 _ => ?_
    refine rd_boxN (X23.up h26) (by kernel_rfl) rfl ?_
    refine back x21 w26 (X1'.up h26) (hg.trans (h26.xg _)) ⟨left2, Y2.up h26, by omega, ?_⟩
    rcases R2 with ⟨q0, xs, q1, q2, q3⟩ | ⟨q0, _⟩ | q
    · exact .inl ⟨q0, xs, (q1.up h25).up h26, fun ad ha => by have := q2 ad ha; omega, split_pt' q3 fun y hy => by rw [← getD_at hy]; omega⟩
    · exact absurd q0 e2
    · exact .inr (.inr q)
  rcases R2 with ⟨q0, _⟩ | ⟨_, _, hp2, q, Q1, Q2, Q3⟩ | ⟨q0, _⟩
  · exact absurd (q0.symm.trans e2) (by decide)
  case inr.inr => exact absurd (q0.symm.trans e2) (by decide)
  replace Q1 := Q1.up h25
  clear h25
  refine drw_mk fun w30 h30 _ => ?_
  replace X1' := X1'.up h30; replace X14 := X14.up h30; replace X23 := X23.up h30; replace P1 := P1.up h30; replace Q1 := Q1.up h30; replace Y2 := Y2.up h30
  replace hg := hg.trans (h30.xg _)
  have s30 := h30.size
  refine flEx_mk (fun _ _ v w' => ∃ y : Hdr, v = hv y ∧ Sl w' y.1 y.2.1 y.2.2 5 (prc x12.2.1 ++ prc x21.2.1) ∧ Hi w30.heap.size y) (fun _ _ _ _ _ ⟨y, q1, q2, q3⟩ hb => ⟨y, q1, q2.up hb, q3⟩) ?_
  refine rd_boxN X14 (by kernel_rfl) rfl ?_
  refine rd_boxN X23 (by kernel_rfl) rfl ?_
  refine flc_mk (fun w34 hb _ => wr_lit tyPrs (prc x12.2.1 ++ prc x21.2.1).toArray (fill_pr2 _ _) (by omega) (by omega) rfl (by unfold maxLen; omega) fun ad w37 O hb2 hbk _ => ⟨hb2, (some ad, 2, 2), rfl, (O w34.heap.size (Nat.le_refl _)).sl, fun a ha => by cases ha; have := hb.size; omega⟩) (fun (x38 : Hdr) => ?_)
  refine flend_mk fun w39 hb hf => ?_
  obtain ⟨⟨y, ey, S, hS⟩, _⟩ := hf
  obtain rfl := sl_inj ey
  have s39 := hb.size
  replace X1' := X1'.up hb; replace P1 := P1.up hb; replace Q1 := Q1.up hb; replace Y2 := Y2.up hb
  replace hg := hg.trans (hb.xg _)
  refine back ((none, 0, 0), (3, (none, 0, 0), k, m, x38, ()), 12, ()) w39 X1' hg ⟨left2, Y2, by omega, .inr (.inl ⟨rfl, rfl, hp2, (⟨3, [], (k : Int), m, [p, q]⟩ : PN (PT n)), ?_, split_right hk (by omega) hl hh hm1 hm2 P2 Q2, ?_⟩)⟩
  · refine ⟨⟨rfl, ⟨by show -9223372036854775808 ≤ (3 : Int); omega, by show (3 : Int) ≤ 9223372036854775807; omega⟩⟩, ⟨Sl.nil _ _, fun y hy => (by cases hy), fun ad ha => (by cases ha)⟩, ⟨rfl, ⟨by show _ ≤ (k : Int); omega, by show (k : Int) ≤ _; omega⟩⟩, ⟨rfl, ⟨by show _ ≤ m; omega, by show m ≤ _; omega⟩⟩, by show 2 ≤ 3; omega, fun ad ha => by have := hS ad ha; omega, [x12.2.1, x21.2.1], by simpa using S, rfl, fun i y kk hy hkk => ?_⟩
    match i, hy, hkk with
    | 0, hy, hkk =>
      have e1 : x12.2.1 = y := by simpa using hy
      have e2 : p = kk := by simpa using hkk
      rw [← e1, ← e2]; exact P1
    | 1, hy, hkk =>
      have e1 : x21.2.1 = y := by simpa using hy
      have e2 : q = kk := by simpa using hkk
      rw [← e1, ← e2]; exact Q1.mono (by omega)
    | i + 2, hy, _ => simp at hy
  · rw [split_size]; omega
end Go.Proofs.YtajpdnphamomjaaGreat

/- A node of a search by relaxations: all of it. -/

namespace Go.Proofs.YtajpdnphamomjaaGreat
open Go.RowKit Go.Q Go.Q.Num Go.V

theorem flat_prQw (L : List Rat) : L.flatMap encQ = (L.map prQ).flatMap encF := by rw [List.flatMap_map]
theorem prQ_i64w {L : List Rat} (h : ∀ q ∈ L, Fits q) : ∀ p ∈ L.map prQ, I64 p.1 ∧ I64 p.2 := fun p hp => by
  obtain ⟨y, hy, rfl⟩ := List.mem_map.1 hp
  exact i64_fits (h y hy)
theorem getD_get {l : List Int} {k : Nat} (h : k < l.length) : l[k]? = some (l.getD k 0) := by rw [List.getD_eq_getElem?_getD, List.getElem?_eq_getElem h]; rfl
theorem idxI_cases {β : Type} (q : β → Bool) (ys : List β) : (idxI q ys = -1 ∧ ∀ y ∈ ys, q y = false) ∨ ∃ (k : Nat) (y : β), idxI q ys = (k : Int) ∧ ys[k]? = some y ∧ q y = true := by
  unfold idxI
  cases h : ys.findIdx? q with
  | none => exact .inl ⟨rfl, fun y hy => by have := List.findIdx?_eq_none_iff.1 h y hy; simpa using this⟩
  | some k =>
    obtain ⟨h1, h2, _⟩ := List.findIdx?_eq_some_iff_getElem.1 h
    exact .inr ⟨k, ys[k], rfl, List.getElem?_eq_getElem h1, h2⟩
theorem bg9_of {ls : List Int} (h : ∀ k, -1000000000 ≤ ls.getD k 0 ∧ ls.getD k 0 ≤ 1000000000) : Bg9 ls := fun x hx => by
  obtain ⟨k, hk⟩ := List.getElem?_of_mem hx
  have := h k
  rw [getD_at hk] at this
  exact this

set_option maxHeartbeats 3200000 in
theorem nodeCore (u r b : Hdr) (up : List Int) (T : List (List Int)) (rt : List Int) (hok : sysE up T rt = 0) (hn1 : 1 ≤ up.length) (xa : Addr) (n : Nat) (IH : ∀ m, n = m + 1 → NodeC u r b up T rt xa m) : NodeC u r b up T rt xa n := by
  intro lo hi ls hs left deep w HS XA hl0 hl3 L U hl hh ob win hd hd1
  obtain ⟨hul, hTl, hR, hA⟩ := sysE_ok hok
  have lx := XA.lt
  refine call_of (S22_calls (some xa) lo.1 lo.2.1 lo.2.2 hi.1 hi.2.1 hi.2.2 deep w _ ?_)
  unfold S22
  refine wr_box fun x1 w2 X1 h2 hx1 hs2 => ?_
  replace X1 : Box w2 x1 [.pointer (some xa)] := X1
  refine wr_box fun x3 w4 X3 h4 hx3 hs4 => ?_
  replace X3 : Box w4 x3 [.int .i64 deep] := X3
  refine wr_alloc (z := .agg zpc.toArray) (by kernel_rfl) fun x5 w6 X5 h6 hx5 hs6 => ?_
  replace X5 : Box w6 x5 zpc := X5
  replace X1 := (X1.up h4).up h6
  replace X3 := X3.up h6
  have s2 := h2.size
  have s4 := h4.size
  have m1 : w.heap.size ≤ x1.block := by omega
  have m3 : x1.block < x3.block := by omega
  have m5 : x3.block < x5.block := by omega
  have l5 := X5.lt
  have h := (h2.trans h4).trans h6
  replace XA := XA.up h
  clear h2 h4 h6
  refine rd_box0 (by kernel_rfl) X1 rfl rfl ?_
  refine nn_mk rfl ?_
  refine rd_box (by kernel_rfl) XA (i := 3) rfl rfl ?_
  refine z_i64 (by omega) ?_
  refine nn_mk rfl ?_
  refine wu_boxi XA (by kernel_rfl) (by show 3 < 4; omega) rfl fun w12 XA g12 _ => ?_
  replace XA : Box w12 xa (srcC u r b (left - 1)) := XA
  replace X1 := X1.xg g12 (by omega)
  replace X3 := X3.xg g12 (by omega)
  replace X5 := X5.xg g12 (by omega)
  have hg : Xg xa.block w w12 := (h.xg _).trans g12
  have s12 := g12.size
  clear g12 h
  refine rd_box0 (by kernel_rfl) X1 rfl rfl ?_
  refine nn_mk rfl ?_
  refine rd_box (by kernel_rfl) XA (i := 3) rfl rfl ?_
  -- what is handed back
  have out : ∀ (x : HX) (w' : World) (B : Nat), Box w' x5 zpc → Xg xa.block w w' → x5.block < B → NRes up T rt ls hs u r b xa left B n x w' →
      wu Tryz.prog (Instr.storeAt 35 (.pointer (some x5)) (prv x.2.1)) w' fun w2 => rd Tryz.prog (loadVar 35 x5) (.agg [.int .i64, .slice, .int .i64, .int .i64, .slice]) w2 fun y =>
        ∃ v : HX, Value.tuple #[.slice x.1.1 x.1.2.1 x.1.2.2, prv y, .int .i64 x.2.2.1] = rHX.val v ∧ NRes up T rt ls hs u r b xa left w.heap.size n v w2 ∧ Xg xa.block w w2 := by
    intro x w' B X hb hB hr
    refine wu_box X (by kernel_rfl) (Nat.le_refl 5) rfl fun w3 X hg _ => ?_
    refine rd_boxV (show Box w3 x5 (prc x.2.1) from X) (by kernel_rfl) rfl ⟨x, rfl, ?_, xg_put hb hg fun k hk => by injection hk; omega⟩
    obtain ⟨left', Y, hle, q⟩ := hr
    refine ⟨left', Y.xg hg (by omega), hle, ?_⟩
    rcases q with ⟨e1, xs, q1, q2, q3⟩ | ⟨e1, e2, e3, p, q1, q2, q3⟩ | q
    · exact .inl ⟨e1, xs, q1.grown hg fun ad ha _ e => by (have := q2 ad ha); injection e; omega, fun ad ha => by have := q2 ad ha; omega, q3⟩
    · exact .inr (.inl ⟨e1, e2, e3, p, (q1.grown hg fun j hj => by injection hj; omega).mono (by omega), q2, q3⟩)
    · exact .inr (.inr q)
  refine br_dec (fun e => ?_) (fun e => ?_)
  · exact out ((none, 0, 0), zprv, 8, ()) w12 w12.heap.size X5 hg X5.lt ⟨left - 1, XA, by omega, .inr (.inr ⟨rfl, rfl⟩)⟩

  refine rd_box0 (by kernel_rfl) X3 rfl rfl ?_
  refine br_dec (fun e2 => ?_) (fun e2 => ?_)
  · exact out ((none, 0, 0), zprv, 8, ()) w12 w12.heap.size X5 hg X5.lt ⟨left - 1, XA, by omega, .inr (.inr ⟨rfl, rfl⟩)⟩

  obtain ⟨m, rfl⟩ : ∃ m, n = m + 1 := ⟨n - 1, by omega⟩
  have IH := IH m rfl
  refine rd_box0 (by kernel_rfl) X1 rfl rfl ?_
  refine nn_mk rfl ?_
  refine rd_cells (vs := sysc u r b) (by kernel_rfl) (fun j v hj => XA.cell ?_) rfl ?_
  · match j, hj with
    | 0, hj => exact hj
    | 1, hj => exact hj
    | 2, hj => exact hj
    | j + 3, hj => simp at hj
  have bl : Bg9 ls := bg9_of fun k => by have := win k; have := ob k; omega
  have bh : Bg9 hs := bg9_of fun k => by have := win k; have := ob k; omega
  have hle : ∀ (k : Nat) a c, ls[k]? = some a → hs[k]? = some c → a ≤ c := fun k a c ha hc => by have := ob k; rwa [getD_at ha, getD_at hc] at this
  refine call_mono (relaxF u r b lo hi up T rt ls hs 400 w12 (HS w12 hg) hok (L w12 hg) (U w12 hg) hl hh bl bh hn1 (by omega)) ?_
  rintro (x24 : Hdr × Hdr × Int × Unit) w25 ⟨hr, h25⟩
  have X5' := X5.up h25
  have XA' := XA.up h25
  have X1' := X1.up h25
  have X3' := X3.up h25
  have hg25 := hg.trans (h25.xg _)
  have s25 := h25.size
  have t5 := X5'.lt
  rcases hr with ⟨e3, e4, c, B, hR', ok, hw, O⟩ | ⟨e3, e4, hT1, M, hM, O, hf, hbnd⟩ | ⟨e3, e4, e5, _⟩
  case inr.inr =>
    refine br_ne (fun _ => ?_) (fun q => absurd (e3.symm.trans q) (by decide))
    rw [e3]
    exact out ((none, 0, 0), zprv, 8, ()) w25 w25.heap.size X5' hg25 t5 ⟨left - 1, XA', by omega, .inr (.inr ⟨rfl, rfl⟩)⟩
  case inr.inl =>
    refine br_ne (fun q => absurd e3 q) (fun _ => ?_)
    refine rd_notnil tyFracs ?_
    have hln := slQ_len O.sl
    obtain ⟨ma, hma⟩ : ∃ a, x24.2.1.1 = some a := by
      cases q : x24.2.1.1 with
      | none => have := (O.sl.nil' q).1; omega
      | some a => exact ⟨a, rfl⟩
    refine br_t (by rw [hma]; rfl) ?_
    have SM := O.sl
    rw [flat_prQw] at SM
    refine out ((none, 0, 0), lfv 1 x24.2.1, 12, ()) w25 w12.heap.size X5' hg25 X5.lt ⟨left - 1, XA', by omega, .inr (.inl ⟨rfl, rfl, by omega, (⟨1, M.map prQ, 0, 0, []⟩ : PN (PT m)), leafB m 1 i64_1 SM (prQ_i64w hf) (fun ad ha => (O.lt ad.block (by rw [ha]; rfl)).1), (right_1 (p := (⟨1, M.map prQ, 0, 0, []⟩ : PN (PT m))) rfl ⟨rfl, rfl, rfl⟩).2 hbnd, ?_⟩)⟩
    rw [leaf_size]; omega
  refine br_ne (fun q => absurd e3 q) (fun _ => ?_)
  refine rd_notnil tyFracs ?_
  refine br_f (by rw [e4]; rfl) ?_
  have SO := O.sl
  have hln := slQ_len SO
  have hBl : (B.val.take up.length).length = up.length := by rw [List.length_take, ok.lv]; omega
  refine call_mono (idxN x24.1 (B.val.take up.length) w25 SO) ?_
  rintro (x31 : Int) w32 ⟨hx31, h32⟩
  have s32 := h32.size
  have hg32 := hg25.trans (h32.xg _)
  replace X5' := X5'.up h32
  replace XA' := XA'.up h32
  replace X1' := X1'.up h32
  replace X3' := X3'.up h32
  replace SO := SO.up h32
  have t5' := X5'.lt
  rcases idxI_cases (fun q : Rat => decide (q.den ≠ 1)) (B.val.take up.length) with ⟨q1, q2⟩ | ⟨k, y, q1, q2, q3⟩
  · refine br_t (decide_eq_true (by omega)) ?_
    have hden : ∀ q ∈ B.val.take up.length, q.den = 1 := fun q hq => by have := q2 q hq; simpa using this
    have hPt := whole_pt hok hl hh hle hR' ok hw hden
    refine loop_gh (G := Nat) (fun i s w' => s.2.1 = (i : Int) ∧ i ≤ up.length ∧ OwnI w' w32.heap.size s.1 (((B.val.take up.length).map fun q => q.num).take i) ∧ bel w32 w') (fun i => up.length - i) 0 ⟨rfl, Nat.zero_le _, Own.nil _ _ _ _, Below.refl _ _⟩ ?_
    rintro i ⟨s1, s2, _⟩ w35 ⟨rfl, hi, Os, b35⟩ again hag _
    dsimp only at hi Os ⊢
    refine br_dec (fun e6 => ?_) (fun e6 => ?_)
    · have hi' : i < up.length := by omega
      obtain ⟨y, hy⟩ : ∃ y, (B.val.take up.length)[i]? = some y := ⟨_, List.getElem?_eq_getElem (by omega)⟩
      refine atQ (SO.up b35) rfl hy ?_
      refine var_mk (v := fracv y.num ((y.den : Nat) : Int)) (z := fracv 0 0) (by kernel_rfl) (by kernel_rfl) rfl rfl fun x38 w40 X38 h40 _ => ?_
      replace X38 : Box w40 x38 [.int .i64 y.num, .int .i64 ((y.den : Nat) : Int)] := X38
      refine rd_box0 (by kernel_rfl) X38 rfl rfl ?_
      have O40 := Own.kept Os h40
      have hsn : s1.2.1 = i := by have := O40.sl.int; rw [List.length_take, List.length_map, hBl] at this; omega
      have b40 := b35.trans h40
      refine wr_app1 tyI64 O40 b40.size rfl (by omega) (by omega) rfl rfl (by omega) (by unfold maxLen; omega) fun a' c' w45 O45 g45 _ _ => ?_
      refine z_i64 (by omega) ?_
      refine hag (i + 1) _ _ ⟨rfl, hi', ?_, bel.own b40 O40 g45 (Nat.le_refl _)⟩ (by omega)
      rw [List.take_add_one, List.getElem?_map, hy]
      show Own w45 _ _ 1 a' (s1.2.1 + 1) c' (ints .i64 (_ ++ [y.num]))
      rw [ints_app]
      exact O45
    · have hi' : i = up.length := by omega
      subst hi'
      rw [List.take_of_length_le (by rw [List.length_map]; omega)] at Os
      refine out (s1, zprv, 0, ()) w35 w32.heap.size (X5'.up b35) (hg32.trans (b35.xg _)) t5' ⟨left - 1, XA'.up b35, by omega, .inl ⟨rfl, _, Os.sl, fun ad ha => (Os.lt ad.block (by rw [ha]; rfl)).1, hPt⟩⟩
  · have hk : k < up.length := by have := (List.getElem?_eq_some_iff.1 q2).1; omega
    refine br_f (decide_eq_false (by omega)) ?_
    have hden : y.den ≠ 1 := by simpa using q3
    have hyv : y = B.v k := by
      have e : (B.val.take up.length)[k]? = some (B.v k) := by rw [List.getElem?_take, if_pos hk, ok.val_get (by omega)]
      rw [e] at q2; injection q2 with q2; exact q2.symm
    have hfy : Fits y := by rw [hyv]; exact ok.v_fit (by omega)
    obtain ⟨f1, f2⟩ := floor_split hfy hden (a := ls.getD k 0) (b := hs.getD k 0) (by
      have := (rlx_sol hA hl hh hle hR' hw).1 k (ls.getD k 0) (hs.getD k 0) (getD_get (by omega)) (getD_get (by omega))
      rw [hyv]; exact this.1) (by
      have := (rlx_sol hA hl hh hle hR' hw).1 k (ls.getD k 0) (hs.getD k 0) (getD_get (by omega)) (getD_get (by omega))
      rw [hyv]; exact this.2)
    refine drw_mk fun w49 h49 _ => ?_
    refine flEx_mk (fun i _ v _ => i = 8 → v = .int .i64 (floorq y.num ((y.den : Nat) : Int))) (fun _ _ _ _ _ q _ => q) ?_
    refine rd_box0 (by kernel_rfl) (X1'.up h49) rfl rfl ?_
    refine atQ (SO.up h49) (hx31.trans q1) q2 ?_
    refine flc_mk (fun w54 h54 _ => call_mono (floorFc _ _ w54 (i64_fits hfy)) fun (x : Int) w' q => ⟨q.2, fun _ => by rw [q.1]; rfl⟩) (fun (x58 : Int) => ?_)
    refine flend_mk fun w59 h59 q => ?_
    have ex := q.1 rfl
    injection ex with _ ex
    subst ex
    have hx : x31 = (k : Int) := hx31.trans q1
    rw [hx]
    have h59' := h49.trans h59
    have s59 := h59'.size
    have hg59 := hg32.trans (h59'.xg _)
    refine call_mono (splitN u r b up T rt hok xa m IH lo hi ls hs (left - 1) deep x1 x3 w59 (X1'.up h59') (X3'.up h59') (by omega) (by omega) (fun w3 q => HS w3 (hg59.trans q)) (XA'.up h59') (by omega) (by omega) (fun w3 q => L w3 (hg59.trans q)) (fun w3 q => U w3 (hg59.trans q)) hl hh ob win (by omega) hd1 k _ hk f1 f2) ?_
    rintro (x61 : HX) w62 ⟨R, g62⟩
    rw [show left - 1 + 1 = left by omega] at R
    have X5'' : Box w62 x5 zpc := (X5'.up h59').xg g62 (by omega)
    exact out x61 w62 w59.heap.size X5'' (hg59.trans g62) (by omega) R
theorem nodeF (u r b : Hdr) (up : List Int) (T : List (List Int)) (rt : List Int) (hok : sysE up T rt = 0) (hn1 : 1 ≤ up.length) (xa : Addr) : ∀ n, NodeC u r b up T rt xa n
  | 0 => nodeCore u r b up T rt hok hn1 xa 0 fun m h => by omega
  | n + 1 => nodeCore u r b up T rt hok hn1 xa (n + 1) fun m h => by
    obtain rfl : n = m := by omega
    exact nodeF u r b up T rt hok hn1 xa n
end Go.Proofs.YtajpdnphamomjaaGreat

/- Solve, for any system. -/

namespace Go.Proofs.YtajpdnphamomjaaGreat
open Go.RowKit Go.Q Go.Q.Num Go.V

def SAll (up : List Int) (T : List (List Int)) (rt : List Int) (x : HX) (w' : World) : Prop :=
  (∃ n, n ≤ 200 ∧ SRes up T rt n x w') ∨ (x.2.2.1 = 8 ∧ x.1 = (none, 0, 0) ∧ ¬ ptsN (zs up.length) up up.length ≤ 500)
theorem SAll.up {up : List Int} {T : List (List Int)} {rt : List Int} {x : HX} {w w' : World} (h : SAll up T rt x w) (hb : bel w w') : SAll up T rt x w' := by
  rcases h with ⟨n, h1, h2⟩ | h
  · exact .inl ⟨n, h1, h2.up hb⟩
  · exact .inr h

set_option maxHeartbeats 1600000 in
theorem solveAll (u r b : Hdr) (up : List Int) (T : List (List Int)) (rt : List Int) (w : World) (H : Sys w u r b up T rt) (hok : sysE up T rt = 0) (hn1 : 1 ≤ up.length) :
    call Tryz.prog 9 [sysv u r b] rHX w (fun (x : HX) w' => SAll up T rt x w' ∧ bel w w') := by
  obtain ⟨hul, hTl, hR, hA⟩ := sysE_ok hok
  have ob := ok_zero hR.1
  refine call_of (S9_calls u.1 u.2.1 u.2.2 r.1 r.2.1 r.2.2 b.1 b.2.1 b.2.2 w _ ?_)
  unfold S9
  have hu := H.u.int
  refine wr_box fun x1 w2 X1 h2 _ _ => ?_
  refine wr_alloc (z := .agg zpc.toArray) (by kernel_rfl) fun x3 w4 X3 h4 hb3 _ => ?_
  replace X1 : Box w4 x1 (sysc u r b) := Box.up (show Box w2 x1 (sysc u r b) from X1) h4
  replace X3 : Box w4 x3 zpc := X3
  have hx3 : w.heap.size ≤ x3.block := by rw [hb3]; exact h2.size
  have h := h2.trans h4
  clear h2 h4
  refine rd_boxN X1 (by kernel_rfl) rfl ?_
  refine call_mono (validL u r b up T rt w4 (H.up h)) ?_
  rintro x6 w7 ⟨rfl, hb⟩
  replace X1 := X1.up hb; replace X3 := X3.up hb; replace h := h.trans hb
  clear hb
  refine br_ne (fun e => absurd hok e) (fun _ => ?_)
  refine rd_boxN X1 (by kernel_rfl) rfl ?_
  refine call_mono (latticeF u r b up T rt w7 (H.up h) hok) ?_
  rintro (x11 : CPr × Bool × Unit) w12 ⟨hlat, hb⟩
  have x3l := X3.lt
  replace X1 := X1.up hb; replace X3 := X3.up hb; replace h := h.trans hb
  clear hb
  have backP : ∀ (x : HX) (w' : World) (B n : Nat), Box w' x3 zpc → bel w w' → x3.block < B → n ≤ 200 → ((x.2.2.1 = 0 ∧ ∃ xs, Sl w' x.1.1 x.1.2.1 x.1.2.2 1 (ints .i64 xs) ∧ Hi B x.1 ∧ Pt T rt (zs up.length) up xs) ∨
      (x.2.2.1 = 12 ∧ x.1 = (none, 0, 0) ∧ ∃ p : PT n, PrB w' B n p x.2.1 ∧ rightP up T rt n p (zs up.length) up ∧ szP n p ≤ 2000) ∨ (x.2.2.1 = 8 ∧ x.1 = (none, 0, 0) ∧ ¬ ptsN (zs up.length) up up.length ≤ 500)) →
      wu Tryz.prog (Instr.storeAt 35 (.pointer (some x3)) (prv x.2.1)) w' fun w2 => rd Tryz.prog (loadVar 35 x3) (.agg [.int .i64, .slice, .int .i64, .int .i64, .slice]) w2 fun y =>
        ∃ v : HX, Value.tuple #[.slice x.1.1 x.1.2.1 x.1.2.2, prv y, .int .i64 x.2.2.1] = rHX.val v ∧ SAll up T rt v w2 ∧ bel w w2 := by
    intro x w' B n X hb hB hn hr
    refine wu_box X (by kernel_rfl) (Nat.le_refl 5) rfl fun w3 X hg _ => ?_
    refine rd_boxV (show Box w3 x3 (prc x.2.1) from X) (by kernel_rfl) rfl ⟨x, rfl, ?_, hb.grownAt hg hx3⟩
    rcases hr with ⟨e1, xs, q1, q2, q3⟩ | ⟨e1, e2, p, q1, q2, q3⟩ | q
    · exact .inl ⟨n, hn, .inl ⟨e1, xs, q1.grown hg fun ad ha _ e => by (have := q2 ad ha); injection e; omega, q3⟩⟩
    · have P := q1.grown hg fun j hj => by injection hj; omega
      exact .inl ⟨n, hn, .inr ⟨e1, e2, p, P.at, hok, by omega, by have := depP_le P.at; omega, q2⟩⟩
    · exact .inr q
  refine var_mk (z := .agg zpc.toArray) (by kernel_rfl) (by kernel_rfl) rfl rfl fun x13 w15 X13 hb _ => ?_
  replace X13 : Box w15 x13 (prc x11.1) := X13
  replace X1 := X1.up hb; replace X3 := X3.up hb; replace h := h.trans hb
  refine br_mk (fun e1 => ?_) (fun e1 => ?_)
  · refine drw_mk fun w16 hb2 _ => ?_
    refine rd_boxN (X13.up hb2) (by kernel_rfl) rfl ?_
    obtain ⟨M, hM, P⟩ := hlat e1
    refine backP ((none, 0, 0), x11.1, 12, ()) w16 w7.heap.size 18 (X3.up hb2) (h.trans hb2) x3l (by omega) (.inr (.inl ⟨rfl, rfl, (⟨2, M, 0, 0, []⟩ : PN (PT 17)), (P 17).up (hb.trans hb2), (right_2 (p := (⟨2, M, 0, 0, []⟩ : PN (PT 17))) rfl ⟨rfl, rfl, rfl⟩).2 hM, ?_⟩))
    rw [leaf_size]; omega
  refine rd_box0 (by kernel_rfl) X1 rfl rfl ?_
  refine wr_make tyI64 u.2.1 rfl rfl (by omega) (by unfold maxLen; omega) fun ad w22 O hb2 hb22 _ => ?_
  have Oz := O w15.heap.size (Nat.le_refl _)
  rw [made_zero] at Oz
  replace X1 := X1.up hb2; replace X3 := X3.up hb2; replace h := h.trans hb2
  refine rd_boxN X1 (by kernel_rfl) rfl ?_
  refine call_mono (pointsF u r b up T rt w22 (H.up h) hok) ?_
  rintro (x24 : Int × Bool × Unit) w25 ⟨hp, hb3⟩
  replace Oz := Own.kept Oz hb3
  replace X1 := X1.up hb3; replace X3 := X3.up hb3; replace h := h.trans hb3
  have win : ∀ k, 0 ≤ (zs up.length).getD k 0 ∧ up.getD k 0 ≤ 1000000000 := fun k => by
    refine ⟨by rw [zs_getD]; exact Int.le_refl _, ?_⟩
    rw [List.getD_eq_getElem?_getD]
    cases hk : up[k]? with
    | none => show (0 : Int) ≤ _; decide
    | some x => exact (hR.1 x (mem_at hk)).2
  refine br_mk (fun e2 => ?_) (fun e2 => ?_)
  · have few : ptsN (zs up.length) up up.length ≤ 500 := by rw [hp] at e2; exact of_decide_eq_true e2
    refine rd_boxN X1 (by kernel_rfl) rfl ?_
    refine wr_box fun x27 w28 X27 hb4 _ _ => ?_
    replace X27 : Box w28 x27 (srcC u r b 0) := X27
    replace Oz := Own.kept Oz hb4
    replace X1 := X1.up hb4; replace X3 := X3.up hb4; replace h := h.trans hb4
    refine rd_box0 (by kernel_rfl) X1 rfl rfl ?_
    have x3l' := X3.lt
    have b17 := bit_17 ob few
    have pp := pts_pos ob up.length
    refine call_mono (halveF u r b up T rt hok 0 x27 18 (some ad, u.2.1, u.2.1) u (zs up.length) up w28 (H.up h) X27 (by rw [hu]; exact Oz.sl) (H.up h).u (by simp) rfl ob win (by omega)) ?_
    rintro (x30 : HX) w31 ⟨R, hb5⟩
    refine backP x30 w31 w28.heap.size 18 (X3.up hb5) (h.trans hb5) x3l' (by omega) ?_
    rcases R with q | ⟨e1, e2, p, q1, q2, q3⟩
    · exact .inl q
    · exact .inr (.inl ⟨e1, e2, p, q1, q2, by omega⟩)
  · have few : ¬ ptsN (zs up.length) up up.length ≤ 500 := by rw [hp] at e2; exact of_decide_eq_false e2
    refine rd_boxN X1 (by kernel_rfl) rfl ?_
    refine wr_box fun x35 w36 X35 hb4 hx35 _ => ?_
    replace X35 : Box w36 x35 (srcC u r b 300) := X35
    have Ol := Oz.lt ad.block rfl
    have x3m := X3.lt
    replace Oz := Own.kept Oz hb4
    replace X1 := X1.up hb4; replace X3 := X3.up hb4
    have sx := h.size
    replace h := h.trans hb4
    refine rd_box0 (by kernel_rfl) X1 rfl rfl ?_
    have x3l' := X3.lt
    have ne3 : x3.block ≠ x35.block := by omega
    refine call_mono (nodeF u r b up T rt hok hn1 x35 200 (some ad, u.2.1, u.2.1) u (zs up.length) up 300 1 w36 (fun w2 g => H.up (h.grownAt g (by omega))) X35 (by omega) (by omega) (fun w2 g => by
      rw [hu]; exact (Oz.sl).xg g (fun a ha _ => by cases ha; omega)) (fun w2 g => (H.up (h.grownAt g (by omega))).u) (by simp) rfl ob win (by omega) (by omega)) ?_
    rintro (x38 : HX) w39 ⟨⟨left', _, hle, R⟩, g⟩
    refine backP x38 w39 w36.heap.size 200 (X3.xg g ne3) (h.grownAt g (by omega)) x3l' (by omega) ?_
    rcases R with q | ⟨e1, e2, e3, p, q1, q2, q3⟩ | ⟨e1, e2⟩
    · exact .inl q
    · exact .inr (.inl ⟨e1, e2, p, q1, q2, by omega⟩)
    · exact .inr (.inr ⟨e1, e2, few⟩)
end Go.Proofs.YtajpdnphamomjaaGreat

/- Trying all points: the walk of Solvable. -/

namespace Go.Proofs.YtajpdnphamomjaaGreat
open Go.RowKit Go.Q Go.Q.Num Go.V

/-! ### points in their order -/
def oN (up xs : List Int) : Nat → Int
  | 0 => 0
  | k + 1 => oN up xs k + xs.getD k 0 * ptsN (zs up.length) up k
def InB (up xs : List Int) : Prop := ∀ k, 0 ≤ xs.getD k 0 ∧ xs.getD k 0 ≤ up.getD k 0
section
variable {up xs ys : List Int}
theorem InB.ok (h : InB up xs) : OkBox (zs up.length) up := fun k => by rw [zs_getD]; have := h k; omega
theorem pts_succ (k : Nat) : ptsN (zs up.length) up (k + 1) = ptsN (zs up.length) up k * (up.getD k 0 + 1) := by
  show _ * (up.getD k 0 - (zs up.length).getD k 0 + 1) = _
  rw [zs_getD, Int.sub_zero]
theorem o_bd (h : InB up xs) : ∀ n, 0 ≤ oN up xs n ∧ oN up xs n < ptsN (zs up.length) up n
  | 0 => by show (0 : Int) ≤ 0 ∧ (0 : Int) < 1; omega
  | n + 1 => by
    obtain ⟨h1, h2⟩ := o_bd h n
    have hn := h n
    have hp := pts_pos h.ok n
    have h3 := Int.mul_nonneg hn.1 (show 0 ≤ ptsN (zs up.length) up n by omega)
    have h4 := Int.mul_le_mul_of_nonneg_right hn.2 (show 0 ≤ ptsN (zs up.length) up n by omega)
    have e : ptsN (zs up.length) up n * (up.getD n 0 + 1) = up.getD n 0 * ptsN (zs up.length) up n + ptsN (zs up.length) up n := by grind
    show 0 ≤ oN up xs n + _ ∧ oN up xs n + _ < ptsN (zs up.length) up (n + 1)
    rw [pts_succ, e]
    omega
theorem o_max (h : InB up xs) : ∀ n, (∀ k, k < n → xs.getD k 0 = up.getD k 0) → oN up xs n = ptsN (zs up.length) up n - 1
  | 0, _ => rfl
  | n + 1, hk => by
    show oN up xs n + xs.getD n 0 * _ = _
    rw [o_max h n fun k q => hk k (by omega), hk n (by omega), pts_succ]
    grind
theorem o_zero : ∀ n, (∀ k, k < n → xs.getD k 0 = 0) → oN up xs n = 0
  | 0, _ => rfl
  | n + 1, hk => by
    show oN up xs n + xs.getD n 0 * _ = 0
    rw [o_zero n fun k q => hk k (by omega), hk n (by omega)]
    omega
theorem o_inj (h : InB up xs) (h' : InB up ys) : ∀ n, oN up xs n = oN up ys n → ∀ k, k < n → xs.getD k 0 = ys.getD k 0
  | 0, _, k, hk => by omega
  | n + 1, e, k, hk => by
    obtain ⟨a1, a2⟩ := o_bd h n
    obtain ⟨b1, b2⟩ := o_bd h' n
    have e' : oN up xs n + xs.getD n 0 * ptsN (zs up.length) up n = oN up ys n + ys.getD n 0 * ptsN (zs up.length) up n := e
    have key : xs.getD n 0 = ys.getD n 0 := by
      rcases Int.lt_trichotomy (xs.getD n 0) (ys.getD n 0) with q | q | q
      · have := Int.mul_le_mul_of_nonneg_right (show xs.getD n 0 + 1 ≤ ys.getD n 0 by omega) (show 0 ≤ ptsN (zs up.length) up n by omega)
        rw [Int.add_mul] at this
        omega
      · exact q
      · have := Int.mul_le_mul_of_nonneg_right (show ys.getD n 0 + 1 ≤ xs.getD n 0 by omega) (show 0 ≤ ptsN (zs up.length) up n by omega)
        rw [Int.add_mul] at this
        omega
    rw [key] at e'
    rcases Nat.lt_or_ge k n with q | q
    · exact o_inj h h' n (by omega) k q
    · have : k = n := by omega
      subst this; exact key
theorem o_same : ∀ {n m : Nat}, (∀ k, n ≤ k → k < m → xs.getD k 0 = ys.getD k 0) → n ≤ m → oN up xs m - oN up ys m = oN up xs n - oN up ys n
  | n, m, h, hnm => by
    induction m with
    | zero => have : n = 0 := by omega
              subst this; rfl
    | succ m ih =>
      by_cases e : n = m + 1
      · subst e; rfl
      · have := ih (fun k q1 q2 => h k q1 (by omega)) (by omega)
        show oN up xs m + xs.getD m 0 * _ - (oN up ys m + ys.getD m 0 * _) = _
        rw [h m (by omega) (by omega)]
        omega
theorem o_next {a n : Nat} (h : InB up xs) (ha : a < n) (hm : ∀ k, k < a → xs.getD k 0 = up.getD k 0) (h0 : ∀ k, k < a → ys.getD k 0 = 0) (h1 : ys.getD a 0 = xs.getD a 0 + 1) (h2 : ∀ k, a < k → ys.getD k 0 = xs.getD k 0) : oN up ys n = oN up xs n + 1 := by
  have e1 := o_max h a hm
  have e2 := o_zero (up := up) a h0
  have e3 := o_same (up := up) (n := a + 1) (m := n) (fun k q1 q2 => h2 k (by omega)) (by omega)
  have e4 : oN up ys (a + 1) = oN up ys a + (xs.getD a 0 + 1) * ptsN (zs up.length) up a := by show _ + ys.getD a 0 * _ = _; rw [h1]
  have e5 : oN up xs (a + 1) = oN up xs a + xs.getD a 0 * ptsN (zs up.length) up a := rfl
  rw [Int.add_mul] at e4
  omega
end
theorem ext_getD {xs ys : List Int} (hl : xs.length = ys.length) (h : ∀ k, k < xs.length → xs.getD k 0 = ys.getD k 0) : xs = ys := by
  refine List.ext_getElem hl fun k h1 h2 => ?_
  have := h k h1
  rw [List.getD_eq_getElem?_getD, List.getD_eq_getElem?_getD, List.getElem?_eq_getElem h1, List.getElem?_eq_getElem h2] at this
  simpa using this
theorem dotI_bd {r xs : List Int} (hr : ∀ x ∈ r, -1000000 ≤ x ∧ x ≤ 1000000) (hx : ∀ k, 0 ≤ xs.getD k 0 ∧ xs.getD k 0 ≤ 1000000000) : ∀ n : Nat, -(n : Int) * 1000000000000000 ≤ dotI r xs n ∧ dotI r xs n ≤ (n : Int) * 1000000000000000
  | 0 => by simp [dotI]
  | n + 1 => by
    have ih := dotI_bd hr hx n
    show _ ≤ dotI r xs n + dotJ r xs n ∧ dotI r xs n + dotJ r xs n ≤ _
    have : -1000000000000000 ≤ dotJ r xs n ∧ dotJ r xs n ≤ 1000000000000000 := by
      unfold dotJ
      cases hc : r[n]? with
      | none => dsimp only; omega
      | some c => cases hy : xs[n]? with
        | none => dsimp only; omega
        | some y =>
          have h1 := hx n
          rw [getD_at hy] at h1
          exact mul_bd (hr c (mem_at hc)) h1
    omega

set_option maxHeartbeats 3200000 in
theorem solvableF (u r b : Hdr) (up : List Int) (T : List (List Int)) (rt : List Int) (w : World) (H : Sys w u r b up T rt) (hok : sysE up T rt = 0) :
    call Tryz.prog 12 [sysv u r b] (.one (.one .bool)) w (fun v w' => (v = true ↔ ∃ xs, Pt T rt (zs up.length) up xs) ∧ bel w w') := by
  obtain ⟨hul, hTl, hR, hA⟩ := sysE_ok hok
  have ob := ok_zero hR.1
  have hAl := hA.1
  refine call_of (S12_calls u.1 u.2.1 u.2.2 r.1 r.2.1 r.2.2 b.1 b.2.1 b.2.2 w _ ?_)
  unfold S12
  have hu := H.u.int
  have hrl := H.r.len
  have hbl := H.b.int
  refine wr_box fun x1 w2 X1 h2 _ _ => ?_
  replace X1 : Box w2 x1 (sysc u r b) := X1
  refine rd_box0 (by kernel_rfl) X1 rfl rfl ?_
  refine wr_make tyI64 u.2.1 rfl rfl (by omega) (by unfold maxLen; omega) fun ad w5 O hb5 hbk _ => ?_
  have Oz := O w2.heap.size (Nat.le_refl _)
  rw [made_zero, ← hu] at Oz
  have x1l := X1.lt
  have had : w.heap.size ≤ ad.block := by rw [hbk]; exact h2.size
  have hne : some x1.block ≠ some ad.block := by intro e; injection e; omega
  have hf : ∀ {w' : World}, bel w w' → Sys w' u r b up T rt := fun hb => H.up hb
  have hup : ∀ k, up.getD k 0 ≤ 1000000000 := fun k => by
    rw [List.getD_eq_getElem?_getD]
    cases hk : up[k]? with
    | none => show (0 : Int) ≤ _; decide
    | some x => exact (hR.1 x (mem_at hk)).2
  let J : List Int → World → Prop := fun xs w' => OwnI w' w2.heap.size (some ad, up.length, up.length) xs ∧ Box w' x1 (sysc u r b) ∧ bel w w'
  have Jup : ∀ {xs : List Int} {a c : World}, J xs a → bel a c → J xs c := fun ⟨q1, q2, q3⟩ hb => ⟨Own.kept q1 hb, q2.up hb, q3.trans hb⟩
  rw [← hu]
  refine loop_gh (G := List Int) (fun xs _ w' => xs.length = up.length ∧ InB up xs ∧ (∀ ys : List Int, ys.length = up.length → InB up ys → oN up ys up.length < oN up xs up.length → ¬ Pt T rt (zs up.length) up ys) ∧ J xs w') (fun xs => (ptsN (zs up.length) up up.length - oN up xs up.length).toNat) (zs up.length) ⟨by simp, fun k => by rw [zs_getD]; have := ob k; rw [zs_getD] at this; omega, fun ys _ hy hlt => ?_, Oz, X1.up hb5, h2.trans hb5⟩ ?_
  · rw [o_zero (xs := zs up.length) up.length fun k _ => zs_getD _ k] at hlt
    have := (o_bd hy up.length).1
    omega
  rintro xs _ w8 ⟨hxl, hin, hbefore, Jw⟩ again hag _
  have hx9 : ∀ k, 0 ≤ xs.getD k 0 ∧ xs.getD k 0 ≤ 1000000000 := fun k => by have := hin k; have := hup k; omega
  have toPt : ∀ {ys : List Int}, ys.length = up.length → InB up ys → (∀ (i : Nat) row y, T[i]? = some row → rt[i]? = some y → dotI row ys up.length = y) → Pt T rt (zs up.length) up ys := fun {ys} hl hi h => ⟨by simp [hl], hl.symm, fun k a c x ha hc hx => by
      have hk := hi k
      rw [getD_at hc, getD_at hx] at hk
      have : (zs up.length).getD k 0 = a := getD_at ha
      rw [zs_getD] at this
      omega, fun i row y q1 q2 => by rw [hl]; exact h i row y q1 q2⟩
  have ofPt : ∀ {ys : List Int}, Pt T rt (zs up.length) up ys → ys.length = up.length ∧ InB up ys := fun {ys} h => ⟨h.lhi.symm, fun k => by
    have hl := h.lhi
    by_cases hk : k < up.length
    · obtain ⟨c, hc⟩ : ∃ c, up[k]? = some c := ⟨_, List.getElem?_eq_getElem hk⟩
      obtain ⟨x, hx⟩ : ∃ x, ys[k]? = some x := ⟨_, List.getElem?_eq_getElem (by omega)⟩
      rw [getD_at hc, getD_at hx]
      exact h.each k 0 c x (by rw [List.getElem?_replicate, if_pos hk]) hc hx
    · rw [List.getD_eq_getElem?_getD, List.getD_eq_getElem?_getD, List.getElem?_eq_none (by omega), List.getElem?_eq_none (by omega)]; exact ⟨Int.le_refl _, Int.le_refl _⟩⟩
  refine loop_gh (G := Nat) (fun i s w' => s.2.1 = (i : Int) ∧ i ≤ r.2.1 ∧ (s.1 = true ↔ ∀ j, j < i → ∀ row y, T[j]? = some row → rt[j]? = some y → dotI row xs up.length = y) ∧ J xs w') (fun i => r.2.1 - i) 0 ⟨rfl, Nat.zero_le _, ⟨fun _ j hj => absurd hj (Nat.not_lt_zero _), fun _ => rfl⟩, Jw⟩ ?_
  clear Jw
  rintro i ⟨fine, s2, _⟩ w11 ⟨rfl, hi, hfine, Jw⟩ again2 hag2 _
  dsimp only at hfine ⊢
  refine rd_box (by kernel_rfl) Jw.2.1 (i := 1) rfl rfl ?_
  refine br_dec (fun e1 => ?_) (fun e1 => ?_)
  · dsimp only at e1
    have hi' : i < r.2.1 := by omega
    obtain ⟨row, hrow⟩ : ∃ row, T[i]? = some row := ⟨_, List.getElem?_eq_getElem (by omega)⟩
    obtain ⟨y, hy⟩ : ∃ y, rt[i]? = some y := ⟨_, List.getElem?_eq_getElem (by omega)⟩
    have hrl2 := hA.2 row (mem_at hrow)
    have hcR := hR.2.2 row (mem_at hrow)
    have more : ∀ {P : Prop}, (P ↔ dotI row xs up.length = y) → ((fine = true ∧ P) ↔ ∀ j, j < i + 1 → ∀ row y, T[j]? = some row → rt[j]? = some y → dotI row xs up.length = y) := fun {P} hP => by
      rw [hfine, hP]
      refine ⟨fun ⟨q1, q2⟩ j hj row2 y2 h1 h2 => ?_, fun q => ⟨fun j hj => q j (by omega), q i (by omega) row y hrow hy⟩⟩
      rcases Nat.lt_or_ge j i with hji | hji
      · exact q1 j hji row2 y2 h1 h2
      · have : j = i := by omega
        subst this
        rw [hrow] at h1; rw [hy] at h2
        cases h1; cases h2; exact q2
    refine loop_gh (G := Nat) (fun k s w' => s.1 = dotI row xs k ∧ s.2.1 = (k : Int) ∧ k ≤ up.length ∧ J xs w') (fun k => up.length - k) 0 ⟨rfl, rfl, Nat.zero_le _, Jw⟩ ?_
    clear Jw
    rintro k ⟨s1, s2, _⟩ w15 ⟨rfl, rfl, hk, Jw⟩ again3 hag3 _
    dsimp only at hk ⊢
    have bd := dotI_bd hcR hx9 k
    refine br_dec (fun e2 => ?_) (fun e2 => ?_)
    · have hk' : k < up.length := by omega
      refine drw_mk fun w16 hb _ => ?_
      replace Jw := Jup Jw hb
      refine rd_box (by kernel_rfl) Jw.2.1 (i := 1) rfl rfl ?_
      refine (hf Jw.2.2).r.at tyTab (by kernel_rfl) (j := i) rfl hi' fun hr row2 hrow2 S => ?_
      obtain rfl : row = row2 := by rw [hrow] at hrow2; injection hrow2
      have hrw := S.int
      refine at_int tyI64 (by kernel_rfl) S (j := k) rfl (by omega) fun c hc => ?_
      refine at_int tyI64 (by kernel_rfl) Jw.1.sl (j := k) rfl hk' fun x hx => ?_
      have hxk := hx9 k
      rw [getD_at hx] at hxk
      have m1 := mul_bd (hcR c (mem_at hc)) hxk
      refine z_i64 (by omega) ?_
      refine z_i64 (by omega) ?_
      refine z_i64 (by omega) ?_
      exact hag3 (k + 1) _ _ ⟨(dotI_step hc hx).symm, rfl, hk', Jw⟩ (by omega)
    · have hk' : k = up.length := by omega
      subst hk'
      refine br_mk (fun e3 => ?_) (fun e3 => ?_)
      · refine rd_box (by kernel_rfl) Jw.2.1 (i := 2) rfl rfl ?_
        refine at_int tyI64 (by kernel_rfl) (hf Jw.2.2).b (j := i) rfl (by omega) fun y2 hy2 => ?_
        obtain rfl : y = y2 := by rw [hy] at hy2; injection hy2
        refine z_i64 (by omega) ?_
        refine hag2 (i + 1) _ _ ⟨rfl, hi', ?_, Jw⟩ (by omega)
        rw [← more (P := (dotI row xs up.length == y) = true) (by simp), e3]
        simp
      · refine z_i64 (by omega) ?_
        refine hag2 (i + 1) _ _ ⟨rfl, hi', ?_, Jw⟩ (by omega)
        rw [← more (P := dotI row xs up.length = y) Iff.rfl, e3]
        simp
  · have hi' : i = r.2.1 := by dsimp only at e1; omega
    replace hfine : fine = true ↔ ∀ (j : Nat) row y, T[j]? = some row → rt[j]? = some y → dotI row xs up.length = y := hfine.trans ⟨fun q j row y h1 h2 => q j (by have := (List.getElem?_eq_some_iff.1 h1).1; omega) row y h1 h2, fun q j _ => q j⟩
    refine br_mk (fun e2 => ⟨true, rfl, ⟨fun _ => ⟨xs, toPt hxl hin (hfine.1 e2)⟩, fun _ => rfl⟩, Jw.2.2⟩) (fun e2 => ?_)
    have hnot : ¬ Pt T rt (zs up.length) up xs := fun q => by
      have := hfine.2 fun j row y h1 h2 => by rw [← hxl]; exact q.rows j row y h1 h2
      rw [e2] at this; cases this
    have htill : ∀ ys : List Int, ys.length = up.length → InB up ys → oN up ys up.length ≤ oN up xs up.length → ¬ Pt T rt (zs up.length) up ys := fun ys hyl hy hle => by
      rcases Int.lt_or_eq_of_le hle with q | q
      · exact hbefore ys hyl hy q
      · have : ys = xs := ext_getD (by omega) fun k hk => o_inj hy hin up.length q k (by omega)
        rw [this]; exact hnot
    refine join_mk (fun s w' => ∃ a : Nat, s.1 = (a : Int) ∧ a ≤ up.length ∧ (∀ k, k < a → xs.getD k 0 = up.getD k 0) ∧ (a < up.length → xs.getD a 0 ≠ up.getD a 0) ∧ ∃ ys : List Int, ys.length = up.length ∧ (∀ k, k < a → ys.getD k 0 = 0) ∧ (∀ k, a ≤ k → ys.getD k 0 = xs.getD k 0) ∧ J ys w') (fun K hK => ?_) ?_
    · refine loop_gh (G := Nat × List Int) (fun g s w' => s.1 = (g.1 : Int) ∧ g.1 ≤ up.length ∧ (∀ k, k < g.1 → xs.getD k 0 = up.getD k 0) ∧ g.2.length = up.length ∧ (∀ k, k < g.1 → g.2.getD k 0 = 0) ∧ (∀ k, g.1 ≤ k → g.2.getD k 0 = xs.getD k 0) ∧ J g.2 w') (fun g => up.length - g.1) (0, xs) ⟨rfl, Nat.zero_le _, fun k hk => absurd hk (Nat.not_lt_zero _), hxl, fun k hk => absurd hk (Nat.not_lt_zero _), fun _ _ => rfl, Jw⟩ ?_
      clear Jw
      rintro ⟨a, ys⟩ ⟨s1, _⟩ w42 ⟨rfl, ha, hmax, hyl, hy0, hyx, Jw⟩ again4 hag4 _
      dsimp only at ha hmax hyl hy0 hyx Jw ⊢
      refine drw_mk fun w43 hb _ => ?_
      replace Jw := Jup Jw hb
      refine br_dec (fun e3 => ?_) (fun e3 => hK _ _ ⟨a, rfl, ha, hmax, fun q => absurd (by omega) e3, ys, hyl, hy0, hyx, Jw⟩)
      have ha' : a < up.length := by omega
      refine at_int tyI64 (by kernel_rfl) Jw.1.sl (j := a) rfl ha' fun x hx => ?_
      refine rd_box0 (by kernel_rfl) Jw.2.1 rfl rfl ?_
      refine at_int tyI64 (by kernel_rfl) (hf Jw.2.2).u (j := a) rfl (by omega) fun v hv => ?_
      have gx : xs.getD a 0 = x := by rw [← hyx a (Nat.le_refl _)]; exact getD_at hx
      refine br_eq (fun e4 => ?_) (fun e4 => hK _ _ ⟨a, rfl, ha, hmax, fun _ => by rw [gx, getD_at hv]; exact e4, ys, hyl, hy0, hyx, Jw⟩)
      refine set_mk tyI64 Jw.1 (j := a) rfl ha' rfl fun w50 O' hg _ => ?_
      rw [ints_set] at O'
      refine z_i64 (by omega) ?_
      refine hag4 (a + 1, ys.set a 0) _ _ ⟨rfl, ha', fun k hk => ?_, by simp [hyl], fun k hk => ?_, fun k hk => ?_, O', Jw.2.1.grown hg hne, Jw.2.2.grownAt hg had⟩ (by dsimp only; omega)
      · rcases Nat.lt_or_ge k a with q | q
        · exact hmax k q
        · have : k = a := by dsimp only at hk; omega
          subst this; rw [gx, getD_at hv]; exact e4
      · rcases Nat.lt_or_ge k a with q | q
        · rw [Off.set a ys 0 k (by omega)]; exact hy0 k q
        · have : k = a := by dsimp only at hk; omega
          subst this; rw [List.getD_eq_getElem?_getD, List.getElem?_set_self (by omega)]; rfl
      · rw [Off.set a ys 0 k (by dsimp only at hk; omega)]; exact hyx k (by dsimp only at hk; omega)
    · rintro ⟨s1, _⟩ w34 ⟨a, rfl, ha, hmax, hstop, ys, hyl, hy0, hyx, Jw⟩ _
      refine br_eq (fun e3 => ?_) (fun e3 => ?_)
      · refine ⟨false, rfl, ⟨fun q => (by cases q), fun ⟨zs', hz⟩ => ?_⟩, Jw.2.2⟩
        have ha' : a = up.length := by dsimp only at e3; omega
        subst ha'
        obtain ⟨hzl, hzi⟩ := ofPt hz
        have h1 := o_max hin up.length hmax
        have h2 := (o_bd hzi up.length).2
        exact absurd hz (htill zs' hzl hzi (by omega))
      · have ha' : a < up.length := by dsimp only at e3; omega
        have hlt : xs.getD a 0 < up.getD a 0 := by have := hstop ha'; have := hin a; omega
        refine at_int tyI64 (by kernel_rfl) Jw.1.sl (j := a) rfl ha' fun x hx => ?_
        have gx : xs.getD a 0 = x := by rw [← hyx a (Nat.le_refl _)]; exact getD_at hx
        have := hup a
        have := hin a
        refine z_i64 (by omega) ?_
        refine set_mk tyI64 Jw.1 (j := a) rfl ha' rfl fun w39 O' hg _ => ?_
        rw [ints_set] at O'
        have q0 : ∀ k, k < a → (ys.set a (x + 1)).getD k 0 = 0 := fun k hk => by rw [Off.set a ys _ k (by omega)]; exact hy0 k hk
        have q1 : (ys.set a (x + 1)).getD a 0 = xs.getD a 0 + 1 := by rw [List.getD_eq_getElem?_getD, List.getElem?_set_self (by omega), gx]; rfl
        have q2 : ∀ k, a < k → (ys.set a (x + 1)).getD k 0 = xs.getD k 0 := fun k hk => by rw [Off.set a ys _ k (by omega)]; exact hyx k (by omega)
        have hnx := o_next hin ha' hmax q0 q1 q2
        have hlast := (o_bd hin up.length).2
        refine hag (ys.set a (x + 1)) _ _ ⟨by simp [hyl], fun k => ?_, fun zs' hzl hzi hz => htill zs' hzl hzi (by omega), O', Jw.2.1.grown hg hne, Jw.2.2.grownAt hg had⟩ (by omega)
        rcases Nat.lt_trichotomy k a with q | q | q
        · rw [q0 k q]; have := hin k; omega
        · subst q; rw [q1]; omega
        · rw [q2 k q]; exact hin k
end Go.Proofs.YtajpdnphamomjaaGreat

/- The walk of IntegralNarrow. -/


namespace Go.Proofs.YtajpdnphamomjaaGreat
open Go.RowKit Go.Q Go.Q.Num Go.V

theorem narrow_tail {up : List Int} {T : List (List Int)} {rt : List Int} {x : HX} {w : World} {n : Nat} (h : SRes up T rt n x w) :
    ((∃ xs, Pt T rt (zs up.length) up xs) → x.2.2.1 = 0 ∧ ∃ xs, Sl w x.1.1 x.1.2.1 x.1.2.2 1 (ints .i64 xs) ∧ Pt T rt (zs up.length) up xs) ∧
    ((¬ ∃ xs, Pt T rt (zs up.length) up xs) → x.2.2.1 = 12 ∧ x.1 = (none, 0, 0) ∧ ∃ p : PT n, PrAt w n p x.2.1 ∧ ProofOk up T rt n p) := by
  rcases h with ⟨h1, xs, h2, h3⟩ | ⟨h1, h2, p, h3, h4⟩
  · exact ⟨fun _ => ⟨h1, xs, h2, h3⟩, fun q => absurd ⟨xs, h3⟩ q⟩
  · exact ⟨fun ⟨xs, q⟩ => absurd q (right_sound n p _ _ h4.2.2.2 (by simp) rfl), fun _ => ⟨h1, h2, p, h3, h4⟩⟩

end Go.Proofs.YtajpdnphamomjaaGreat

/- The conditions of functions, printed by our tool; each is checked against the code by the kernel. -/



namespace Go.Proofs
open Go Go.V Go.RowKit
open Tryz (prog)
set_option maxRecDepth 100000
def S8 (s_0a : OA) (s_0n s_0c : Nat) (s_1a : OA) (s_1n s_1c : Nat) (s_2a : OA) (s_2n s_2c : Nat) (w0 : World) (R : KR) : Prop :=
 wr prog (Instr.box 29 (.agg #[.slice s_0a s_0n s_0c, .slice s_1a s_1n s_1c, .slice s_2a s_2n s_2c])) oA w0 fun (x1 : Addr) w2 =>
 loop (T := TF) (1, 0, ()) w2 fun (g3 : TF → World → Prop) (s4 : TF) w5 => ∀ _ : NV,
 rd prog (jL 26 x1) oS w5 fun (x6 : Hd3) =>
 br (decide (s4.2.1 < ((x6.2.1 : Nat) : Int))) (rd prog (jL 26 x1) oS w5 fun (x7 : Hd3) =>
 rdp prog (jI 26 x7 s4.2.1) oA fun (x8 : Addr) =>
 rd prog (jL 2 x8) oI w5 fun (x9 : Int) =>
 br (decide (x9 > 1000)) (R (ji 1000) w5)
 (rd prog (jL 26 x1) oS w5 fun (x10 : Hd3) =>
 rdp prog (jI 26 x10 s4.2.1) oA fun (x11 : Addr) =>
 rd prog (jL 2 x11) oI w5 fun (x12 : Int) =>
 br (decide (x12 < 0)) (R (ji 1000) w5)
 (rd prog (jL 26 x1) oS w5 fun (x13 : Hd3) =>
 rdp prog (jI 26 x13 s4.2.1) oA fun (x14 : Addr) =>
 rd prog (jL 2 x14) oI w5 fun (x15 : Int) =>
 z (IntKind.wrap .i64 (x15 + 1)) fun (z16 : Int) =>
 z (IntKind.wrap .i64 (s4.1 * z16)) fun (z17 : Int) =>
 br (decide (z17 > 1000)) (R (ji 1000) w5)
 (z (IntKind.wrap .i64 (s4.2.1 + 1)) fun (z18 : Int) =>
 g3 (z17, z18, ()) w5))))
 (R (ji s4.1) w5)
def H8 : Hints := ⟨[(2, 0, [(3, (.one (.int .i64))), (4, (.one (.int .i64)))])], [], [], []⟩
theorem S8_calls (s_0a : OA) (s_0n s_0c : Nat) (s_1a : OA) (s_1n s_1c : Nat) (s_2a : OA) (s_2n s_2c : Nat) (w0 : World) (R : KR) (h : S8 s_0a s_0n s_0c s_1a s_1n s_1c s_2a s_2n s_2c w0 R) : Calls prog 8 #[.agg #[.slice s_0a s_0n s_0c, .slice s_1a s_1n s_1c, .slice s_2a s_2n s_2c]] w0 (ret R) :=
 vcFn_sound (H := H8) follows_ Tryz.func8 (Eq.mpr (by kernel_rfl) h)
end Go.Proofs

/- The walk of IntegralDecides. -/




namespace Go.Proofs.YtajpdnphamomjaaGreat
open Go.RowKit Go.Q Go.Q.Num Go.V

theorem made_okI {up : List Int} {T : List (List Int)} {rt : List Int} {v r m : Nat} (h : MadeS up T rt v r m) (hv : v ≤ 20) (hr : r ≤ 20) (hm : m ≤ 10000) : sysE up T rt = 0 := by
  have h1 := h.n2
  have h2 := h.t
  refine sysE_0 (by omega) (by omega) ⟨fun x hx => ?_, fun x hx => ?_, fun q hq x hx => ?_⟩ ⟨h.r, fun q hq => (h.row q hq).1⟩
  · have := h.up x hx; omega
  · have := h.rt x hx; omega
  · have := (h.row q hq).2 x hx; omega
theorem sz_431 {up : List Int} {T : List (List Int)} {rt : List Int} {n : Nat} {p : PT n} (h : ProofOk up T rt n p) : szP n p ≤ 4 ^ 31 := Nat.le_trans (m := 2000) (by have := h.2.1; omega) (by decide)
theorem madePts (u r b : Hdr) (up : List Int) (T : List (List Int)) (rt : List Int) (w : World) (H : Sys w u r b up T rt) (hok : sysE up T rt = 0) :
    call Tryz.prog 8 [sysv u r b] (.one (.one (.int .i64))) w (fun (x : Int) w' => (x ≤ 500 → ptsN (zs up.length) up up.length ≤ 500) ∧ bel w w') := by
  refine call_of (S8_calls u.1 u.2.1 u.2.2 r.1 r.2.1 r.2.2 b.1 b.2.1 b.2.2 w _ ?_)
  unfold S8
  obtain ⟨hul, hTl, hR, hA⟩ := sysE_ok hok
  have hu := H.u.int
  have hb := ok_zero hR.1
  refine wr_box fun x1 w2 X1 h2 _ _ => ?_
  replace X1 : Box w2 x1 (sysc u r b) := X1
  replace H := H.up h2
  refine loop_upA u.2.1 (fun i n w' => w' = w2 ∧ n = ptsN (zs up.length) up i ∧ n ≤ 1000) ⟨rfl, rfl, by omega⟩ ?_
  rintro i n w' hi ⟨rfl, rfl, hn⟩ again hag _
  have hp := pts_pos hb i
  have big : ∃ y : Int, Value.int .i64 1000 = (RS.one (.one (.int .i64))).val y ∧ (y ≤ 500 → ptsN (zs up.length) up up.length ≤ 500) ∧ bel w w' := ⟨1000, rfl, fun q => absurd q (by decide), h2⟩
  refine rd_box0 (by kernel_rfl) X1 rfl rfl ?_
  refine br_dec (fun e => ?_) (fun e => ?_)
  · dsimp only at e
    obtain ⟨y, hy⟩ : ∃ y, up[i]? = some y := ⟨_, List.getElem?_eq_getElem (by omega)⟩
    have hyb := hR.1 y (mem_at hy)
    have at' : ∀ {K : Int → Prop}, K y → rdp Tryz.prog (Instr.indexAt 26 (.slice u.1 u.2.1 u.2.2) (.int .i64 (i : Int))) (.one .addr) fun ad => rd Tryz.prog (Instr.loadAt 2 (.pointer (some ad))) (.one (.int .i64)) w' K := fun hK => at_int tyI64 (by kernel_rfl) H.u rfl (by omega) fun z hz => by rw [hy] at hz; cases hz; exact hK
    have hstep : ptsN (zs up.length) up (i + 1) = ptsN (zs up.length) up i * (y + 1) := by
      show ptsN (zs up.length) up i * (up.getD i 0 - (zs up.length).getD i 0 + 1) = _
      rw [zs_getD, List.getD_eq_getElem?_getD, hy]; simp
    refine rd_box0 (by kernel_rfl) X1 rfl rfl ?_
    refine at' ?_
    refine br_dec (fun _ => big) (fun e2 => ?_)
    refine rd_box0 (by kernel_rfl) X1 rfl rfl ?_
    refine at' ?_
    refine br_dec (fun _ => big) (fun _ => ?_)
    refine rd_box0 (by kernel_rfl) X1 rfl rfl ?_
    refine at' ?_
    refine z_i64 (by omega) ?_
    have hle : ptsN (zs up.length) up i * (y + 1) ≤ 1000 * 1001 := Int.mul_le_mul hn (by omega) (by omega) (by omega)
    have hge : 0 ≤ ptsN (zs up.length) up i * (y + 1) := Int.mul_nonneg (by omega) (by omega)
    refine z_i64 (by dsimp only; omega) ?_
    refine br_dec (fun _ => big) (fun e3 => ?_)
    dsimp only at e3
    refine z_i64 (by dsimp only; omega) ?_
    exact hag _ _ (by omega) ⟨rfl, hstep.symm, by dsimp only; omega⟩
  · dsimp only at e
    have hi' : i = up.length := by omega
    subst hi'
    exact ⟨ptsN (zs up.length) up up.length, rfl, id, h2⟩

set_option maxHeartbeats 3200000 in
theorem decides (l : Hdr) (L : List Int) (w : World) (HL : Sl w l.1 l.2.1 l.2.2 1 (ints .i64 L)) (hL : ∀ x ∈ L, I64 x) :
    Calls Tryz.prog 3 #[.slice l.1 l.2.1 l.2.2] w (fun e w' => e = .returned (.bool true) ∧ Below w.heap.size w w') := by
  refine Calls.mono (S3_calls l.1 l.2.1 l.2.2 w (fun v w' => v = .bool true ∧ bel w w') ?_) (by rintro e w' ⟨v, rfl, rfl, hb⟩; exact ⟨rfl, hb⟩)
  unfold S3
  refine wr_box fun x1 w2 TB h2 hx1 _ => ?_
  have ht := tape_new HL hL TB h2 hx1
  refine call_mono (systemF 4 3 8 ht (by omega) (by omega) (by omega) (by omega) (by omega)) ?_
  rintro ((x3 : Hdr × Hdr × Hdr × Unit)) w4 ⟨up, T, rt, p, MS, HS, _, _, hg4⟩
  obtain ⟨u, r, b, _⟩ := x3
  dsimp only at HS
  have hok := made_okI MS (by omega) (by omega) (by omega)
  obtain ⟨hul, _, _, _⟩ := sysE_ok hok
  have H := HS w4 (grown_refl _ _)
  have h : bel w w4 := h2.grownAt hg4 (by omega)
  refine var_mk (v := sysv u r b) (z := .agg #[.slice none 0 0, .slice none 0 0, .slice none 0 0]) (by kernel_rfl) (by kernel_rfl) rfl rfl fun x5 w7 X hb _ => ?_
  replace X : Box w7 x5 (sysc u r b) := X
  replace H := H.up hb; replace h := h.trans hb
  refine rd_boxN X (by kernel_rfl) rfl ?_
  refine call_mono (madePts u r b up T rt w7 H hok) ?_
  rintro (x9 : Int) w10 ⟨hpts, hb⟩
  replace X := X.up hb; replace H := H.up hb; replace h := h.trans hb
  refine rd_boxN X (by kernel_rfl) rfl ?_
  refine call_mono (solveAll u r b up T rt w10 H hok MS.n1) ?_
  rintro (x12 : HX) w13 ⟨R, hb⟩
  replace X := X.up hb; replace H := H.up hb; replace h := h.trans hb
  refine var_mk (z := .agg zpc.toArray) (by kernel_rfl) (by kernel_rfl) rfl rfl fun x14 w16 X14 hb _ => ?_
  replace X14 : Box w16 x14 (prc x12.2.1) := X14
  replace X := X.up hb; replace H := H.up hb; replace h := h.trans hb; replace R := R.up hb
  clear hb
  -- the checks of the reference
  have chkOK : ∀ {w' : World} {k : Bool → World → Prop} {xs : List Int}, bel w16 w' → Sl w' x12.1.1 x12.1.2.1 x12.1.2.2 1 (ints .i64 xs) → Pt T rt (zs up.length) up xs → (∀ w'', bel w16 w'' → k true w'') →
      rd Tryz.prog (Instr.loadAt 29 (.pointer (some x5))) (.agg [.slice, .slice, .slice]) w' fun x20 => call Tryz.prog 10 [.agg #[.slice x20.1.1 x20.1.2.1 x20.1.2.2, .slice x20.2.1.1 x20.2.1.2.1 x20.2.1.2.2, .slice x20.2.2.1.1 x20.2.2.1.2.1 x20.2.2.1.2.2], .slice x12.1.1 x12.1.2.1 x12.1.2.2] (.one (.one .bool)) w' k := by
    intro w' k xs hb S P hk
    obtain ⟨sol, sl, si⟩ := pt_sol hok P
    refine rd_boxN (X.up hb) (by kernel_rfl) rfl ?_
    refine call_mono (chk12 u r b x12.1 up T rt xs w' (H.up hb) S si (by omega)) ?_
    rintro y w'' ⟨hy, hb2⟩
    rw [hy.2 sol]
    exact hk w'' (hb.trans hb2)
  have chkNo : ∀ {w' : World} {k : Bool → World → Prop} {n : Nat} {p : PT n}, bel w16 w' → n ≤ 200 → PrAt w' n p x12.2.1 → ProofOk up T rt n p → (∀ w'', bel w16 w'' → k true w'') →
      rd Tryz.prog (Instr.loadAt 29 (.pointer (some x5))) (.agg [.slice, .slice, .slice]) w' fun x20 => rd Tryz.prog (Instr.loadAt 35 (.pointer (some x14))) (.agg [.int .i64, .slice, .int .i64, .int .i64, .slice]) w' fun x24 => call Tryz.prog 11 [.agg #[.slice x20.1.1 x20.1.2.1 x20.1.2.2, .slice x20.2.1.1 x20.2.1.2.1 x20.2.1.2.2, .slice x20.2.2.1.1 x20.2.2.1.2.1 x20.2.2.1.2.2], prv x24] (.one (.one .bool)) w' k := by
    intro w' k n p hb hn P ok hk
    refine rd_boxN (X.up hb) (by kernel_rfl) rfl ?_
    refine rd_boxN (X14.up hb) (by kernel_rfl) rfl ?_
    refine call_mono (chkP12 u r b up T rt (by omega) n (by omega) p (sz_431 ok) x12.2.1 w' P (H.up hb)) ?_
    rintro y w'' ⟨hy, hb2⟩
    rw [hy.2 ok]
    exact hk w'' (hb.trans hb2)
  refine join_mk (fun _ w' => w' = w16 ∧ ∃ n, n ≤ 200 ∧ SRes up T rt n x12 w16) (fun K hK => ?_) ?_
  · rcases R with R | ⟨e1, e2, e3⟩
    · have ne8 : ¬ x12.2.2.1 = 8 := by
        obtain ⟨n, _, ⟨q, _⟩ | ⟨q, _⟩⟩ := R <;> rw [q] <;> decide
      exact br_eq (fun q => absurd q ne8) (fun _ => hK _ _ ⟨rfl, R⟩)
    · refine br_eq (fun _ => ?_) (fun q => absurd e1 q)
      refine br_dec (fun _ => ⟨by rw [e2]; rfl, h⟩) (fun q => absurd (hpts (by omega)) e3)
  · rintro _ w19 ⟨rfl, n, hn, R⟩ _
    refine br_dec (fun _ => ?_) (fun _ => ?_)
    · rcases R with ⟨q0, xs, S, P⟩ | ⟨q0, _, p, P, ok⟩
      · refine br_eq (fun _ => ?_) (fun q => absurd q0 q)
        refine chkOK (Below.refl _ _) S P fun w'' hb => ?_
        exact br_t rfl ⟨rfl, h.trans hb⟩
      · refine br_eq (fun q => absurd (q.symm.trans q0) (by decide)) (fun _ => ?_)
        refine br_eq (fun _ => ?_) (fun q => absurd q0 q)
        exact chkNo (Below.refl _ _) hn P ok fun w'' hb => ⟨rfl, h.trans hb⟩
    · refine rd_boxN X (by kernel_rfl) rfl ?_
      refine call_mono (solvableF u r b up T rt w19 H hok) ?_
      rintro x32 w33 ⟨hx, hb⟩
      obtain ⟨R1, R2⟩ := narrow_tail (R.up hb)
      refine br_mk (fun e1 => ?_) (fun e1 => ?_)
      · obtain ⟨q0, xs, S, P⟩ := R1 (hx.1 e1)
        refine br_eq (fun _ => ?_) (fun q => absurd q0 q)
        exact chkOK hb S P fun w'' hb2 => ⟨rfl, h.trans hb2⟩
      · obtain ⟨q0, qn, p, P, ok⟩ := R2 (fun q => by have := hx.2 q; rw [e1] at this; cases this)
        refine br_eq (fun _ => ?_) (fun q => absurd q0 q)
        refine chkNo hb hn P ok fun w'' hb2 => ?_
        exact br_t rfl ⟨by rw [qn]; rfl, h.trans hb2⟩
end Go.Proofs.YtajpdnphamomjaaGreat
