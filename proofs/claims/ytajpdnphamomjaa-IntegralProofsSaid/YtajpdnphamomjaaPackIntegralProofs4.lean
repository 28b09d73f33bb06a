import Derived.KernelRfl
import Derived.Test.YtajpdnphamomjaaPackIntegralProofs3

/- Whole numbers as fractions; the reference's fractions as triples; comparisons. -/


namespace Go.Proofs.Ytajpdnphamomjaa
open Go.RowKit Go.Q Go.Q.Num Go.V

/-! ### the reference's fractions -/
abbrev NR (w : World) (s : Hd) (x : Nat) : Prop := NumAt 1000000000 .u64 w s.1 s.2.1 s.2.2 x
abbrev BX (L : Nat) (w : World) (t : TE) (r : Rat) : Prop := t.1 = decide (r.num < 0) ∧ NR w t.2.1 r.num.natAbs ∧ NR w t.2.2.1 r.den ∧ t.2.1.2.1 ≤ L ∧ t.2.2.1.2.1 ≤ L
theorem BX.up {L : Nat} {w w' : World} {t : TE} {r : Rat} (h : BX L w t r) (hb : bel w w') : BX L w' t r := ⟨h.1, h.2.1.kept hb, h.2.2.1.kept hb, h.2.2.2⟩
theorem BX.at {L : Nat} {w : World} {t : TE} {r : Rat} (h : BX L w t r) : BigAt L w (exV t) r := by
  obtain ⟨h1, h2, h3, h4, h5⟩ := h
  exact ⟨_, _, _, _, _, _, by rw [← h1], h2, h3, h4, h5⟩
theorem BX.le {L M : Nat} {w : World} {t : TE} {r : Rat} (h : BX L w t r) (hL : L ≤ M) : BX M w t r := ⟨h.1, h.2.1, h.2.2.1, Nat.le_trans h.2.2.2.1 hL, Nat.le_trans h.2.2.2.2 hL⟩
theorem EX.le {L M : Nat} {w : World} {t : TE} {r : Rat} (h : EX L w t r) (hL : L ≤ M) : EX M w t r := ⟨h.1, h.2.1, h.2.2.1, Nat.le_trans h.2.2.2.1 hL, Nat.le_trans h.2.2.2.2 hL⟩
theorem callBX {f : FuncId} {args : List Value} {w : World} {L : Nat} {r : Rat} (h : Calls Try.prog f args.toArray w (QBig L r w)) : call Try.prog f args (.one sBig) w (fun (x : TE) w' => BX L w' x r ∧ Fr w x.2.1.1 ∧ Fr w x.2.2.1.1 ∧ bel w w') :=
  Calls.mono h fun _ _ ⟨a, n, c, b, m, d, he, h1, h2, h3, h4, h5, h6, h7⟩ => ⟨(decide (r.num < 0), (a, n, c), (b, m, d), ()), he, ⟨rfl, h1, h2, h3, h4⟩, h6, h7, h5⟩
theorem timesX (t u : TE) (r s : Rat) (L M : Nat) (w : World) (h1 : BX L w t r) (h2 : BX M w u s) (hL : L ≤ 1000000) (hM : M ≤ 1000000) :
    call Try.prog 69 [exV t, exV u] (.one sBig) w (fun (x : TE) w' => BX (L + M + 1) w' x (r * s) ∧ Fr w x.2.1.1 ∧ Fr w x.2.2.1.1 ∧ bel w w') :=
  callBX (times10 _ _ _ _ _ _ w h1.at h2.at (by omega) (by omega))
theorem plusX (t u : TE) (r s : Rat) (L M : Nat) (w : World) (h1 : BX L w t r) (h2 : BX M w u s) (hL : L ≤ 1000000) (hM : M ≤ 1000000) :
    call Try.prog 62 [exV t, exV u] (.one sBig) w (fun (x : TE) w' => BX (L + M + 2) w' x (r + s) ∧ Fr w x.2.1.1 ∧ Fr w x.2.2.1.1 ∧ bel w w') :=
  callBX (plusAny _ _ _ _ _ _ w h1.at h2.at (by omega) (by omega))
theorem signX (t : TE) (r : Rat) (L : Nat) (w : World) (h1 : BX L w t r) (hL : L ≤ 1000000) : call Try.prog 72 [exV t] (.one (.one (.int .i64))) w (fun x w' => x = rsign r ∧ bel w w') :=
  callI (sign10 _ _ _ w h1.at (by omega))
theorem makeX {n d : Int} (w : World) (h : IsFrac n d) : call Try.prog 63 [fracv n d] (.one sBig) w (fun (x : TE) w' => BX 3 w' x (ratv n d) ∧ Fr w x.2.1.1 ∧ Fr w x.2.2.1.1 ∧ bel w w') := by
  have := callBX (f := 63) (args := [frac (ratv n d)]) (make10 (ratv n d) w (ratv_frac h).2.2)
  rw [frac_ratv h] at this; exact this
theorem turnedX (t : TE) (r : Rat) (L : Nat) (w : World) (h1 : BX L w t r) (hL : L ≤ 1000000) : call Try.prog 66 [exV t] (.one sBig) w (fun (x : TE) w' => BX L w' x (-r) ∧ bel w w') := by
  refine Calls.mono (turned10 _ _ _ w h1.at (by omega)) ?_
  rintro e w' ⟨v, he, ⟨a, n, c, b, m, d, hv, q1, q2, q3, q4⟩, hb⟩
  exact ⟨((decide ((-r).num < 0), (a, n, c), (b, m, d), ()) : TE), by rw [he, hv]; rfl, ⟨rfl, q1, q2, q3, q4⟩, hb⟩
theorem tyNum : TyS Try.prog 73 76 (.int .u64 0) 1 8 := ⟨by kernel_rfl, by kernel_rfl⟩
theorem dig1 : Dig 1000000000 [1] := ⟨by intro d hd; simp at hd; omega, by intro x hx; simp at hx; omega⟩
theorem callN' {f : FuncId} {args : List Value} {w : World} {x L : Nat} (h : Calls Try.prog f args.toArray w (QNum 1000000000 .u64 x L w)) : call Try.prog f args (.one (.one .slice)) w (fun (v : Hd) w' => NR w' v x ∧ v.2.1 ≤ L ∧ Fr w v.1 ∧ bel w w') :=
  Calls.mono h fun _ _ ⟨a, n, c, he, h1, h2, h3, h4⟩ => ⟨(a, n, c), he, h1, h2, h4, h3⟩
theorem whole_num (n : Int) : (n : Rat).num = n ∧ (n : Rat).den = 1 := ⟨rfl, rfl⟩
theorem exV_inj {t u : TE} (h : exV t = exV u) : t = u := by
  obtain ⟨a, ⟨b1, b2, b3⟩, ⟨c1, c2, c3⟩, _⟩ := t
  obtain ⟨a', ⟨b1', b2', b3'⟩, ⟨c1', c2', c3'⟩, _⟩ := u
  simp only [exV, Value.agg.injEq, Array.mk.injEq, List.cons.injEq, Value.bool.injEq, Value.slice.injEq, and_true] at h
  obtain ⟨rfl, ⟨rfl, rfl, rfl⟩, rfl, rfl, rfl⟩ := h
  rfl
theorem wholeX (n : Int) (w : World) (hn : I64 n) : call Try.prog 83 [.int .i64 n] (.one sBig) w (fun (x : TE) w' => BX 3 w' x (n : Rat) ∧ Fr w x.2.1.1 ∧ Fr w x.2.2.1.1 ∧ bel w w') := by
  refine call_of (S83_calls n w _ ?_)
  unfold S83
  refine wr_alloc (z := .agg #[.bool false, .slice none 0 0, .slice none 0 0]) (by kernel_rfl) fun x1 w2 X h hx _ => ?_
  have hne : w.heap.size ≤ x1.block := by omega
  refine call_mono (callN' (of10 n w2 hn.1 hn.2)) ?_
  rintro (o : Hd) w4 ⟨hO, hl, hF, h'⟩
  have fO : Fr w o.1 := hF.mono h.size
  have aO : Apart x1 o n.natAbs := Apart.fr X hF
  replace h := h.trans h'; replace X := X.up h'; clear h'
  refine wr_lit tyNum #[.int .u64 1] (fill_one 1 (.int .u64 1) _ rfl (by simp)) (by omega) (by omega) rfl (by unfold maxLen; omega) fun ad w6 O h' hbl _ => ?_
  have hN : NR w6 (some ad, 1, 1) 1 := ⟨[1], (O w4.heap.size (Nat.le_refl _)).sl, dig1, rfl⟩
  have aN : Apart x1 (some ad, 1, 1) 1 := fun a ha _ => by cases ha; have := X.lt; omega
  have fN : Fr w (some ad) := fun a ha => by cases ha; have := h.size; omega
  replace hO : NR w6 o n.natAbs := NumAt.kept hO h'
  replace h := h.trans h'; replace X := X.up h'; clear h'
  refine wu_box X (by kernel_rfl) (Nat.le_refl 3) rfl fun w7 X hg _ => ?_
  have hO' : NR w7 o n.natAbs := NumAt.grown hO hg fun a ha hv _ e => aO a ha hv (by injection e)
  have hN' : NR w7 (some ad, 1, 1) 1 := NumAt.grown hN hg fun a ha hv _ e => aN a ha hv (by injection e)
  exact rd_boxV X (by kernel_rfl) rfl ⟨((decide (n < 0), o, (some ad, 1, 1), ()) : TE), rfl, ⟨rfl, hO', hN', hl, by show 1 ≤ 3; omega⟩, fO, fN, h.grownAt hg hne⟩
theorem wholeF (n : Int) (w : World) (hn : I64 n) : call Try.prog 81 [.int .i64 n] (.one sBig) w (fun (x : TE) w' => EX 2 w' x (n : Rat) ∧ Fr w x.2.1.1 ∧ Fr w x.2.2.1.1 ∧ bel w w') := by
  refine call_of (S81_calls n w _ ?_)
  unfold S81
  refine wr_alloc (z := .agg #[.bool false, .slice none 0 0, .slice none 0 0]) (by kernel_rfl) fun x1 w2 X h hx _ => ?_
  have hne : w.heap.size ≤ x1.block := by omega
  refine call_mono (callU (sizeF n w2 hn.1 hn.2)) ?_
  rintro _ w3 ⟨rfl, h'⟩
  replace h := h.trans h'; replace X := X.up h'; clear h'
  refine call_mono (callF' (natOfF n.natAbs w3 (by omega))) ?_
  rintro (o : Hd) w4 ⟨hO, hl, hF, h'⟩
  have fO : Fr w o.1 := hF.mono h.size
  have aO : Apart x1 o n.natAbs := Apart.fr X hF
  replace h := h.trans h'; replace X := X.up h'; clear h'
  refine call_mono (callF' (natOfF 1 w4 (by omega))) ?_
  rintro (d : Hd) w6 ⟨hN, hl2, hF2, h'⟩
  have fN : Fr w d.1 := hF2.mono h.size
  have aN : Apart x1 d 1 := Apart.fr X hF2
  replace hO := hO.up h'
  replace h := h.trans h'; replace X := X.up h'; clear h'
  refine wu_box X (by kernel_rfl) (Nat.le_refl 3) rfl fun w7 X hg _ => ?_
  exact rd_boxV X (by kernel_rfl) rfl ⟨((decide (n < 0), o, d, ()) : TE), rfl, ⟨rfl, aO.grown hO hg, aN.grown hN hg, hl, hl2⟩, fO, fN, h.grownAt hg hne⟩
theorem lessX (t u : TE) (r s : Rat) (L M : Nat) (w : World) (h1 : BX L w t r) (h2 : BX M w u s) (hL : L ≤ 400000) (hM : M ≤ 400000) :
    call Try.prog 82 [exV t, exV u] (.one (.one .bool)) w (fun x w' => x = decide (rsign (r + -s) < 0) ∧ bel w w') := by
  obtain ⟨t0, tn, td, _⟩ := t
  obtain ⟨u0, un, ud, _⟩ := u
  refine call_of (S82_calls t0 tn.1 tn.2.1 tn.2.2 td.1 td.2.1 td.2.2 u0 un.1 un.2.1 un.2.2 ud.1 ud.2.1 ud.2.2 w _ ?_)
  unfold S82
  refine wr_box fun x1 w2 X h _ _ => ?_
  refine wr_box fun x3 w4 Y h' _ _ => ?_
  replace h := h.trans h'; replace X := X.up h'; clear h'
  refine drw_mk fun w5 h' _ => ?_
  replace h := h.trans h'; replace X := X.up h'; replace Y := Y.up h'; clear h'
  refine flEx_mk (fun _ _ v w' => ∃ t : TE, v = exV t ∧ BX M w' t (-s)) (fun _ _ _ _ _ ⟨t, e, q⟩ hb => ⟨t, e, q.up hb⟩) ?_
  refine rd_boxN X (by kernel_rfl) rfl ?_
  refine rd_boxN Y (by kernel_rfl) rfl ?_
  refine flc_mk (fun w9 hb _ => call_mono (turnedX (u0, un, ud, ()) s M w9 (h2.up (h.trans hb)) (by omega)) fun x w' ⟨q, hb'⟩ => ⟨hb', x, rfl, q⟩) (fun (x13 : TE) => ?_)
  refine flend_mk fun w14 hb hp => ?_
  obtain ⟨⟨t', ht, q⟩, _⟩ := hp
  have ht' := exV_inj (t := x13) ht
  subst ht'
  refine call_mono (plusX (t0, tn, td, ()) x13 r (-s) L M w14 (h1.up (h.trans hb)) q (by omega) (by omega)) ?_
  rintro (y : TE) w17 ⟨hy, _, _, h'⟩
  refine call_mono (signX y _ _ w17 hy (by omega)) ?_
  rintro _ w19 ⟨rfl, h2'⟩
  exact ⟨_, rfl, rfl, ((h.trans hb).trans h').trans h2'⟩

/-! ### signs and comparisons -/
theorem num_neg {r : Rat} : r.num < 0 ↔ r < 0 := by
  have := Rat.num_nonneg (q := r)
  rw [← Rat.not_le, ← this]; omega
theorem rsign_neg {r : Rat} : rsign r < 0 ↔ r < 0 := by
  rw [← num_neg]; unfold rsign
  split
  · omega
  · split <;> omega
theorem rsign_zero {r : Rat} : rsign r = 0 ↔ r = 0 := by
  rw [← Rat.num_eq_zero]; unfold rsign
  split
  · omega
  · split <;> omega
theorem cmpq_gt0 {r s : Rat} : cmpq r s > 0 ↔ s < r := by
  rw [Rat.lt_iff]; unfold cmpq cmpi
  split
  · omega
  · split <;> omega
theorem cmpq_lt0 {r s : Rat} : cmpq r s < 0 ↔ r < s := by
  rw [Rat.lt_iff]; unfold cmpq cmpi
  split
  · omega
  · split <;> omega
theorem cmpq_eq0 {r s : Rat} : cmpq r s = 0 ↔ r = s := by
  have h1 := cmpq_gt0 (r := r) (s := s)
  have h2 := cmpq_lt0 (r := r) (s := s)
  constructor
  · intro h
    have a : ¬ s < r := fun q => by have := h1.2 q; omega
    have b : ¬ r < s := fun q => by have := h2.2 q; omega
    grind
  · rintro rfl
    have a : ¬ cmpq r r > 0 := fun q => by have := h1.1 q; grind
    have b : ¬ cmpq r r < 0 := fun q => by have := h2.1 q; grind
    omega
theorem less_iff {r s : Rat} : rsign (r + -s) < 0 ↔ r < s := by rw [rsign_neg]; grind
theorem same_iff {r s : Rat} : rsign (r + -s) = 0 ↔ r = s := by rw [rsign_zero]; grind
/-- comparing of the program's fractions -/
theorem cmpX (t u : TE) (r s : Rat) (L M : Nat) (w : World) (h1 : EX L w t r) (h2 : EX M w u s) (hL : L ≤ 1000000) (hM : M ≤ 1000000) : call Try.prog 57 [exV t, exV u] (.one (.one (.int .i64))) w (fun x w' => x = cmpq r s ∧ bel w w') := by
  have a : EX (max L M) w t r := h1.le (by omega)
  have b : EX (max L M) w u s := h2.le (by omega)
  exact callI (cmpE _ _ r s (max L M) w a.at b.at (by omega))
theorem fromX {n d : Int} (w : World) (h : IsFrac n d) : call Try.prog 56 [fracv n d] (.one sBig) w (fun (x : TE) w' => EX 2 w' x (ratv n d) ∧ bel w w') := by
  have := callE (f := 56) (args := [frac (ratv n d)]) ((fromF (ratv n d) w (ratv_frac h).2.2).mono fun _ _ h => h.at)
  rw [frac_ratv h] at this; exact this
end Go.Proofs.Ytajpdnphamomjaa

/- When numbers are a solution: the reference. -/

namespace Go.Proofs.Ytajpdnphamomjaa
open Go.RowKit Go.Q Go.Q.Num Go.V

/-- the first k terms of a combination -/
def dotT (r : List Int) (L : List (Int × Int)) (k : Nat) : Rat :=
  match r[k]?, L[k]? with
  | some c, some p => ratv p.1 p.2 * (c : Rat)
  | _, _ => 0
def dotN (r : List Int) (L : List (Int × Int)) : Nat → Rat
  | 0 => 0
  | k + 1 => dotN r L k + dotT r L k
structure SolP (up : List Int) (T : List (List Int)) (rt : List Int) (L : List (Int × Int)) : Prop where
  ok : sysE up T rt = 0
  len : L.length = up.length
  each : ∀ (k : Nat) p u, L[k]? = some p → up[k]? = some u → IsFrac p.1 p.2 ∧ ¬ p.1 < 0 ∧ ¬ ((u : Rat) < ratv p.1 p.2)
  rows : ∀ (i : Nat) r b, T[i]? = some r → rt[i]? = some b → dotN r L up.length = (b : Rat)
theorem dotT_at {r : List Int} {L : List (Int × Int)} {k : Nat} {c : Int} {p : Int × Int} (h1 : r[k]? = some c) (h2 : L[k]? = some p) : dotT r L k = ratv p.1 p.2 * (c : Rat) := by unfold dotT; rw [h1, h2]
theorem ratv_zero (d : Int) : ratv 0 d = 0 := by unfold ratv; exact Rat.zero_mkRat _
theorem dotT_p0 {r : List Int} {L : List (Int × Int)} {k : Nat} {c : Int} {p : Int × Int} (h1 : r[k]? = some c) (h2 : L[k]? = some p) (h : p.1 = 0) : dotT r L k = 0 := by
  rw [dotT_at h1 h2, h, ratv_zero, Rat.zero_mul]
theorem dotT_c0 {r : List Int} {L : List (Int × Int)} {k : Nat} {c : Int} {p : Int × Int} (h1 : r[k]? = some c) (h2 : L[k]? = some p) (h : c = 0) : dotT r L k = 0 := by
  rw [dotT_at h1 h2, h]; exact Rat.mul_zero _
abbrev boxc (t : TE) : List Value := [.bool t.1, .slice t.2.1.1 t.2.1.2.1 t.2.1.2.2, .slice t.2.2.1.1 t.2.2.1.2.1 t.2.2.1.2.2]
/-- a fraction whose digits are not in a variable's block -/
abbrev ApT (x : Addr) (t : TE) (r : Rat) : Prop := Apart x t.2.1 r.num.natAbs ∧ Apart x t.2.2.1 r.den
theorem ApT.fr {x : Addr} {t : TE} {r : Rat} {w : World} {cs : List Value} (X : Box w x cs) (h1 : Fr w t.2.1.1) (h2 : Fr w t.2.2.1.1) : ApT x t r := ⟨Apart.fr X h1, Apart.fr X h2⟩
theorem EX.grownA {L : Nat} {w w' : World} {t : TE} {r : Rat} {x : Addr} (h : EX L w t r) (ha : ApT x t r) (hg : w.grownBy w' (some x.block)) : EX L w' t r := ⟨h.1, ha.1.grown h.2.1 hg, ha.2.grown h.2.2.1 hg, h.2.2.2⟩
theorem BX.grown {L : Nat} {w w' : World} {t : TE} {r : Rat} {x : Addr} (h : BX L w t r) (ha : ApT x t r) (hg : w.grownBy w' (some x.block)) : BX L w' t r :=
  ⟨h.1, NumAt.grown h.2.1 hg fun a q hv _ e => ha.1 a q hv (by injection e), NumAt.grown h.2.2.1 hg fun a q hv _ e => ha.2 a q hv (by injection e), h.2.2.2⟩
theorem ApT.old {x : Addr} {t : TE} {r : Rat} {L : Nat} {w : World} (h : BX L w t r) (hx : w.heap.size ≤ x.block) : ApT x t r :=
  ⟨fun ad ha hy e => by have := NumAt.lt_heap h.2.1 hy ad ha; omega, fun ad ha hy e => by have := NumAt.lt_heap h.2.2.1 hy ad ha; omega⟩
theorem ApT.oldE {x : Addr} {t : TE} {r : Rat} {L : Nat} {w : World} (h : EX L w t r) (hx : w.heap.size ≤ x.block) : ApT x t r :=
  ⟨Apart.old h.2.1 hx, Apart.old h.2.2.1 hx⟩
/-- the first cell of a fraction of a list -/
theorem at_fst {w : World} {a : Option Addr} {n c j : Nat} {L : List (Int × Int)} {p : Int × Int} {K : Int → Prop} (H : Sl w a n c 2 (L.flatMap encF)) {i : Int} (hj : i = (j : Int)) (hp : L[j]? = some p) (hk : K p.1) :
    rdp Try.prog (Instr.indexAt 33 (.slice a n c) (.int .i64 i)) (.one .addr) fun ad => rd Try.prog (Instr.loadAt 2 (.pointer (some ad))) (.one (.int .i64)) w K :=
  idx_agg tyFracs encF_len (by omega) H hj hp fun ad h => rd_cell (by kernel_rfl) (by have := h 0 _ rfl; rwa [Go.Q.add_zero] at this) rfl hk
theorem at_frac {w : World} {a : Option Addr} {n c j : Nat} {L : List (Int × Int)} {p : Int × Int} {K : Int × Int × Unit → Prop} (H : Sl w a n c 2 (L.flatMap encF)) {i : Int} (hj : i = (j : Int)) (hp : L[j]? = some p) (hk : K (p.1, p.2, ())) :
    rdp Try.prog (Instr.indexAt 33 (.slice a n c) (.int .i64 i)) (.one .addr) fun ad => rd Try.prog (Instr.loadAt 23 (.pointer (some ad))) (.agg [.int .i64, .int .i64]) w K :=
  at_agg tyFracs agFrac encF_len (by omega) H hj hp rfl hk
theorem fr_len {w : World} {a : Option Addr} {n c : Nat} {L : List (Int × Int)} (H : Sl w a n c 2 (L.flatMap encF)) : L.length = n := by
  have := H.len
  rw [flat_len encF_len] at this
  omega
theorem i64_of {x : Int} (h : -1000000000 ≤ x ∧ x ≤ 1000000000) : I64 x := ⟨by omega, by omega⟩

set_option maxHeartbeats 1600000 in
theorem sol11 (u r b x : Hdr) (up : List Int) (T : List (List Int)) (rt : List Int) (L : List (Int × Int)) (w : World) (H : Sys w u r b up T rt) (HL : Sl w x.1 x.2.1 x.2.2 2 (L.flatMap encF)) (hI : ∀ p ∈ L, I64 p.1 ∧ I64 p.2) :
    call Try.prog 33 [sysv u r b, .slice x.1 x.2.1 x.2.2] (.one (.one .bool)) w (fun v w' => (v = true ↔ SolP up T rt L) ∧ bel w w') := by
  refine call_of (S33_calls u.1 u.2.1 u.2.2 r.1 r.2.1 r.2.2 b.1 b.2.1 b.2.2 x.1 x.2.1 x.2.2 w _ ?_)
  unfold S33
  have hu := H.u.int
  have hT := H.r.len
  have hb := H.b.int
  have hl := fr_len HL
  have no : ∀ {w' : World}, bel w w' → (SolP up T rt L → False) → ∃ v : Bool, Value.bool false = (RS.one (.one .bool)).val v ∧ (v = true ↔ SolP up T rt L) ∧ bel w w' := fun hb q => ⟨false, rfl, ⟨fun e => (Bool.noConfusion e), fun s => (q s).elim⟩, hb⟩
  refine wr_box fun x1 w2 X h _ _ => ?_
  replace X : Box w2 x1 (sysc u r b) := X
  replace H := H.up h; replace HL := HL.up h
  refine rd_boxN X (by kernel_rfl) rfl ?_
  refine call_mono (valid11 u r b up T rt w2 H) ?_
  rintro x4 w5 ⟨rfl, h'⟩
  replace h := h.trans h'; replace X := X.up h'; replace H := H.up h'; replace HL := HL.up h'; clear h'
  have kl := HL.le
  refine br_ne (fun e => no h fun s => e s.ok) (fun e0 => ?_)
  obtain ⟨v1, v2, v3, v4⟩ := sysE_ok e0
  refine rd_box0 (by kernel_rfl) X rfl rfl ?_
  refine br_ne (fun e => no h fun s => ?_) (fun e1 => ?_)
  · have := s.len; dsimp only at e; omega
  dsimp only at e1
  refine loop_up x.2.1 (fun i w' => bel w5 w' ∧ ∀ j, j < i → ∀ p u, L[j]? = some p → up[j]? = some u → IsFrac p.1 p.2 ∧ ¬ p.1 < 0 ∧ ¬ ((u : Rat) < ratv p.1 p.2)) ⟨bel.refl _, fun j h => by omega⟩ fun i w9 hi ⟨hw, hq⟩ again hag _ => ?_
  refine br_dec (fun e => ?_) (fun e => ?_)
  · dsimp only at e
    obtain ⟨p, hp⟩ : ∃ p, L[i]? = some p := ⟨_, List.getElem?_eq_getElem (by omega)⟩
    obtain ⟨uu, huu⟩ : ∃ uu, up[i]? = some uu := ⟨_, List.getElem?_eq_getElem (by omega)⟩
    have hpi := hI p (mem_at hp)
    have hui := v3.1 uu (mem_at huu)
    refine drw_mk fun w10 h' _ => ?_
    replace hw := hw.trans h'
    refine flEx_mk (fun i _ v w' => (i = 4 → v = .bool (decide (IsFrac p.1 p.2))) ∧ (i = 20 → ∃ t : TE, v = exV t ∧ BX 3 w' t (uu : Rat))) (fun _ _ _ _ _ h hb => ⟨h.1, fun e => by obtain ⟨t, q1, q2⟩ := h.2 e; exact ⟨t, q1, q2.up hb⟩⟩) ?_
    refine at_frac (HL.up hw) rfl hp ?_
    refine flc_mk (fun w14 hb _ => call_mono (callB (valid10 p.1 p.2 w14 hpi.1.1 hpi.1.2 hpi.2.1 hpi.2.2)) fun y w' ⟨hy, hb'⟩ => ⟨hb', fun _ => by rw [hy], fun e => by omega⟩) (fun x18 => ?_)
    refine br_not (fun ev => flend_mk fun w19 hb hf => no (h.trans (hw.trans hb)) fun s => ?_) (fun ev => ?_)
    · have f1 : x18 = decide (IsFrac p.1 p.2) := by have := hf.1.1 rfl; injection this
      rw [ev, decide_eq_true (s.each i p uu hp huu).1] at f1
      cases f1
    refine at_fst (HL.up hw) rfl hp ?_
    refine br_dec (fun en => flend_mk fun w23 hb hf => no (h.trans (hw.trans hb)) fun s => (s.each i p uu hp huu).2.1 en) (fun en => ?_)
    refine rd_box0 (by kernel_rfl) (X.up hw) rfl rfl ?_
    refine at_int tyI64 (by kernel_rfl) (H.up hw).u rfl (by omega) fun y hy => ?_
    rw [huu] at hy; cases hy
    refine flc_mk (fun w28 hb _ => call_mono (wholeX uu w28 (i64_of (by omega))) fun y w' ⟨hy, _, _, hb'⟩ => ⟨hb', fun e => by omega, fun _ => ⟨y, rfl, hy⟩⟩) (fun (x32 : TE) => ?_)
    refine at_frac (HL.up hw) rfl hp ?_
    refine flend_mk fun w35 hb hf => ?_
    have f1 : x18 = decide (IsFrac p.1 p.2) := by have := hf.2.1.1 rfl; injection this
    obtain ⟨t, ht, hB⟩ := hf.1.2 rfl
    have ht' := exV_inj (t := x32) ht
    subst ht'
    have hF : IsFrac p.1 p.2 := by rw [ev] at f1; exact of_decide_eq_true f1.symm
    refine call_mono (makeX w35 hF) ?_
    rintro (y : TE) w38 ⟨hy, _, _, h2'⟩
    refine call_mono (lessX x32 y _ _ 3 3 w38 (hB.up h2') hy (by omega) (by omega)) ?_
    rintro _ w40 ⟨rfl, h3'⟩
    have hw' := ((hw.trans hb).trans h2').trans h3'
    refine br_dec (fun el => no (h.trans hw') fun s => (s.each i p uu hp huu).2.2 (less_iff.1 el)) (fun el => ?_)
    refine z_i64 (by dsimp only; omega) ?_
    refine hag _ (by omega) ⟨hw', fun j hj p' u' q1 q2 => ?_⟩
    rcases Nat.lt_or_ge j i with q | q
    · exact hq j q p' u' q1 q2
    · have : j = i := by omega
      subst this
      rw [hp] at q1; cases q1
      rw [huu] at q2; cases q2
      exact ⟨hF, en, fun q => el (less_iff.2 q)⟩
  dsimp only at e
  have Q1 : ∀ (k : Nat) p u, L[k]? = some p → up[k]? = some u → IsFrac p.1 p.2 ∧ ¬ p.1 < 0 ∧ ¬ ((u : Rat) < ratv p.1 p.2) := fun k p u q1 q2 => hq k (by have := (List.getElem?_eq_some_iff.1 q1).1; omega) p u q1 q2
  clear hq hag again
  replace h := h.trans hw; replace X := X.up hw; replace H := H.up hw; replace HL := HL.up hw; clear hw hi e
  refine loop_up r.2.1 (fun i w' => bel w9 w' ∧ ∀ j, j < i → ∀ q c, T[j]? = some q → rt[j]? = some c → dotN q L up.length = (c : Rat)) ⟨bel.refl _, fun j h => by omega⟩ fun i w44 hi ⟨hw, hq⟩ again hag _ => ?_
  refine rd_box (by kernel_rfl) (X.up hw) (i := 1) rfl rfl ?_
  refine br_dec (fun e => ?_) (fun e => ?_)
  · dsimp only at e
    obtain ⟨row, hrow⟩ : ∃ row, T[i]? = some row := ⟨_, List.getElem?_eq_getElem (by omega)⟩
    obtain ⟨cc, hcc⟩ : ∃ cc, rt[i]? = some cc := ⟨_, List.getElem?_eq_getElem (by have := v4.1; omega)⟩
    have hrl := v4.2 row (mem_at hrow)
    have hci := v3.2.1 cc (mem_at hcc)
    refine call_mono (wholeX 0 w44 ⟨by omega, by omega⟩) ?_
    rintro (t0 : TE) w47 ⟨hB0, _, _, h'⟩
    refine var_mk (z := .agg #[.bool false, .slice none 0 0, .slice none 0 0]) (by kernel_rfl) (by kernel_rfl) rfl rfl fun x48 w50 Y h2' hy => ?_
    replace Y : Box w50 x48 (boxc t0) := Y
    have A0 : ApT x48 t0 (0 : Rat) := ApT.old hB0 (by omega)
    have hn48 : w44.heap.size ≤ x48.block := by have := h'.size; omega
    refine loop_up x.2.1 (fun k w' => bel w44 w' ∧ ∃ t, Box w' x48 (boxc t) ∧ BX (3 + 9 * k) w' t (dotN row L k) ∧ ApT x48 t (dotN row L k)) ⟨h'.trans h2', t0, Y, hB0.up h2', A0⟩ fun k w53 hk ⟨hw2, t, Y, hB, hA⟩ again' hag' _ => ?_
    refine br_dec (fun e2 => ?_) (fun e2 => ?_)
    · dsimp only at e2
      obtain ⟨p, hp⟩ : ∃ p, L[k]? = some p := ⟨_, List.getElem?_eq_getElem (by omega)⟩
      obtain ⟨c, hc⟩ : ∃ c, row[k]? = some c := ⟨_, List.getElem?_eq_getElem (by omega)⟩
      obtain ⟨uu, huu⟩ : ∃ uu, up[k]? = some uu := ⟨_, List.getElem?_eq_getElem (by omega)⟩
      have hF := (Q1 k p uu hp huu).1
      have hc2 := v3.2.2 row (mem_at hrow) c (mem_at hc)
      refine join_mk (fun _ w' => bel w44 w' ∧ ∃ t, Box w' x48 (boxc t) ∧ BX (3 + 9 * (k + 1)) w' t (dotN row L (k + 1)) ∧ ApT x48 t (dotN row L (k + 1))) (fun K hK => ?_) (fun _ w' hh _ => z_i64 (by dsimp only; omega) (hag' _ (by omega) hh))
      have same : dotT row L k = 0 → K () w53 := fun q => by
        have e : dotN row L (k + 1) = dotN row L k := by
          show dotN row L k + dotT row L k = _
          rw [q, Rat.add_zero]
        exact hK _ _ ⟨hw2, t, Y, by rw [e]; exact hB.le (by omega), by rw [e]; exact hA⟩
      refine at_fst (HL.up (hw.trans hw2)) rfl hp ?_
      refine br_ne (fun n1 => ?_) (fun n1 => same (dotT_p0 hc hp n1))
      refine rd_box (by kernel_rfl) (X.up (hw.trans hw2)) (i := 1) rfl rfl ?_
      refine (H.up (hw.trans hw2)).r.at tyTab (by kernel_rfl) rfl (by omega) fun y row' h1 HR => ?_
      rw [hrow] at h1; cases h1
      refine at_int tyI64 (by kernel_rfl) HR rfl (by have := Sl.int HR; omega) fun c' hc' => ?_
      rw [hc] at hc'; cases hc'
      refine br_ne (fun n2 => ?_) (fun n2 => same (dotT_c0 hc hp n2))
      refine drw_mk fun w65 h3' _ => ?_
      have hw3 := hw2.trans h3'
      replace Y := Y.up h3'; replace hB := hB.up h3'
      refine flEx_mk (fun i _ v w' => (i = 5 → ∃ t : TE, v = exV t ∧ BX 3 w' t (ratv p.1 p.2)) ∧ (i = 14 → ∃ t : TE, v = exV t ∧ BX 3 w' t (c : Rat)) ∧ (i = 15 → ∃ t : TE, v = exV t ∧ BX 7 w' t (ratv p.1 p.2 * (c : Rat))))
        (fun _ _ _ _ _ h hb => ⟨fun e => by obtain ⟨t, q1, q2⟩ := h.1 e; exact ⟨t, q1, q2.up hb⟩, fun e => by obtain ⟨t, q1, q2⟩ := h.2.1 e; exact ⟨t, q1, q2.up hb⟩, fun e => by obtain ⟨t, q1, q2⟩ := h.2.2 e; exact ⟨t, q1, q2.up hb⟩⟩) ?_
      refine rd_boxN Y (by kernel_rfl) rfl ?_
      refine at_frac (HL.up (hw.trans hw3)) rfl hp ?_
      refine flc_mk (fun w70 hb _ => call_mono (makeX w70 hF) fun y w' ⟨hy, _, _, hb'⟩ => ⟨hb', fun _ => ⟨y, rfl, hy⟩, fun e => by omega, fun e => by omega⟩) (fun (x74 : TE) => ?_)
      refine rd_box (by kernel_rfl) (X.up (hw.trans hw3)) (i := 1) rfl rfl ?_
      refine (H.up (hw.trans hw3)).r.at tyTab (by kernel_rfl) rfl (by omega) fun y row' h1 HR => ?_
      rw [hrow] at h1; cases h1
      refine at_int tyI64 (by kernel_rfl) HR rfl (by have := Sl.int HR; omega) fun c' hc' => ?_
      rw [hc] at hc'; cases hc'
      refine flc_mk (fun w80 hb _ => call_mono (wholeX c w80 ⟨by omega, by omega⟩) fun y w' ⟨hy, _, _, hb'⟩ => ⟨hb', fun e => by omega, fun _ => ⟨y, rfl, hy⟩, fun e => by omega⟩) (fun (x84 : TE) => ?_)
      refine flc_mk (fun w85 hb hf => ?_) (fun (x89 : TE) => ?_)
      · obtain ⟨⟨_, g2, _⟩, ⟨g1, _⟩, _⟩ := hf
        obtain ⟨t1, e1, B1⟩ := g1 rfl
        obtain ⟨t2, e2, B2⟩ := g2 rfl
        have e1' := exV_inj (t := x74) e1
        have e2' := exV_inj (t := x84) e2
        subst e1' e2'
        exact call_mono (timesX x74 x84 _ _ 3 3 w85 B1 B2 (by omega) (by omega)) fun y w' ⟨hy, _, _, hb'⟩ => ⟨hb', fun e => by omega, fun e => by omega, fun _ => ⟨y, rfl, hy⟩⟩
      · refine flend_mk fun w90 hb hf => ?_
        obtain ⟨⟨_, _, g⟩, _⟩ := hf
        obtain ⟨t1, e1, B1⟩ := g rfl
        have e1' := exV_inj (t := x89) e1
        subst e1'
        refine call_mono (plusX t x89 _ _ (3 + 9 * k) 7 w90 (hB.up hb) B1 (by omega) (by omega)) ?_
        rintro (y : TE) w93 ⟨hy, f1, f2, h4'⟩
        have A' : ApT x48 y (dotN row L (k + 1)) := ApT.fr (Y.up hb) f1 f2
        have e : dotN row L (k + 1) = dotN row L k + ratv p.1 p.2 * (c : Rat) := by
          show dotN row L k + dotT row L k = _
          rw [dotT_at hc hp]
        rw [← e] at hy
        refine wu_box ((Y.up hb).up h4') (by kernel_rfl) (Nat.le_refl 3) rfl fun w94 Y' hg _ => ?_
        exact hK _ _ ⟨((hw3.trans hb).trans h4').grownAt hg hn48, y, Y', (hy.grown A' hg).le (by omega), A'⟩
    · dsimp only at e2
      have hk' : k = up.length := by omega
      subst hk'
      refine drw_mk fun w95 h3' _ => ?_
      have hw3 := hw2.trans h3'
      replace Y := Y.up h3'; replace hB := hB.up h3'
      refine flEx_mk (fun _ _ v w' => ∃ t : TE, v = exV t ∧ BX 3 w' t ((0 - cc : Int) : Rat)) (fun _ _ _ _ _ ⟨t, q1, q2⟩ hb => ⟨t, q1, q2.up hb⟩) ?_
      refine rd_boxN Y (by kernel_rfl) rfl ?_
      refine rd_box (by kernel_rfl) (X.up (hw.trans hw3)) (i := 2) rfl rfl ?_
      refine at_int tyI64 (by kernel_rfl) (H.up (hw.trans hw3)).b rfl (by have := v4.1; omega) fun c' hc' => ?_
      rw [hcc] at hc'; cases hc'
      refine z_i64 (by omega) ?_
      refine flc_mk (fun w102 hb _ => call_mono (wholeX (0 - cc) w102 ⟨by omega, by omega⟩) fun y w' ⟨hy, _, _, hb'⟩ => ⟨hb', y, rfl, hy⟩) (fun (x106 : TE) => ?_)
      refine flend_mk fun w107 hb hf => ?_
      obtain ⟨⟨t1, e1, B1⟩, _⟩ := hf
      have e1' := exV_inj (t := x106) e1
      subst e1'
      refine call_mono (plusX t x106 _ _ (3 + 9 * up.length) 3 w107 (hB.up hb) B1 (by omega) (by omega)) ?_
      rintro (y : TE) w110 ⟨hy, _, _, h4'⟩
      refine call_mono (signX y _ _ w110 hy (by omega)) ?_
      rintro _ w112 ⟨rfl, h5'⟩
      have hw' := ((hw3.trans hb).trans h4').trans h5'
      have key : rsign (dotN row L up.length + ((0 - cc : Int) : Rat)) = 0 ↔ dotN row L up.length = (cc : Rat) := by
        rw [Int.zero_sub, Rat.intCast_neg]; exact same_iff
      refine br_ne (fun el => no (h.trans (hw.trans hw')) fun s => el (key.2 (s.rows i row cc hrow hcc))) (fun el => ?_)
      refine z_i64 (by dsimp only; omega) ?_
      refine hag _ (by omega) ⟨hw.trans hw', fun j hj q c q1 q2 => ?_⟩
      rcases Nat.lt_or_ge j i with hlt | hge
      · exact hq j hlt q c q1 q2
      · have : j = i := by omega
        subst this
        rw [hrow] at q1; cases q1
        rw [hcc] at q2; cases q2
        exact key.1 el
  · dsimp only at e
    exact ⟨true, rfl, ⟨fun _ => ⟨e0, by omega, Q1, fun i q c q1 q2 => hq i (by have := (List.getElem?_eq_some_iff.1 q1).1; omega) q c q1 q2⟩, fun _ => rfl⟩, h.trans hw⟩
end Go.Proofs.Ytajpdnphamomjaa

/- When numbers are a solution: the program. -/

namespace Go.Proofs.Ytajpdnphamomjaa
open Go.RowKit Go.Q Go.Q.Num Go.V

set_option maxHeartbeats 1600000 in
theorem solL (u r b x : Hdr) (up : List Int) (T : List (List Int)) (rt : List Int) (L : List (Int × Int)) (w : World) (H : Sys w u r b up T rt) (HL : Sl w x.1 x.2.1 x.2.2 2 (L.flatMap encF)) (hI : ∀ p ∈ L, I64 p.1 ∧ I64 p.2) :
    call Try.prog 32 [sysv u r b, .slice x.1 x.2.1 x.2.2] (.one (.one .bool)) w (fun v w' => (v = true ↔ SolP up T rt L) ∧ bel w w') := by
  refine call_of (S32_calls u.1 u.2.1 u.2.2 r.1 r.2.1 r.2.2 b.1 b.2.1 b.2.2 x.1 x.2.1 x.2.2 w _ ?_)
  unfold S32
  have hu := H.u.int
  have hT := H.r.len
  have hb := H.b.int
  have hl := fr_len HL
  have no : ∀ {w' : World}, bel w w' → (SolP up T rt L → False) → ∃ v : Bool, Value.bool false = (RS.one (.one .bool)).val v ∧ (v = true ↔ SolP up T rt L) ∧ bel w w' := fun hb q => ⟨false, rfl, ⟨fun e => (Bool.noConfusion e), fun s => (q s).elim⟩, hb⟩
  refine wr_box fun x1 w2 X h _ _ => ?_
  replace X : Box w2 x1 (sysc u r b) := X
  replace H := H.up h; replace HL := HL.up h
  refine rd_boxN X (by kernel_rfl) rfl ?_
  refine call_mono (validL u r b up T rt w2 H) ?_
  rintro x4 w5 ⟨rfl, h'⟩
  replace h := h.trans h'; replace X := X.up h'; replace H := H.up h'; replace HL := HL.up h'; clear h'
  have kl := HL.le
  refine br_ne (fun e => no h fun s => e s.ok) (fun e0 => ?_)
  obtain ⟨v1, v2, v3, v4⟩ := sysE_ok e0
  refine rd_box0 (by kernel_rfl) X rfl rfl ?_
  refine br_ne (fun e => no h fun s => ?_) (fun e1 => ?_)
  · have := s.len; dsimp only at e; omega
  dsimp only at e1
  refine loop_up x.2.1 (fun i w' => bel w5 w' ∧ ∀ j, j < i → ∀ p u, L[j]? = some p → up[j]? = some u → IsFrac p.1 p.2 ∧ ¬ p.1 < 0 ∧ ¬ ((u : Rat) < ratv p.1 p.2)) ⟨bel.refl _, fun j h => by omega⟩ fun i w9 hi ⟨hw, hq⟩ again hag _ => ?_
  refine br_dec (fun e => ?_) (fun e => ?_)
  · dsimp only at e
    obtain ⟨p, hp⟩ : ∃ p, L[i]? = some p := ⟨_, List.getElem?_eq_getElem (by omega)⟩
    obtain ⟨uu, huu⟩ : ∃ uu, up[i]? = some uu := ⟨_, List.getElem?_eq_getElem (by omega)⟩
    have hpi := hI p (mem_at hp)
    have hui := v3.1 uu (mem_at huu)
    refine at_frac (HL.up hw) rfl hp ?_
    refine boxF fun x12 w14 h' Z _ => ?_
    replace hw := hw.trans h'
    refine drw_mk fun w15 h' _ => ?_
    replace hw := hw.trans h'; replace Z := Z.up h'
    refine flEx_mk (fun i _ v w' => (i = 1 → v = .bool (decide (IsFrac p.1 p.2))) ∧ (i = 10 → ∃ t : TE, v = exV t ∧ EX 2 w' t (ratv p.1 p.2))) (fun _ _ _ _ _ h hb => ⟨h.1, fun e => by obtain ⟨t, q1, q2⟩ := h.2 e; exact ⟨t, q1, q2.up hb⟩⟩) ?_
    refine rd_boxN Z (by kernel_rfl) rfl ?_
    refine flc_mk (fun w14 hb _ => call_mono (callB (validF p.1 p.2 w14 hpi.1.1 hpi.1.2 hpi.2.1 hpi.2.2)) fun y w' ⟨hy, hb'⟩ => ⟨hb', fun _ => by rw [hy], fun e => by omega⟩) (fun x22 => ?_)
    refine br_not (fun ev => flend_mk fun w19 hb hf => no (h.trans (hw.trans hb)) fun s => ?_) (fun ev => ?_)
    · have f1 : x22 = decide (IsFrac p.1 p.2) := by have := hf.1.1 rfl; injection this
      rw [ev, decide_eq_true (s.each i p uu hp huu).1] at f1
      cases f1
    refine rd_box0 (by kernel_rfl) Z rfl rfl ?_
    refine br_dec (fun en => flend_mk fun w23 hb hf => no (h.trans (hw.trans hb)) fun s => (s.each i p uu hp huu).2.1 en) (fun en => ?_)
    refine rd_boxN Z (by kernel_rfl) rfl ?_
    refine flc_mk (fun w29 hb hf => ?_) (fun (x33 : TE) => ?_)
    · have f1 : x22 = decide (IsFrac p.1 p.2) := by have := hf.1.1 rfl; injection this
      have hF : IsFrac p.1 p.2 := by rw [ev] at f1; exact of_decide_eq_true f1.symm
      exact call_mono (fromX w29 hF) fun y w' ⟨hy, hb'⟩ => ⟨hb', fun e => by omega, fun _ => ⟨y, rfl, hy⟩⟩
    refine rd_box0 (by kernel_rfl) (X.up hw) rfl rfl ?_
    refine at_int tyI64 (by kernel_rfl) (H.up hw).u rfl (by omega) fun y hy => ?_
    rw [huu] at hy; cases hy
    refine flend_mk fun w37 hb hf => ?_
    have f1 : x22 = decide (IsFrac p.1 p.2) := by have := hf.2.1.1 rfl; injection this
    obtain ⟨t, ht, hB⟩ := hf.1.2 rfl
    have ht' := exV_inj (t := x33) ht
    subst ht'
    have hF : IsFrac p.1 p.2 := by rw [ev] at f1; exact of_decide_eq_true f1.symm
    refine call_mono (wholeF uu w37 (i64_of (by omega))) ?_
    rintro (y : TE) w40 ⟨hy, _, _, h2'⟩
    refine call_mono (cmpX x33 y _ _ 2 2 w40 (hB.up h2') hy (by omega) (by omega)) ?_
    rintro _ w42 ⟨rfl, h3'⟩
    have hw' := ((hw.trans hb).trans h2').trans h3'
    refine br_dec (fun el => no (h.trans hw') fun s => (s.each i p uu hp huu).2.2 (cmpq_gt0.1 el)) (fun el => ?_)
    refine z_i64 (by dsimp only; omega) ?_
    refine hag _ (by omega) ⟨hw', fun j hj p' u' q1 q2 => ?_⟩
    rcases Nat.lt_or_ge j i with q | q
    · exact hq j q p' u' q1 q2
    · have : j = i := by omega
      subst this
      rw [hp] at q1; cases q1
      rw [huu] at q2; cases q2
      exact ⟨hF, en, fun q => el (cmpq_gt0.2 q)⟩
  dsimp only at e
  have Q1 : ∀ (k : Nat) p u, L[k]? = some p → up[k]? = some u → IsFrac p.1 p.2 ∧ ¬ p.1 < 0 ∧ ¬ ((u : Rat) < ratv p.1 p.2) := fun k p u q1 q2 => hq k (by have := (List.getElem?_eq_some_iff.1 q1).1; omega) p u q1 q2
  clear hq hag again
  replace h := h.trans hw; replace X := X.up hw; replace H := H.up hw; replace HL := HL.up hw; clear hw hi e
  refine rd_box (by kernel_rfl) X (i := 1) rfl rfl ?_
  refine loop_up r.2.1 (fun i w' => bel w9 w' ∧ ∀ j, j < i → ∀ q c, T[j]? = some q → rt[j]? = some c → dotN q L up.length = (c : Rat)) ⟨bel.refl _, fun j h => by omega⟩ fun i w47 hi ⟨hw, hq⟩ again hag _ => ?_
  refine br_dec (fun e => ?_) (fun e => ?_)
  · dsimp only at e
    obtain ⟨row, hrow⟩ : ∃ row, T[i]? = some row := ⟨_, List.getElem?_eq_getElem (by omega)⟩
    obtain ⟨cc, hcc⟩ : ∃ cc, rt[i]? = some cc := ⟨_, List.getElem?_eq_getElem (by have := v4.1; omega)⟩
    have hrl := v4.2 row (mem_at hrow)
    have hci := v3.2.1 cc (mem_at hcc)
    refine (H.up hw).r.at tyTab (by kernel_rfl) rfl (by omega) fun y row' h1 HR => ?_
    rw [hrow] at h1; cases h1
    have hry : row.length = y.2.1 := Sl.int HR
    refine call_mono (wholeF 0 w47 ⟨by omega, by omega⟩) ?_
    rintro (t0 : TE) w51 ⟨hB0, _, _, h'⟩
    refine var_mk (z := .agg #[.bool false, .slice none 0 0, .slice none 0 0]) (by kernel_rfl) (by kernel_rfl) rfl rfl fun x52 w54 Y h2' hy => ?_
    replace Y : Box w54 x52 (boxc t0) := Y
    have A0 : ApT x52 t0 (0 : Rat) := ApT.oldE hB0 (by omega)
    have hn52 : w47.heap.size ≤ x52.block := by have := h'.size; omega
    refine loop_up y.2.1 (fun k w' => bel w47 w' ∧ ∃ t, Box w' x52 (boxc t) ∧ EX (2 + 5 * k) w' t (dotN row L k) ∧ ApT x52 t (dotN row L k)) ⟨h'.trans h2', t0, Y, hB0.up h2', A0⟩ fun k w57 hk ⟨hw2, t, Y, hB, hA⟩ again' hag' _ => ?_
    refine br_dec (fun e2 => ?_) (fun e2 => ?_)
    · dsimp only at e2
      obtain ⟨p, hp⟩ : ∃ p, L[k]? = some p := ⟨_, List.getElem?_eq_getElem (by omega)⟩
      obtain ⟨c, hc⟩ : ∃ c, row[k]? = some c := ⟨_, List.getElem?_eq_getElem (by omega)⟩
      obtain ⟨uu, huu⟩ : ∃ uu, up[k]? = some uu := ⟨_, List.getElem?_eq_getElem (by omega)⟩
      have hF := (Q1 k p uu hp huu).1
      have hc2 := v3.2.2 row (mem_at hrow) c (mem_at hc)
      refine join_mk (fun _ w' => bel w47 w' ∧ ∃ t, Box w' x52 (boxc t) ∧ EX (2 + 5 * (k + 1)) w' t (dotN row L (k + 1)) ∧ ApT x52 t (dotN row L (k + 1))) (fun K hK => ?_) (fun _ w' hh _ => z_i64 (by dsimp only; omega) (hag' _ (by omega) hh))
      have same : dotT row L k = 0 → K () w57 := fun q => by
        have e : dotN row L (k + 1) = dotN row L k := by
          show dotN row L k + dotT row L k = _
          rw [q, Rat.add_zero]
        exact hK _ _ ⟨hw2, t, Y, by rw [e]; exact hB.le (by omega), by rw [e]; exact hA⟩
      refine at_int tyI64 (by kernel_rfl) (HR.kept hw2) rfl (by omega) fun c' hc' => ?_
      rw [hc] at hc'; cases hc'
      refine br_ne (fun n2 => ?_) (fun n2 => same (dotT_c0 hc hp n2))
      refine at_fst (HL.up (hw.trans hw2)) rfl hp ?_
      refine br_ne (fun n1 => ?_) (fun n1 => same (dotT_p0 hc hp n1))
      refine drw_mk fun w66 h3' _ => ?_
      have hw3 := hw2.trans h3'
      replace Y := Y.up h3'; replace hB := hB.up h3'
      refine flEx_mk (fun i _ v w' => (i = 5 → ∃ t : TE, v = exV t ∧ EX 2 w' t (ratv p.1 p.2)) ∧ (i = 7 → ∃ t : TE, v = exV t ∧ EX 2 w' t (c : Rat)) ∧ (i = 8 → ∃ t : TE, v = exV t ∧ EX 4 w' t (ratv p.1 p.2 * (c : Rat))))
        (fun _ _ _ _ _ h hb => ⟨fun e => by obtain ⟨t, q1, q2⟩ := h.1 e; exact ⟨t, q1, q2.up hb⟩, fun e => by obtain ⟨t, q1, q2⟩ := h.2.1 e; exact ⟨t, q1, q2.up hb⟩, fun e => by obtain ⟨t, q1, q2⟩ := h.2.2 e; exact ⟨t, q1, q2.up hb⟩⟩) ?_
      refine rd_boxN Y (by kernel_rfl) rfl ?_
      refine at_frac (HL.up (hw.trans hw3)) rfl hp ?_
      refine flc_mk (fun w70 hb _ => call_mono (fromX w70 hF) fun y w' ⟨hy, hb'⟩ => ⟨hb', fun _ => ⟨y, rfl, hy⟩, fun e => by omega, fun e => by omega⟩) (fun (x75 : TE) => ?_)
      refine flc_mk (fun w80 hb _ => call_mono (wholeF c w80 ⟨by omega, by omega⟩) fun y w' ⟨hy, _, _, hb'⟩ => ⟨hb', fun e => by omega, fun _ => ⟨y, rfl, hy⟩, fun e => by omega⟩) (fun (x80 : TE) => ?_)
      refine flc_mk (fun w85 hb hf => ?_) (fun (x85 : TE) => ?_)
      · obtain ⟨⟨_, g2, _⟩, ⟨g1, _⟩, _⟩ := hf
        obtain ⟨t1, e1, B1⟩ := g1 rfl
        obtain ⟨t2, e2, B2⟩ := g2 rfl
        have e1' := exV_inj (t := x75) e1
        have e2' := exV_inj (t := x80) e2
        subst e1' e2'
        exact call_mono (mulE x75 x80 _ _ 2 2 w85 B1 B2 (by omega) (by omega)) fun y w' ⟨hy, _, _, hb'⟩ => ⟨hb', fun e => by omega, fun e => by omega, fun _ => ⟨y, rfl, hy⟩⟩
      · refine flend_mk fun w90 hb hf => ?_
        obtain ⟨⟨_, _, g⟩, _⟩ := hf
        obtain ⟨t1, e1, B1⟩ := g rfl
        have e1' := exV_inj (t := x85) e1
        subst e1'
        refine call_mono (addE t x85 _ _ (2 + 5 * k) 4 w90 (hB.up hb) B1 (by omega) (by omega)) ?_
        rintro (y : TE) w93 ⟨hy, f1, f2, h4'⟩
        have A' : ApT x52 y (dotN row L (k + 1)) := ApT.fr (Y.up hb) f1 f2
        have e : dotN row L (k + 1) = dotN row L k + ratv p.1 p.2 * (c : Rat) := by
          show dotN row L k + dotT row L k = _
          rw [dotT_at hc hp]
        rw [← e] at hy
        refine wu_box ((Y.up hb).up h4') (by kernel_rfl) (Nat.le_refl 3) rfl fun w94 Y' hg _ => ?_
        exact hK _ _ ⟨((hw3.trans hb).trans h4').grownAt hg hn52, y, Y', (hy.grownA A' hg).le (by omega), A'⟩
    · dsimp only at e2
      have hk' : k = up.length := by omega
      subst hk'
      refine drw_mk fun w91 h3' _ => ?_
      have hw3 := hw2.trans h3'
      replace Y := Y.up h3'; replace hB := hB.up h3'
      refine flEx_mk (fun _ _ v w' => ∃ t : TE, v = exV t ∧ EX 2 w' t (cc : Rat)) (fun _ _ _ _ _ ⟨t, q1, q2⟩ hb => ⟨t, q1, q2.up hb⟩) ?_
      refine rd_boxN Y (by kernel_rfl) rfl ?_
      refine rd_box (by kernel_rfl) (X.up (hw.trans hw3)) (i := 2) rfl rfl ?_
      refine at_int tyI64 (by kernel_rfl) (H.up (hw.trans hw3)).b rfl (by have := v4.1; omega) fun c' hc' => ?_
      rw [hcc] at hc'; cases hc'
      refine flc_mk (fun w102 hb _ => call_mono (wholeF cc w102 ⟨by omega, by omega⟩) fun y w' ⟨hy, _, _, hb'⟩ => ⟨hb', y, rfl, hy⟩) (fun (x101 : TE) => ?_)
      refine flend_mk fun w102 hb hf => ?_
      obtain ⟨⟨t1, e1, B1⟩, _⟩ := hf
      have e1' := exV_inj (t := x101) e1
      subst e1'
      refine call_mono (cmpX t x101 _ _ (2 + 5 * up.length) 2 w102 (hB.up hb) B1 (by omega) (by omega)) ?_
      rintro _ w105 ⟨rfl, h5'⟩
      have hw' := (hw3.trans hb).trans h5'
      refine br_ne (fun el => no (h.trans (hw.trans hw')) fun s => el (cmpq_eq0.2 (s.rows i row cc hrow hcc))) (fun el => ?_)
      refine z_i64 (by dsimp only; omega) ?_
      refine hag _ (by omega) ⟨hw.trans hw', fun j hj q c q1 q2 => ?_⟩
      rcases Nat.lt_or_ge j i with hlt | hge
      · exact hq j hlt q c q1 q2
      · have : j = i := by omega
        subst this
        rw [hrow] at q1; cases q1
        rw [hcc] at q2; cases q2
        exact cmpq_eq0.1 el
  · dsimp only at e
    exact ⟨true, rfl, ⟨fun _ => ⟨e0, by omega, Q1, fun i q c q1 q2 => hq i (by have := (List.getElem?_eq_some_iff.1 q1).1; omega) q c q1 q2⟩, fun _ => rfl⟩, h.trans hw⟩
end Go.Proofs.Ytajpdnphamomjaa

/- The laws LinearChecks and IntegralChecks: the walks. -/

namespace Go.Proofs.Ytajpdnphamomjaa
open Go.RowKit Go.Q Go.Q.Num Go.V

theorem fewS (u r b : Hdr) (up : List Int) (T : List (List Int)) (rt : List Int) (w : World) (H : Sys w u r b up T rt) :
    call Try.prog 29 [sysv u r b] (.one (.one .bool)) w (fun x w' => (x = true → up.length ≤ 12 ∧ T.length ≤ 8 ∧ rt.length ≤ 12) ∧ bel w w') := by
  refine call_of (S29_calls u.1 u.2.1 u.2.2 r.1 r.2.1 r.2.2 b.1 b.2.1 b.2.2 w _ ?_)
  unfold S29
  have hu := H.u.int
  have hT := H.r.len
  have hb := H.b.int
  have no : ∀ {w' : World}, bel w w' → ∃ v : Bool, Value.bool false = (RS.one (.one .bool)).val v ∧ (v = true → up.length ≤ 12 ∧ T.length ≤ 8 ∧ rt.length ≤ 12) ∧ bel w w' := fun hb => ⟨false, rfl, fun e => (Bool.noConfusion e), hb⟩
  refine wr_box fun x1 w2 X h _ _ => ?_
  replace X : Box w2 x1 (sysc u r b) := X
  replace H := H.up h
  have kT : r.2.1 ≤ 9223372036854775807 := by obtain ⟨hs, q, _⟩ := H.r.ex; exact q.le
  refine rd_box0 (by kernel_rfl) X rfl rfl ?_
  refine br_dec (fun _ => no h) (fun e1 => ?_)
  refine rd_box (by kernel_rfl) X (i := 1) rfl rfl ?_
  refine br_dec (fun _ => no h) (fun e2 => ?_)
  refine rd_box (by kernel_rfl) X (i := 2) rfl rfl ?_
  refine br_dec (fun _ => no h) (fun e3 => ?_)
  dsimp only at e1 e2 e3
  refine loop_up r.2.1 (fun _ w' => bel w2 w') (bel.refl _) fun i w8 hi hw again hag _ => ?_
  refine rd_box (by kernel_rfl) (X.up hw) (i := 1) rfl rfl ?_
  refine br_dec (fun e => ?_) (fun e => ?_)
  · dsimp only at e
    refine rd_box (by kernel_rfl) (X.up hw) (i := 1) rfl rfl ?_
    refine (H.up hw).r.at tyTab (by kernel_rfl) rfl (by omega) fun y row _ _ => ?_
    refine br_dec (fun _ => no (h.trans hw)) (fun _ => ?_)
    refine z_i64 (by dsimp only; omega) ?_
    exact hag _ (by omega) hw
  · exact ⟨true, rfl, fun _ => ⟨by omega, by omega, by omega⟩, h.trans hw⟩

theorem sys_nil (w : World) : Sys w (none, 0, 0) (none, 0, 0) (none, 0, 0) [] [] [] := ⟨Sl.nil _ _, ⟨[], Sl.nil _ _, rfl, fun i x r h => by simp at h⟩, Sl.nil _ _⟩
theorem sol_nil : SolP [] [] [] [] := by
  refine ⟨sysE_0 (by simp) (by simp) ⟨by simp, by simp, by simp⟩ ⟨rfl, by simp⟩, rfl, fun k p u h => by simp at h, fun i r b h => by simp at h⟩
theorem iff_eq {a b : Bool} {P : Prop} (h1 : a = true ↔ P) (h2 : b = true ↔ P) : a = b := by rw [Bool.eq_iff_iff, h1, h2]

theorem linChecks (u r b x : Hdr) (up : List Int) (T : List (List Int)) (rt : List Int) (L : List (Int × Int)) (w : World) (H : Sys w u r b up T rt) (HL : Sl w x.1 x.2.1 x.2.2 2 (L.flatMap encF)) (hI : ∀ p ∈ L, I64 p.1 ∧ I64 p.2) :
    Calls Try.prog 7 #[sysv u r b, .slice x.1 x.2.1 x.2.2] w (fun e w' => e = .returned (.bool true) ∧ Below w.heap.size w w') := by
  refine Calls.mono (S7_calls u.1 u.2.1 u.2.2 r.1 r.2.1 r.2.2 b.1 b.2.1 b.2.2 x.1 x.2.1 x.2.2 w (fun v w' => v = .bool true ∧ bel w w') ?_) (by rintro e w' ⟨v, rfl, rfl, hb⟩; exact ⟨rfl, hb⟩)
  unfold S7
  refine wr_box fun x1 w2 X h _ _ => ?_
  replace X : Box w2 x1 (sysc u r b) := X
  replace H := H.up h; replace HL := HL.up h
  refine rd_boxN X (by kernel_rfl) rfl ?_
  refine call_mono (fewS u r b up T rt w2 H) ?_
  rintro x4 w5 ⟨_, h'⟩
  replace h := h.trans h'; replace X := X.up h'; replace H := H.up h'; replace HL := HL.up h'; clear h'
  refine br_not (fun _ => ⟨rfl, h⟩) (fun _ => ?_)
  refine br_dec (fun _ => ⟨rfl, h⟩) (fun _ => ?_)
  refine drw_mk fun w6 h' _ => ?_
  replace h := h.trans h'; replace X := X.up h'; replace H := H.up h'; replace HL := HL.up h'; clear h'
  refine flEx_mk (fun i _ v _ => (i = 1 ∨ i = 3 → v = .int .i64 (sysE up T rt)) ∧ (i = 8 → ∃ c, v = .bool c ∧ (c = true ↔ SolP up T rt L))) (fun _ _ _ _ _ h _ => h) ?_
  refine rd_boxN X (by kernel_rfl) rfl ?_
  refine flc_mk (fun w9 hb _ => call_mono (validL u r b up T rt w9 (H.up hb)) fun y w' ⟨hy, hb'⟩ => ⟨hb', fun _ => by rw [hy], fun e => by omega⟩) (fun x13 => ?_)
  refine rd_boxN X (by kernel_rfl) rfl ?_
  refine flc_mk (fun w9 hb _ => call_mono (valid11 u r b up T rt w9 (H.up hb)) fun y w' ⟨hy, hb'⟩ => ⟨hb', fun _ => by rw [hy], fun e => by omega⟩) (fun x19 => ?_)
  refine br_eq (fun e => ?_) (fun e => flend_mk fun w33 hb hf => ?_)
  · refine rd_boxN X (by kernel_rfl) rfl ?_
    refine flc_mk (fun w9 hb _ => call_mono (solL u r b x up T rt L w9 (H.up hb) (HL.up hb) hI) fun y w' ⟨hy, hb'⟩ => ⟨hb', fun e => by omega, fun _ => ⟨y, rfl, hy⟩⟩) (fun x25 => ?_)
    refine rd_boxN X (by kernel_rfl) rfl ?_
    refine flend_mk fun w27 hb hf => ?_
    obtain ⟨⟨_, g⟩, _⟩ := hf
    obtain ⟨c, hc, hc2⟩ := g rfl
    injection hc with hc
    subst hc
    refine call_mono (sol11 u r b x up T rt L w27 (H.up hb) (HL.up hb) hI) ?_
    rintro x29 w30 ⟨hx, h'⟩
    refine br_mk (fun _ => ?_) (fun e => ?_)
    · refine call_mono (solL (none, 0, 0) (none, 0, 0) (none, 0, 0) (none, 0, 0) [] [] [] [] w30 (sys_nil _) (Sl.nil _ _) (by simp)) ?_
      rintro x31 w32 ⟨hy, h2'⟩
      exact ⟨by rw [hy.2 sol_nil], ((h.trans hb).trans h').trans h2'⟩
    · have q := iff_eq hc2 hx
      subst q
      cases x25 <;> cases e
  · obtain ⟨⟨g1, _⟩, ⟨g2, _⟩, _⟩ := hf
    have a := g1 (.inr rfl)
    have b := g2 (.inl rfl)
    injection a with _ a
    injection b with _ b
    exact absurd (b.trans a.symm) e

/-! ### whole numbers -/
def dotJ (r xs : List Int) (k : Nat) : Int :=
  match r[k]?, xs[k]? with
  | some c, some x => c * x
  | _, _ => 0
def dotI (r xs : List Int) : Nat → Int
  | 0 => 0
  | k + 1 => dotI r xs k + dotJ r xs k
abbrev one1s (xs : List Int) : List (Int × Int) := xs.map fun n => (n, 1)
theorem ratv_one (n : Int) : ratv n 1 = (n : Rat) := by unfold ratv; exact Rat.mkRat_one n
theorem dotN_int (r xs : List Int) : ∀ k, dotN r (one1s xs) k = ((dotI r xs k : Int) : Rat)
  | 0 => rfl
  | k + 1 => by
    show dotN r (one1s xs) k + dotT r (one1s xs) k = ((dotI r xs k + dotJ r xs k : Int) : Rat)
    rw [dotN_int r xs k]
    unfold dotT dotJ
    rw [List.getElem?_map]
    cases r[k]? with
    | none => simp [Rat.add_zero]
    | some c => cases xs[k]? with
      | none => simp [Rat.add_zero]
      | some x => simp only [Option.map_some]; rw [ratv_one, Rat.intCast_add, Rat.intCast_mul, Rat.mul_comm]
theorem dotI_step {r xs : List Int} {k : Nat} {c x : Int} (h1 : r[k]? = some c) (h2 : xs[k]? = some x) : dotI r xs (k + 1) = dotI r xs k + c * x := by
  show dotI r xs k + dotJ r xs k = _
  unfold dotJ
  rw [h1, h2]
theorem each_int {n u : Int} (hu : u ≤ 1000000000) : IsFrac n 1 ∧ ¬ n < 0 ∧ ¬ ((u : Rat) < ratv n 1) ↔ 0 ≤ n ∧ n ≤ u := by
  rw [ratv_one, Rat.intCast_lt_intCast]
  constructor
  · rintro ⟨_, h1, h2⟩; omega
  · rintro ⟨h1, h2⟩
    exact ⟨⟨by omega, by omega, by omega, by omega, Nat.gcd_one_right _⟩, by omega, by omega⟩

theorem chk12 (u r b x : Hdr) (up : List Int) (T : List (List Int)) (rt : List Int) (xs : List Int) (w : World) (H : Sys w u r b up T rt) (HL : Sl w x.1 x.2.1 x.2.2 1 (ints .i64 xs)) (hI : ∀ n ∈ xs, I64 n) (hs : xs.length ≤ 1000) :
    call Try.prog 45 [sysv u r b, .slice x.1 x.2.1 x.2.2] (.one (.one .bool)) w (fun v w' => (v = true ↔ SolP up T rt (one1s xs)) ∧ bel w w') := by
  refine call_of (S45_calls u.1 u.2.1 u.2.2 r.1 r.2.1 r.2.2 b.1 b.2.1 b.2.2 x.1 x.2.1 x.2.2 w _ ?_)
  unfold S45
  have hl := HL.int
  refine wr_box fun x1 w2 X h _ _ => ?_
  replace X : Box w2 x1 (sysc u r b) := X
  replace H := H.up h; replace HL := HL.up h
  refine loop_upA x.2.1 (fun i (a : Hdr) w' => bel w2 w' ∧ a.2.1 = i ∧ Own w' w2.heap.size 23 2 a.1 i a.2.2 ((one1s (xs.take i)).flatMap encF)) ⟨bel.refl _, rfl, Own.nil _ _ _ _⟩ fun i a w5 hi ⟨hw, ha, O⟩ again hag _ => ?_
  refine br_dec (fun e => ?_) (fun e => ?_)
  · dsimp only at e
    refine at_int tyI64 (by kernel_rfl) (HL.up hw) rfl (by omega) fun n hn => ?_
    dsimp only
    rw [ha]
    refine wr_app1 tyFracs O hw.size rfl (by omega) (by omega) rfl rfl (by omega) (by unfold maxLen; omega) fun a' c' w11 O' hg _ _ => ?_
    refine z_i64 (by omega) ?_
    refine hag (a', i + 1, c') w11 (by omega) ⟨hw.own O hg (Nat.le_refl _), rfl, ?_⟩
    have e : (one1s (xs.take (i + 1))).flatMap encF = (one1s (xs.take i)).flatMap encF ++ encF (n, 1) := by
      rw [List.take_add_one, hn]
      simp [one1s, List.flatMap_append]
    rw [e]; exact O'
  · dsimp only at e
    have hi' : i = xs.length := by omega
    subst hi'
    rw [List.take_of_length_le (Nat.le_refl _)] at O
    refine rd_boxN (X.up hw) (by kernel_rfl) rfl ?_
    dsimp only
    rw [ha]
    refine call_mono (sol11 u r b (a.1, xs.length, a.2.2) up T rt (one1s xs) w5 (H.up hw) O.sl ?_) ?_
    · intro p hp
      obtain ⟨n, hn, rfl⟩ := List.mem_map.1 hp
      exact ⟨hI n hn, ⟨by omega, by omega⟩⟩
    rintro x14 w15 ⟨hx, h'⟩
    exact ⟨_, rfl, hx, (h.trans hw).trans h'⟩

set_option maxHeartbeats 800000 in
theorem chkI (u r b x : Hdr) (up : List Int) (T : List (List Int)) (rt : List Int) (xs : List Int) (w : World) (H : Sys w u r b up T rt) (HL : Sl w x.1 x.2.1 x.2.2 1 (ints .i64 xs)) :
    call Try.prog 44 [sysv u r b, .slice x.1 x.2.1 x.2.2] (.one (.one .bool)) w (fun v w' => (v = true ↔ SolP up T rt (one1s xs)) ∧ bel w w') := by
  refine call_of (S44_calls u.1 u.2.1 u.2.2 r.1 r.2.1 r.2.2 b.1 b.2.1 b.2.2 x.1 x.2.1 x.2.2 w _ ?_)
  unfold S44
  have hu := H.u.int
  have hT := H.r.len
  have hb := H.b.int
  have hl := HL.int
  have kl := HL.le
  have no : ∀ {w' : World}, bel w w' → (SolP up T rt (one1s xs) → False) → ∃ v : Bool, Value.bool false = (RS.one (.one .bool)).val v ∧ (v = true ↔ SolP up T rt (one1s xs)) ∧ bel w w' := fun hb q => ⟨false, rfl, ⟨fun e => (Bool.noConfusion e), fun s => (q s).elim⟩, hb⟩
  refine wr_box fun x1 w2 X h _ _ => ?_
  replace X : Box w2 x1 (sysc u r b) := X
  replace H := H.up h; replace HL := HL.up h
  refine rd_boxN X (by kernel_rfl) rfl ?_
  refine call_mono (validL u r b up T rt w2 H) ?_
  rintro x4 w5 ⟨rfl, h'⟩
  replace h := h.trans h'; replace X := X.up h'; replace H := H.up h'; replace HL := HL.up h'; clear h'
  refine br_ne (fun e => no h fun s => e s.ok) (fun e0 => ?_)
  obtain ⟨v1, v2, v3, v4⟩ := sysE_ok e0
  refine rd_box0 (by kernel_rfl) X rfl rfl ?_
  refine br_ne (fun e => no h fun s => ?_) (fun e1 => ?_)
  · have := s.len; simp at this; dsimp only at e; omega
  dsimp only at e1
  refine loop_up x.2.1 (fun i w' => bel w5 w' ∧ ∀ j, j < i → ∀ n u, xs[j]? = some n → up[j]? = some u → 0 ≤ n ∧ n ≤ u) ⟨bel.refl _, fun j h => by omega⟩ fun i w9 hi ⟨hw, hq⟩ again hag _ => ?_
  have sol1 : ∀ n uu, xs[i]? = some n → up[i]? = some uu → SolP up T rt (one1s xs) → 0 ≤ n ∧ n ≤ uu := fun n uu hn huu s =>
    (each_int (v3.1 uu (mem_at huu)).2).1 (s.each i (n, 1) uu (by rw [List.getElem?_map, hn]; rfl) huu)
  refine br_dec (fun e => ?_) (fun e => ?_)
  · dsimp only at e
    obtain ⟨uu, huu⟩ : ∃ uu, up[i]? = some uu := ⟨_, List.getElem?_eq_getElem (by omega)⟩
    refine at_int tyI64 (by kernel_rfl) (HL.up hw) rfl (by omega) fun n hn => ?_
    refine br_dec (fun en => no (h.trans hw) fun s => by have := sol1 n uu hn huu s; omega) (fun en => ?_)
    refine rd_box0 (by kernel_rfl) (X.up hw) rfl rfl ?_
    refine at_int tyI64 (by kernel_rfl) (H.up hw).u rfl (by omega) fun y hy => ?_
    rw [huu] at hy; cases hy
    refine br_dec (fun en => no (h.trans hw) fun s => by have := sol1 n uu hn huu s; omega) (fun en2 => ?_)
    refine z_i64 (by dsimp only; omega) ?_
    refine hag _ (by omega) ⟨hw, fun j hj n' u' q1 q2 => ?_⟩
    rcases Nat.lt_or_ge j i with q | q
    · exact hq j q n' u' q1 q2
    · have : j = i := by omega
      subst this
      rw [hn] at q1; cases q1
      rw [huu] at q2; cases q2
      omega
  dsimp only at e
  have Q1 : ∀ (k : Nat) n u, xs[k]? = some n → up[k]? = some u → 0 ≤ n ∧ n ≤ u := fun k n u q1 q2 => hq k (by have := (List.getElem?_eq_some_iff.1 q1).1; omega) n u q1 q2
  clear hq hag again sol1
  replace h := h.trans hw; replace X := X.up hw; replace H := H.up hw; replace HL := HL.up hw; clear hw hi e
  refine rd_box (by kernel_rfl) X (i := 1) rfl rfl ?_
  refine loop_up r.2.1 (fun i w' => bel w9 w' ∧ ∀ j, j < i → ∀ q c, T[j]? = some q → rt[j]? = some c → dotI q xs up.length = c) ⟨bel.refl _, fun j h => by omega⟩ fun i w19 hi ⟨hw, hq⟩ again hag _ => ?_
  refine br_dec (fun e => ?_) (fun e => ?_)
  · dsimp only at e
    obtain ⟨row, hrow⟩ : ∃ row, T[i]? = some row := ⟨_, List.getElem?_eq_getElem (by omega)⟩
    obtain ⟨cc, hcc⟩ : ∃ cc, rt[i]? = some cc := ⟨_, List.getElem?_eq_getElem (by have := v4.1; omega)⟩
    have hrl := v4.2 row (mem_at hrow)
    refine (H.up hw).r.at tyTab (by kernel_rfl) rfl (by omega) fun y row' h1 HR => ?_
    rw [hrow] at h1; cases h1
    have hry : row.length = y.2.1 := Sl.int HR
    refine loop_upA y.2.1 (fun k (a : Int) w' => bel w19 w' ∧ a = dotI row xs k ∧ (dotI row xs k).natAbs ≤ k * 1000000000000000) ⟨bel.refl _, rfl, by show (0 : Int).natAbs ≤ _; omega⟩ fun k a w24 hk ⟨hw2, ha, hab⟩ again' hag' _ => ?_
    refine br_dec (fun e2 => ?_) (fun e2 => ?_)
    · dsimp only at e2
      obtain ⟨uu, huu⟩ : ∃ uu, up[k]? = some uu := ⟨_, List.getElem?_eq_getElem (by omega)⟩
      refine at_int tyI64 (by kernel_rfl) (HR.kept hw2) rfl (by omega) fun c hc => ?_
      refine at_int tyI64 (by kernel_rfl) (HL.up (hw.trans hw2)) rfl (by omega) fun n hn => ?_
      have b1 := v3.2.2 row (mem_at hrow) c (mem_at hc)
      have b2 := Q1 k n uu hn huu
      have b3 := v3.1 uu (mem_at huu)
      have b4 : (c * n).natAbs ≤ 1000000000000000 := by
        rw [Int.natAbs_mul]
        exact Nat.mul_le_mul (show c.natAbs ≤ 1000000 by omega) (show n.natAbs ≤ 1000000000 by omega)
      have st := dotI_step hc hn
      have b5 : (dotI row xs (k + 1)).natAbs ≤ (k + 1) * 1000000000000000 := by rw [st]; omega
      subst ha
      refine z_i64 (by omega) ?_
      refine z_i64 (by dsimp only; omega) ?_
      refine z_i64 (by dsimp only; omega) ?_
      refine hag' _ _ (by omega) ⟨hw2, st.symm, b5⟩
    · dsimp only at e2
      have hk' : k = up.length := by omega
      subst hk'
      have hw' := hw.trans hw2
      refine rd_box (by kernel_rfl) (X.up hw') (i := 2) rfl rfl ?_
      refine at_int tyI64 (by kernel_rfl) (H.up hw').b rfl (by have := v4.1; omega) fun c' hc' => ?_
      rw [hcc] at hc'; cases hc'
      have key : SolP up T rt (one1s xs) → dotI row xs up.length = cc := fun s => by
        have := s.rows i row cc hrow hcc
        rw [dotN_int] at this
        exact Rat.intCast_inj.1 this
      refine br_ne (fun el => no (h.trans hw') fun s => el (by dsimp only; rw [ha, key s])) (fun el => ?_)
      refine z_i64 (by dsimp only; omega) ?_
      refine hag _ (by omega) ⟨hw', fun j hj q c q1 q2 => ?_⟩
      rcases Nat.lt_or_ge j i with hlt | hge
      · exact hq j hlt q c q1 q2
      · have : j = i := by omega
        subst this
        rw [hrow] at q1; cases q1
        rw [hcc] at q2; cases q2
        rw [← ha]; exact el
  · dsimp only at e
    refine ⟨true, rfl, ⟨fun _ => ⟨e0, by simp; omega, fun k p u q1 q2 => ?_, fun i q c q1 q2 => ?_⟩, fun _ => rfl⟩, h.trans hw⟩
    · rw [List.getElem?_map] at q1
      cases hn : xs[k]? with
      | none => rw [hn] at q1; cases q1
      | some n =>
        rw [hn] at q1; cases q1
        exact (each_int (v3.1 u (mem_at q2)).2).2 (Q1 k n u hn q2)
    · rw [dotN_int, hq i (by have := (List.getElem?_eq_some_iff.1 q1).1; omega) q c q1 q2]
end Go.Proofs.Ytajpdnphamomjaa

/- The walk of IntegralChecks; arguments. -/

namespace Go.Proofs.Ytajpdnphamomjaa
open Go.RowKit Go.Q Go.Q.Num Go.V

/-- literals -/
theorem litI {n : Int} {w : World} {k : Hdr → World → Prop} (hk : ∀ (x : Hdr) w', bel w w' → Sl w' x.1 x.2.1 x.2.2 1 (ints .i64 [n]) → k x w') : wr Try.prog (Instr.buildSlice 40 1 #[(0, .int .i64 n)]) (.one .slice) w k :=
  wr_lit tyI64 #[.int .i64 n] (fill_one 1 (.int .i64 n) _ rfl (by simp)) (by omega) (by omega) rfl (by unfold maxLen; omega) fun ad w' O hb _ _ => hk (some ad, 1, 1) w' hb (O w.heap.size (Nat.le_refl _)).sl
theorem litT {h : Hdr} {row : List Int} {w : World} {k : Hdr → World → Prop} (H : Sl w h.1 h.2.1 h.2.2 1 (ints .i64 row)) (hk : ∀ (x : Hdr) w', bel w w' → TabI .i64 w' x [row] → k x w') : wr Try.prog (Instr.buildSlice 41 1 #[(0, .slice h.1 h.2.1 h.2.2)]) (.one .slice) w k :=
  wr_lit tyTab #[.slice h.1 h.2.1 h.2.2] (fill_one 1 (.slice h.1 h.2.1 h.2.2) _ rfl (by simp)) (by omega) (by omega) rfl (by unfold maxLen; omega) fun ad w' O hb _ _ => hk (some ad, 1, 1) w' hb
    ⟨[h], (O w.heap.size (Nat.le_refl _)).sl, rfl, fun i x r h1 h2 => by
      cases i with
      | zero => cases h1; cases h2; exact H.kept hb
      | succ i => simp at h1⟩
theorem sl_inj {x : Option Addr × Nat × Nat} {h : Hdr} (e : Value.slice x.1 x.2.1 x.2.2 = hv h) : x = h := by
  obtain ⟨a, b, c⟩ := x
  obtain ⟨a', b', c'⟩ := h
  simp only [hv, Value.slice.injEq] at e
  obtain ⟨rfl, rfl, rfl⟩ := e
  rfl
theorem sol_ex : SolP [3] [[2]] [4] (one1s [2]) := by
  refine ⟨sysE_0 (by simp) (by simp) ⟨by simp, by simp, by simp⟩ ⟨rfl, by simp⟩, rfl, fun k p u h1 h2 => ?_, fun i r b h1 h2 => ?_⟩
  · cases k with
    | zero => cases h1; cases h2; exact (each_int (by omega)).2 ⟨by decide, by decide⟩
    | succ k => simp at h2
  · cases i with
    | zero => cases h1; cases h2; rw [dotN_int]; rfl
    | succ i => simp at h2

theorem intChecks (u r b x : Hdr) (up : List Int) (T : List (List Int)) (rt : List Int) (xs : List Int) (w : World) (H : Sys w u r b up T rt) (HL : Sl w x.1 x.2.1 x.2.2 1 (ints .i64 xs)) (hI : ∀ n ∈ xs, I64 n) :
    Calls Try.prog 13 #[sysv u r b, .slice x.1 x.2.1 x.2.2] w (fun e w' => e = .returned (.bool true) ∧ Below w.heap.size w w') := by
  refine Calls.mono (S13_calls u.1 u.2.1 u.2.2 r.1 r.2.1 r.2.2 b.1 b.2.1 b.2.2 x.1 x.2.1 x.2.2 w (fun v w' => v = .bool true ∧ bel w w') ?_) (by rintro e w' ⟨v, rfl, rfl, hb⟩; exact ⟨rfl, hb⟩)
  unfold S13
  have hl := HL.int
  refine wr_box fun x1 w2 X h _ _ => ?_
  replace X : Box w2 x1 (sysc u r b) := X
  replace H := H.up h; replace HL := HL.up h
  refine rd_boxN X (by kernel_rfl) rfl ?_
  refine call_mono (fewS u r b up T rt w2 H) ?_
  rintro x4 w5 ⟨_, h'⟩
  replace h := h.trans h'; replace X := X.up h'; replace H := H.up h'; replace HL := HL.up h'; clear h'
  refine br_not (fun _ => ⟨rfl, h⟩) (fun _ => ?_)
  refine br_dec (fun _ => ⟨rfl, h⟩) (fun e1 => ?_)
  refine drw_mk fun w6 h' _ => ?_
  replace h := h.trans h'; replace X := X.up h'; replace H := H.up h'; replace HL := HL.up h'; clear h'
  refine flEx_mk (fun i _ v w' => (i = 2 ∨ i = 5 → ∃ c, v = .bool c ∧ (c = true ↔ SolP up T rt (one1s xs))) ∧ (i = 8 → ∃ h : Hdr, v = hv h ∧ Sl w' h.1 h.2.1 h.2.2 1 (ints .i64 [3])) ∧ (i = 9 ∨ i = 13 → ∃ h : Hdr, v = hv h ∧ Sl w' h.1 h.2.1 h.2.2 1 (ints .i64 [2])) ∧ (i = 11 → ∃ h : Hdr, v = hv h ∧ Sl w' h.1 h.2.1 h.2.2 1 (ints .i64 [4])) ∧ (i = 10 → ∃ h : Hdr, v = hv h ∧ TabI .i64 w' h [[2]]))
    (fun _ _ _ _ _ h hb => ⟨h.1, fun e => by obtain ⟨t, q1, q2⟩ := h.2.1 e; exact ⟨t, q1, q2.kept hb⟩, fun e => by obtain ⟨t, q1, q2⟩ := h.2.2.1 e; exact ⟨t, q1, q2.kept hb⟩, fun e => by obtain ⟨t, q1, q2⟩ := h.2.2.2.1 e; exact ⟨t, q1, q2.kept hb⟩, fun e => by obtain ⟨t, q1, q2⟩ := h.2.2.2.2 e; exact ⟨t, q1, q2.up hb⟩⟩) ?_
  refine rd_boxN X (by kernel_rfl) rfl ?_
  refine flc_mk (fun w9 hb _ => call_mono (chkI u r b x up T rt xs w9 (H.up hb) (HL.up hb)) fun y w' ⟨hy, hb'⟩ => ⟨hb', fun _ => ⟨y, rfl, hy⟩, fun e => by omega, fun e => by omega, fun e => by omega, fun e => by omega⟩) (fun x13 => ?_)
  refine rd_boxN X (by kernel_rfl) rfl ?_
  refine flc_mk (fun w9 hb _ => call_mono (chk12 u r b x up T rt xs w9 (H.up hb) (HL.up hb) hI (by omega)) fun y w' ⟨hy, hb'⟩ => ⟨hb', fun _ => ⟨y, rfl, hy⟩, fun e => by omega, fun e => by omega, fun e => by omega, fun e => by omega⟩) (fun x19 => ?_)
  have same : ∀ {w' : World} {ags ags' : List Value}, (∃ c, Value.bool x19 = .bool c ∧ (c = true ↔ SolP up T rt (one1s xs))) → (∃ c, Value.bool x13 = .bool c ∧ (c = true ↔ SolP up T rt (one1s xs))) → x13 = x19 := by
    rintro _ _ _ ⟨c, hc, hc2⟩ ⟨d, hd, hd2⟩
    injection hc with hc; injection hd with hd
    subst hc hd
    exact iff_eq hd2 hc2
  refine br_mk (fun e => ?_) (fun e => flend_mk fun w49 hb hf => ?_)
  · refine flc_mk (fun w20 hb _ => litI fun y w' hb' hS => ⟨hb', fun e => by omega, fun _ => ⟨y, rfl, hS⟩, fun e => by omega, fun e => by omega, fun e => by omega⟩) (fun (x24 : Hdr) => ?_)
    refine flc_mk (fun w25 hb _ => litI fun y w' hb' hS => ⟨hb', fun e => by omega, fun e => by omega, fun _ => ⟨y, rfl, hS⟩, fun e => by omega, fun e => by omega⟩) (fun (x29 : Hdr) => ?_)
    refine flc_mk (fun w30 hb hf => ?_) (fun (x34 : Hdr) => ?_)
    · obtain ⟨y, hy, hS⟩ := hf.1.2.2.1 (.inl rfl)
      have := sl_inj hy
      subst this
      exact litT hS fun y w' hb' hT => ⟨hb', fun e => by omega, fun e => by omega, fun e => by omega, fun e => by omega, fun _ => ⟨y, rfl, hT⟩⟩
    refine flc_mk (fun w35 hb _ => litI fun y w' hb' hS => ⟨hb', fun e => by omega, fun e => by omega, fun e => by omega, fun _ => ⟨y, rfl, hS⟩, fun e => by omega⟩) (fun (x39 : Hdr) => ?_)
    refine flc_mk (fun w40 hb _ => litI fun y w' hb' hS => ⟨hb', fun e => by omega, fun e => by omega, fun _ => ⟨y, rfl, hS⟩, fun e => by omega, fun e => by omega⟩) (fun (x44 : Hdr) => ?_)
    refine flend_mk fun w45 hb hf => ?_
    obtain ⟨f13, f11, f10, f9, f8, _⟩ := hf
    obtain ⟨a1, e1, s1⟩ := f13.2.2.1 (.inr rfl)
    obtain ⟨a2, e2, s2⟩ := f11.2.2.2.1 rfl
    obtain ⟨a3, e3, s3⟩ := f10.2.2.2.2 rfl
    obtain ⟨a4, e4, s4⟩ := f8.2.1 rfl
    have q1 := sl_inj e1
    have q2 := sl_inj e2
    have q3 := sl_inj e3
    have q4 := sl_inj e4
    subst q1 q2 q3 q4
    refine call_mono (chkI x24 x34 x39 x44 [3] [[2]] [4] [2] w45 ⟨s4, s3, s2⟩ s1) ?_
    rintro x47 w48 ⟨hx, h'⟩
    exact ⟨by rw [hx.2 sol_ex], (h.trans hb).trans h'⟩
  · have := same (w' := w49) (ags := []) (ags' := []) (hf.1.1 (.inr rfl)) (hf.2.1.1 (.inl rfl))
    subst this
    cases x13 <;> cases e

/-! ### arguments -/
set_option maxRecDepth 100000 in
theorem argSys {w : World} {v : Value} (h : Go.Q.Arg Try.prog w 43 v) : ∃ u r b up T rt, v = sysv u r b ∧ Sys w u r b up T rt ∧ (∀ x ∈ up, I64 x) ∧ (∀ r ∈ T, ∀ x ∈ r, I64 x) ∧ (∀ x ∈ rt, I64 x) := by
  obtain ⟨cs, rfl, hsz, h⟩ := Go.V.Arg.struct Try.underlying43 h
  have hsz' : cs.size = 3 := by rw [hsz]; kernel_rfl
  obtain ⟨x, y, z, rfl⟩ : ∃ x y z, cs = #[x, y, z] := by
    rcases cs with ⟨l⟩
    rcases l with _ | ⟨x, _ | ⟨y, _ | ⟨z, _ | ⟨u, l⟩⟩⟩⟩ <;> simp at hsz'
    exact ⟨x, y, z, rfl⟩
  have e1 : Go.Q.Read Try.prog w 40 [x] := h _ (List.mem_cons_self ..)
  have e2 : Go.Q.Read Try.prog w 41 [y] := h _ (List.mem_cons_of_mem _ (List.mem_cons_self ..))
  have e3 : Go.Q.Read Try.prog w 40 [z] := h _ (List.mem_cons_of_mem _ (List.mem_cons_of_mem _ (List.mem_cons_self ..)))
  obtain ⟨a1, n1, c1, up, q1, _, s1, b1⟩ := Go.V.Read.ints Try.underlying40 Try.underlying2 (by kernel_rfl) e1
  obtain ⟨r, T, q2, s2, b2⟩ := Go.V.Read.tab (g := Value.int .i64) (R := fun n => (Lit.int .i64 n).wf = true) (fun _ h => Go.Q.Read.int Try.underlying2 h) Try.underlying41 (by kernel_rfl) Try.underlying40 (by kernel_rfl) e2
  obtain ⟨a3, n3, c3, rt, q3, _, s3, b3⟩ := Go.V.Read.ints Try.underlying40 Try.underlying2 (by kernel_rfl) e3
  cases q1; cases q2; cases q3
  exact ⟨(a1, n1, c1), r, (a3, n3, c3), up, T, rt, rfl, ⟨s1, s2, s3⟩, fun x hx => bounds_i64 (b1 x hx), fun r hr x hx => bounds_i64 (b2 r hr x hx), fun x hx => bounds_i64 (b3 x hx)⟩
set_option maxRecDepth 100000 in
theorem argInts {w : World} {v : Value} (h : Go.Q.Arg Try.prog w 40 v) : ∃ x xs, v = hv x ∧ Sl w x.1 x.2.1 x.2.2 1 (ints .i64 xs) ∧ ∀ n ∈ xs, I64 n := by
  obtain ⟨a, n, c, rfl, h⟩ := Go.V.Arg.slice Try.underlying40 h
  obtain ⟨a1, n1, c1, xs, q1, _, s1, b1⟩ := Go.V.Read.ints Try.underlying40 Try.underlying2 (by kernel_rfl) h
  cases q1
  exact ⟨(a, n, c), xs, rfl, s1, fun x hx => bounds_i64 (b1 x hx)⟩
set_option maxRecDepth 100000 in
theorem readFrac {w : World} {ch : List Value} (h : Go.Q.Read Try.prog w 23 ch) : ∃ p : Int × Int, ch = encF p ∧ I64 p.1 ∧ I64 p.2 := by
  obtain ⟨hl, h⟩ := Go.Q.Read.struct Try.underlying23 h
  have hsz' : ch.length = 2 := by rw [hl]; kernel_rfl
  obtain ⟨x, y, rfl⟩ : ∃ x y, ch = [x, y] := by
    rcases ch with _ | ⟨x, _ | ⟨y, _ | ⟨z, l⟩⟩⟩ <;> simp at hsz'
    exact ⟨x, y, rfl⟩
  have e1 : Go.Q.Read Try.prog w 2 [x] := h _ (List.mem_cons_self ..)
  have e2 : Go.Q.Read Try.prog w 2 [y] := h _ (List.mem_cons_of_mem _ (List.mem_cons_self ..))
  obtain ⟨n, hn, hw⟩ := Go.Q.Read.int Try.underlying2 e1
  obtain ⟨d, hd, hw'⟩ := Go.Q.Read.int Try.underlying2 e2
  cases hn; cases hd
  exact ⟨(n, d), rfl, bounds_i64 hw, bounds_i64 hw'⟩
set_option maxRecDepth 100000 in
theorem argFracs {w : World} {v : Value} (h : Go.Q.Arg Try.prog w 33 v) : ∃ x, ∃ L : List (Int × Int), v = hv x ∧ Sl w x.1 x.2.1 x.2.2 2 (L.flatMap encF) ∧ ∀ p ∈ L, I64 p.1 ∧ I64 p.2 := by
  obtain ⟨a, n, c, rfl, h⟩ := Go.V.Arg.slice Try.underlying33 h
  obtain ⟨a1, n1, c1, L, q1, _, s1, b1⟩ := Go.V.Read.elems (enc := encF) (R := fun p => I64 p.1 ∧ I64 p.2) encF_len (by omega) (fun _ h => readFrac h) Try.underlying33 (by kernel_rfl) h
  cases q1
  exact ⟨(a, n, c), L, rfl, s1, b1⟩
end Go.Proofs.Ytajpdnphamomjaa

/- The conditions of functions, printed by our tool; each is checked against the code by the kernel. -/



namespace Go.Proofs
open Go Go.V Go.RowKit
/-- slices.IndexFunc[[]querylab/api.Frac,querylab/api.Frac] -/
def S114d (s_a : Option Addr) (s_n : Nat) (s_c : Nat) (w0 : World) (R : Value → World → Prop) : Prop :=
 loop (T := (Int × Unit)) (0, ()) w0 fun (again1 : (Int × Unit) → World → Prop) (s2 : (Int × Unit)) w3 => ∀ _ : Nat → Value,
 br (decide (s2.1 < ((s_n : Nat) : Int))) (rdp Try.prog (Instr.indexAt 33 (.slice s_a s_n s_c) (.int .i64 s2.1)) (.one .addr) fun (x4 : Addr) =>
 rd Try.prog (Instr.loadAt 23 (.pointer (some x4))) (.agg [(.int .i64), (.int .i64)]) w3 fun (x5 : (Int × Int × Unit)) =>
 call Try.prog 85 [(.agg #[(.int .i64 x5.1), (.int .i64 x5.2.1)])] (.one (.one .bool)) w3 fun (x6 : Bool) (w7 : World) =>
 br x6 (R (.int .i64 s2.1) w7)
 (z (IntKind.wrap .i64 (s2.1 + 1)) fun (z8 : Int) =>
 again1 (z8, ()) w7))
 (R (.int .i64 (-1)) w3)
def H114d : Hints := ⟨[(2, 0, [(8, (.one (.int .i64)))])], [], [], []⟩
set_option maxRecDepth 100000 in
theorem S114d_eq (s_a : Option Addr) (s_n : Nat) (s_c : Nat) (w0 : World) (R : Value → World → Prop) : vcFn Try.prog H114d Try.f114 [(.slice s_a s_n s_c), (.func (.func 85) #[] #[])] w0 R = S114d s_a s_n s_c w0 R := by kernel_rfl
set_option maxRecDepth 100000 in
theorem S114d_calls (s_a : Option Addr) (s_n : Nat) (s_c : Nat) (w0 : World) (R : Value → World → Prop) (h : S114d s_a s_n s_c w0 R) : Calls Try.prog 114 #[(.slice s_a s_n s_c), (.func (.func 85) #[] #[])] w0 (ret R) := by
  rw [← S114d_eq] at h; exact vcFn_sound follows_ Try.func114 h

/-- slices.ContainsFunc[[]querylab/api.Frac,querylab/api.Frac] -/
def S84d (s_a : Option Addr) (s_n : Nat) (s_c : Nat) (w0 : World) (R : Value → World → Prop) : Prop :=
 call Try.prog 114 [(.slice s_a s_n s_c), (.func (.func 85) #[] #[])] (.one (.one (.int .i64))) w0 fun (x1 : Int) (w2 : World) =>
 R (.bool (decide (x1 ≥ 0))) w2
def H84d : Hints := ⟨[], [], [], []⟩
set_option maxRecDepth 100000 in
theorem S84d_eq (s_a : Option Addr) (s_n : Nat) (s_c : Nat) (w0 : World) (R : Value → World → Prop) : vcFn Try.prog H84d Try.f84 [(.slice s_a s_n s_c), (.func (.func 85) #[] #[])] w0 R = S84d s_a s_n s_c w0 R := by kernel_rfl
set_option maxRecDepth 100000 in
theorem S84d_calls (s_a : Option Addr) (s_n : Nat) (s_c : Nat) (w0 : World) (R : Value → World → Prop) (h : S84d s_a s_n s_c w0 R) : Calls Try.prog 84 #[(.slice s_a s_n s_c), (.func (.func 85) #[] #[])] w0 (ret R) := by
  rw [← S84d_eq] at h; exact vcFn_sound follows_ Try.func84 h

/-- querylab/linear.Combine$1 -/
def S85 (f_0 : Int) (f_1 : Int) (w0 : World) (R : Value → World → Prop) : Prop :=
 wr Try.prog (Instr.box 23 (.agg #[(.int .i64 f_0), (.int .i64 f_1)])) (.one .addr) w0 fun (x1 : Addr) (w2 : World) =>
 rd Try.prog (Instr.loadAt 23 (.pointer (some x1))) (.agg [(.int .i64), (.int .i64)]) w2 fun (x3 : (Int × Int × Unit)) =>
 call Try.prog 20 [(.agg #[(.int .i64 x3.1), (.int .i64 x3.2.1)])] (.one (.one .bool)) w2 fun (x4 : Bool) (w5 : World) =>
 R (.bool (!x4)) w5
def H85 : Hints := ⟨[], [], [], []⟩
set_option maxRecDepth 100000 in
theorem S85_eq (f_0 : Int) (f_1 : Int) (w0 : World) (R : Value → World → Prop) : vcFn Try.prog H85 Try.f85 [(.agg #[(.int .i64 f_0), (.int .i64 f_1)])] w0 R = S85 f_0 f_1 w0 R := by kernel_rfl
set_option maxRecDepth 100000 in
theorem S85_calls (f_0 : Int) (f_1 : Int) (w0 : World) (R : Value → World → Prop) (h : S85 f_0 f_1 w0 R) : Calls Try.prog 85 #[(.agg #[(.int .i64 f_0), (.int .i64 f_1)])] w0 (ret R) := by
  rw [← S85_eq] at h; exact vcFn_sound follows_ Try.func85 h

/-- querylab/linear.Combine$3 -/
def S88 (row_ : Int) (cap0 : Addr) (cap1 : Addr) (w0 : World) (R : Value → World → Prop) : Prop :=
 drw w0 fun w1 =>
 rd Try.prog (Instr.loadAt 41 (.pointer (some (Addr.add cap0 1)))) (.one .slice) w1 fun (x2 : (Option Addr × Nat × Nat)) =>
 rdp Try.prog (Instr.indexAt 41 (.slice x2.1 x2.2.1 x2.2.2) (.int .i64 row_)) (.one .addr) fun (x3 : Addr) =>
 rd Try.prog (Instr.loadAt 40 (.pointer (some x3))) (.one .slice) w1 fun (x4 : (Option Addr × Nat × Nat)) =>
 rd Try.prog (Instr.loadAt 3 (.pointer (some cap1))) (.one (.int .i64)) w1 fun (x5 : Int) =>
 rdp Try.prog (Instr.indexAt 40 (.slice x4.1 x4.2.1 x4.2.2) (.int .i64 x5)) (.one .addr) fun (x6 : Addr) =>
 rd Try.prog (Instr.loadAt 2 (.pointer (some x6))) (.one (.int .i64)) w1 fun (x7 : Int) =>
 R (.int .i64 x7) w1
def H88 : Hints := ⟨[], [(1, 6)], [], []⟩
set_option maxRecDepth 100000 in
theorem S88_eq (row_ : Int) (cap0 : Addr) (cap1 : Addr) (w0 : World) (R : Value → World → Prop) : vcFn Try.prog H88 Try.f88 [(.int .i64 row_), (.pointer (some cap0)), (.pointer (some cap1))] w0 R = S88 row_ cap0 cap1 w0 R := by kernel_rfl
set_option maxRecDepth 100000 in
theorem S88_calls (row_ : Int) (cap0 : Addr) (cap1 : Addr) (w0 : World) (R : Value → World → Prop) (h : S88 row_ cap0 cap1 w0 R) : Calls Try.prog 88 #[(.int .i64 row_), (.pointer (some cap0)), (.pointer (some cap1))] w0 (ret R) := by
  rw [← S88_eq] at h; exact vcFn_sound follows_ Try.func88 h

/-- querylab/linear.Combine$4 -/
def S89 (row_ : Int) (cap0 : Addr) (w0 : World) (R : Value → World → Prop) : Prop :=
 rd Try.prog (Instr.loadAt 40 (.pointer (some (Addr.add cap0 2)))) (.one .slice) w0 fun (x1 : (Option Addr × Nat × Nat)) =>
 rdp Try.prog (Instr.indexAt 40 (.slice x1.1 x1.2.1 x1.2.2) (.int .i64 row_)) (.one .addr) fun (x2 : Addr) =>
 rd Try.prog (Instr.loadAt 2 (.pointer (some x2))) (.one (.int .i64)) w0 fun (x3 : Int) =>
 R (.int .i64 x3) w0
def H89 : Hints := ⟨[], [], [], []⟩
set_option maxRecDepth 100000 in
theorem S89_eq (row_ : Int) (cap0 : Addr) (w0 : World) (R : Value → World → Prop) : vcFn Try.prog H89 Try.f89 [(.int .i64 row_), (.pointer (some cap0))] w0 R = S89 row_ cap0 w0 R := by kernel_rfl
set_option maxRecDepth 100000 in
theorem S89_calls (row_ : Int) (cap0 : Addr) (w0 : World) (R : Value → World → Prop) (h : S89 row_ cap0 w0 R) : Calls Try.prog 89 #[(.int .i64 row_), (.pointer (some cap0))] w0 (ret R) := by
  rw [← S89_eq] at h; exact vcFn_sound follows_ Try.func89 h

/-- querylab/linear.Combine$2 -/
def S86c (cap0_0 : Addr) (cap0_1 : Addr) (cap0 : Addr) (w0 : World) (R : Value → World → Prop) : Prop :=
 wr Try.prog (Instr.alloc 23 true (.tuple #[])) (.one .addr) w0 fun (x1 : Addr) (w2 : World) =>
 call Try.prog 81 [(.int .i64 0)] (.one (.agg [.bool, .slice, .slice])) w2 fun (x3 : (Bool × (Option Addr × Nat × Nat) × (Option Addr × Nat × Nat) × Unit)) (w4 : World) =>
 wr Try.prog (Instr.alloc 81 true (.tuple #[])) (.one .addr) w4 fun (x5 : Addr) (w6 : World) =>
 wu Try.prog (Instr.storeAt 81 (.pointer (some x5)) (.agg #[(.bool x3.1), (.slice x3.2.1.1 x3.2.1.2.1 x3.2.1.2.2), (.slice x3.2.2.1.1 x3.2.2.1.2.1 x3.2.2.1.2.2)])) w6 fun (w7 : World) =>
 rd Try.prog (Instr.loadAt 33 (.pointer (some cap0))) (.one .slice) w7 fun (x8 : (Option Addr × Nat × Nat)) =>
 loop (T := (Int × Unit)) (0, ()) w7 fun (again9 : (Int × Unit) → World → Prop) (s10 : (Int × Unit)) w11 => ∀ _ : Nat → Value,
 br (decide (s10.1 < ((x8.2.1 : Nat) : Int))) (join (T := (Unit)) (fun (_s13 : (Unit)) w14 => ∀ _ : Nat → Value,
 z (IntKind.wrap .i64 (s10.1 + 1)) fun (z15 : Int) =>
 again9 (z15, ()) w14)
  fun (K12 : (Unit) → World → Prop) =>
 rdp Try.prog (Instr.indexAt 33 (.slice x8.1 x8.2.1 x8.2.2) (.int .i64 s10.1)) (.one .addr) fun (x16 : Addr) =>
 rd Try.prog (Instr.loadAt 23 (.pointer (some x16))) (.agg [(.int .i64), (.int .i64)]) w11 fun (x17 : (Int × Int × Unit)) =>
 wr Try.prog (Instr.alloc 23 true (.tuple #[])) (.one .addr) w11 fun (x18 : Addr) (w19 : World) =>
 wu Try.prog (Instr.storeAt 23 (.pointer (some x18)) (.agg #[(.int .i64 x17.1), (.int .i64 x17.2.1)])) w19 fun (w20 : World) =>
 call Try.prog 88 [(.int .i64 s10.1), (.pointer (some cap0_0)), (.pointer (some cap0_1))] (.one (.one (.int .i64))) w20 fun (x21 : Int) (w22 : World) =>
 br (x21 != 0) (rd Try.prog (Instr.loadAt 2 (.pointer (some x18))) (.one (.int .i64)) w22 fun (x23 : Int) =>
 br (x23 != 0) (drw w22 fun w24 => flEx fun F25 =>
 rd Try.prog (Instr.loadAt 81 (.pointer (some x5))) (.agg [.bool, .slice, .slice]) w24 fun (x26 : (Bool × (Option Addr × Nat × Nat) × (Option Addr × Nat × Nat) × Unit)) =>
 rd Try.prog (Instr.loadAt 23 (.pointer (some x18))) (.agg [(.int .i64), (.int .i64)]) w24 fun (x27 : (Int × Int × Unit)) =>
 flc bel w24 (fun _w29 => True) (fun (w28 : World) =>
   call Try.prog 56 [(.agg #[(.int .i64 x27.1), (.int .i64 x27.2.1)])] (.one (.agg [.bool, .slice, .slice])) w28 fun (x30 : (Bool × (Option Addr × Nat × Nat) × (Option Addr × Nat × Nat) × Unit)) (w31 : World) =>
 (bel w28 w31 ∧ F25 2 [(.agg #[(.int .i64 x27.1), (.int .i64 x27.2.1)])] (.agg #[(.bool x30.1), (.slice x30.2.1.1 x30.2.1.2.1 x30.2.1.2.2), (.slice x30.2.2.1.1 x30.2.2.1.2.1 x30.2.2.1.2.2)]) w31))
  fun (x32 : (Bool × (Option Addr × Nat × Nat) × (Option Addr × Nat × Nat) × Unit)) =>
 flc bel w24 (fun w34 => F25 2 [(.agg #[(.int .i64 x27.1), (.int .i64 x27.2.1)])] (.agg #[(.bool x32.1), (.slice x32.2.1.1 x32.2.1.2.1 x32.2.1.2.2), (.slice x32.2.2.1.1 x32.2.2.1.2.1 x32.2.2.1.2.2)]) w34 ∧ True) (fun (w33 : World) =>
   call Try.prog 81 [(.int .i64 x21)] (.one (.agg [.bool, .slice, .slice])) w33 fun (x35 : (Bool × (Option Addr × Nat × Nat) × (Option Addr × Nat × Nat) × Unit)) (w36 : World) =>
 (bel w33 w36 ∧ F25 4 [(.int .i64 x21)] (.agg #[(.bool x35.1), (.slice x35.2.1.1 x35.2.1.2.1 x35.2.1.2.2), (.slice x35.2.2.1.1 x35.2.2.1.2.1 x35.2.2.1.2.2)]) w36))
  fun (x37 : (Bool × (Option Addr × Nat × Nat) × (Option Addr × Nat × Nat) × Unit)) =>
 flc bel w24 (fun w39 => F25 4 [(.int .i64 x21)] (.agg #[(.bool x37.1), (.slice x37.2.1.1 x37.2.1.2.1 x37.2.1.2.2), (.slice x37.2.2.1.1 x37.2.2.1.2.1 x37.2.2.1.2.2)]) w39 ∧ F25 2 [(.agg #[(.int .i64 x27.1), (.int .i64 x27.2.1)])] (.agg #[(.bool x32.1), (.slice x32.2.1.1 x32.2.1.2.1 x32.2.1.2.2), (.slice x32.2.2.1.1 x32.2.2.1.2.1 x32.2.2.1.2.2)]) w39 ∧ True) (fun (w38 : World) =>
   call Try.prog 68 [(.agg #[(.bool x32.1), (.slice x32.2.1.1 x32.2.1.2.1 x32.2.1.2.2), (.slice x32.2.2.1.1 x32.2.2.1.2.1 x32.2.2.1.2.2)]), (.agg #[(.bool x37.1), (.slice x37.2.1.1 x37.2.1.2.1 x37.2.1.2.2), (.slice x37.2.2.1.1 x37.2.2.1.2.1 x37.2.2.1.2.2)])] (.one (.agg [.bool, .slice, .slice])) w38 fun (x40 : (Bool × (Option Addr × Nat × Nat) × (Option Addr × Nat × Nat) × Unit)) (w41 : World) =>
 (bel w38 w41 ∧ F25 5 [(.agg #[(.bool x32.1), (.slice x32.2.1.1 x32.2.1.2.1 x32.2.1.2.2), (.slice x32.2.2.1.1 x32.2.2.1.2.1 x32.2.2.1.2.2)]), (.agg #[(.bool x37.1), (.slice x37.2.1.1 x37.2.1.2.1 x37.2.1.2.2), (.slice x37.2.2.1.1 x37.2.2.1.2.1 x37.2.2.1.2.2)])] (.agg #[(.bool x40.1), (.slice x40.2.1.1 x40.2.1.2.1 x40.2.1.2.2), (.slice x40.2.2.1.1 x40.2.2.1.2.1 x40.2.2.1.2.2)]) w41))
  fun (x42 : (Bool × (Option Addr × Nat × Nat) × (Option Addr × Nat × Nat) × Unit)) =>
 flend bel w24 (fun w44 => F25 5 [(.agg #[(.bool x32.1), (.slice x32.2.1.1 x32.2.1.2.1 x32.2.1.2.2), (.slice x32.2.2.1.1 x32.2.2.1.2.1 x32.2.2.1.2.2)]), (.agg #[(.bool x37.1), (.slice x37.2.1.1 x37.2.1.2.1 x37.2.1.2.2), (.slice x37.2.2.1.1 x37.2.2.1.2.1 x37.2.2.1.2.2)])] (.agg #[(.bool x42.1), (.slice x42.2.1.1 x42.2.1.2.1 x42.2.1.2.2), (.slice x42.2.2.1.1 x42.2.2.1.2.1 x42.2.2.1.2.2)]) w44 ∧ F25 4 [(.int .i64 x21)] (.agg #[(.bool x37.1), (.slice x37.2.1.1 x37.2.1.2.1 x37.2.1.2.2), (.slice x37.2.2.1.1 x37.2.2.1.2.1 x37.2.2.1.2.2)]) w44 ∧ F25 2 [(.agg #[(.int .i64 x27.1), (.int .i64 x27.2.1)])] (.agg #[(.bool x32.1), (.slice x32.2.1.1 x32.2.1.2.1 x32.2.1.2.2), (.slice x32.2.2.1.1 x32.2.2.1.2.1 x32.2.2.1.2.2)]) w44 ∧ True) fun w43 =>
 call Try.prog 60 [(.agg #[(.bool x26.1), (.slice x26.2.1.1 x26.2.1.2.1 x26.2.1.2.2), (.slice x26.2.2.1.1 x26.2.2.1.2.1 x26.2.2.1.2.2)]), (.agg #[(.bool x42.1), (.slice x42.2.1.1 x42.2.1.2.1 x42.2.1.2.2), (.slice x42.2.2.1.1 x42.2.2.1.2.1 x42.2.2.1.2.2)])] (.one (.agg [.bool, .slice, .slice])) w43 fun (x45 : (Bool × (Option Addr × Nat × Nat) × (Option Addr × Nat × Nat) × Unit)) (w46 : World) =>
 wu Try.prog (Instr.storeAt 81 (.pointer (some x5)) (.agg #[(.bool x45.1), (.slice x45.2.1.1 x45.2.1.2.1 x45.2.1.2.2), (.slice x45.2.2.1.1 x45.2.2.1.2.1 x45.2.2.1.2.2)])) w46 fun (w47 : World) =>
 K12 (()) w47)
 (K12 (()) w22))
 (K12 (()) w22))
 (rd Try.prog (Instr.loadAt 81 (.pointer (some x5))) (.agg [.bool, .slice, .slice]) w11 fun (x48 : (Bool × (Option Addr × Nat × Nat) × (Option Addr × Nat × Nat) × Unit)) =>
 call Try.prog 87 [(.agg #[(.bool x48.1), (.slice x48.2.1.1 x48.2.1.2.1 x48.2.1.2.2), (.slice x48.2.2.1.1 x48.2.2.1.2.1 x48.2.2.1.2.2)])] (.many [(.agg [(.int .i64), (.int .i64)]), (.one .bool)]) w11 fun (x49 : ((Int × Int × Unit) × Bool × Unit)) (w50 : World) =>
 wu Try.prog (Instr.storeAt 23 (.pointer (some x1)) (.agg #[(.int .i64 x49.1.1), (.int .i64 x49.1.2.1)])) w50 fun (w51 : World) =>
 rd Try.prog (loadVar 23 x1) (.agg [(.int .i64), (.int .i64)]) w51 fun (x52 : (Int × Int × Unit)) =>
 R (.tuple #[(.agg #[(.int .i64 x52.1), (.int .i64 x52.2.1)]), (.bool x49.2.1)]) w51)
def H86c : Hints := ⟨[(2, 0, [(12, (.one (.int .i64)))]), (1, 1, [])], [(7, 6)], [], []⟩
set_option maxRecDepth 100000 in
theorem S86c_eq (cap0_0 : Addr) (cap0_1 : Addr) (cap0 : Addr) (w0 : World) (R : Value → World → Prop) : vcFn Try.prog H86c Try.f86 [(.func (.func 88) #[] #[(.pointer (some cap0_0)), (.pointer (some cap0_1))]), (.pointer (some cap0))] w0 R = S86c cap0_0 cap0_1 cap0 w0 R := by kernel_rfl
set_option maxRecDepth 100000 in
theorem S86c_calls (cap0_0 : Addr) (cap0_1 : Addr) (cap0 : Addr) (w0 : World) (R : Value → World → Prop) (h : S86c cap0_0 cap0_1 cap0 w0 R) : Calls Try.prog 86 #[(.func (.func 88) #[] #[(.pointer (some cap0_0)), (.pointer (some cap0_1))]), (.pointer (some cap0))] w0 (ret R) := by
  rw [← S86c_eq] at h; exact vcFn_sound follows_ Try.func86 h

/-- querylab/linear.Combine$2 -/
def S86d (cap0_0 : Addr) (cap0 : Addr) (w0 : World) (R : Value → World → Prop) : Prop :=
 wr Try.prog (Instr.alloc 23 true (.tuple #[])) (.one .addr) w0 fun (x1 : Addr) (w2 : World) =>
 call Try.prog 81 [(.int .i64 0)] (.one (.agg [.bool, .slice, .slice])) w2 fun (x3 : (Bool × (Option Addr × Nat × Nat) × (Option Addr × Nat × Nat) × Unit)) (w4 : World) =>
 wr Try.prog (Instr.alloc 81 true (.tuple #[])) (.one .addr) w4 fun (x5 : Addr) (w6 : World) =>
 wu Try.prog (Instr.storeAt 81 (.pointer (some x5)) (.agg #[(.bool x3.1), (.slice x3.2.1.1 x3.2.1.2.1 x3.2.1.2.2), (.slice x3.2.2.1.1 x3.2.2.1.2.1 x3.2.2.1.2.2)])) w6 fun (w7 : World) =>
 rd Try.prog (Instr.loadAt 33 (.pointer (some cap0))) (.one .slice) w7 fun (x8 : (Option Addr × Nat × Nat)) =>
 loop (T := (Int × Unit)) (0, ()) w7 fun (again9 : (Int × Unit) → World → Prop) (s10 : (Int × Unit)) w11 => ∀ _ : Nat → Value,
 br (decide (s10.1 < ((x8.2.1 : Nat) : Int))) (join (T := (Unit)) (fun (_s13 : (Unit)) w14 => ∀ _ : Nat → Value,
 z (IntKind.wrap .i64 (s10.1 + 1)) fun (z15 : Int) =>
 again9 (z15, ()) w14)
  fun (K12 : (Unit) → World → Prop) =>
 rdp Try.prog (Instr.indexAt 33 (.slice x8.1 x8.2.1 x8.2.2) (.int .i64 s10.1)) (.one .addr) fun (x16 : Addr) =>
 rd Try.prog (Instr.loadAt 23 (.pointer (some x16))) (.agg [(.int .i64), (.int .i64)]) w11 fun (x17 : (Int × Int × Unit)) =>
 wr Try.prog (Instr.alloc 23 true (.tuple #[])) (.one .addr) w11 fun (x18 : Addr) (w19 : World) =>
 wu Try.prog (Instr.storeAt 23 (.pointer (some x18)) (.agg #[(.int .i64 x17.1), (.int .i64 x17.2.1)])) w19 fun (w20 : World) =>
 call Try.prog 89 [(.int .i64 s10.1), (.pointer (some cap0_0))] (.one (.one (.int .i64))) w20 fun (x21 : Int) (w22 : World) =>
 br (x21 != 0) (rd Try.prog (Instr.loadAt 2 (.pointer (some x18))) (.one (.int .i64)) w22 fun (x23 : Int) =>
 br (x23 != 0) (drw w22 fun w24 => flEx fun F25 =>
 rd Try.prog (Instr.loadAt 81 (.pointer (some x5))) (.agg [.bool, .slice, .slice]) w24 fun (x26 : (Bool × (Option Addr × Nat × Nat) × (Option Addr × Nat × Nat) × Unit)) =>
 rd Try.prog (Instr.loadAt 23 (.pointer (some x18))) (.agg [(.int .i64), (.int .i64)]) w24 fun (x27 : (Int × Int × Unit)) =>
 flc bel w24 (fun _w29 => True) (fun (w28 : World) =>
   call Try.prog 56 [(.agg #[(.int .i64 x27.1), (.int .i64 x27.2.1)])] (.one (.agg [.bool, .slice, .slice])) w28 fun (x30 : (Bool × (Option Addr × Nat × Nat) × (Option Addr × Nat × Nat) × Unit)) (w31 : World) =>
 (bel w28 w31 ∧ F25 2 [(.agg #[(.int .i64 x27.1), (.int .i64 x27.2.1)])] (.agg #[(.bool x30.1), (.slice x30.2.1.1 x30.2.1.2.1 x30.2.1.2.2), (.slice x30.2.2.1.1 x30.2.2.1.2.1 x30.2.2.1.2.2)]) w31))
  fun (x32 : (Bool × (Option Addr × Nat × Nat) × (Option Addr × Nat × Nat) × Unit)) =>
 flc bel w24 (fun w34 => F25 2 [(.agg #[(.int .i64 x27.1), (.int .i64 x27.2.1)])] (.agg #[(.bool x32.1), (.slice x32.2.1.1 x32.2.1.2.1 x32.2.1.2.2), (.slice x32.2.2.1.1 x32.2.2.1.2.1 x32.2.2.1.2.2)]) w34 ∧ True) (fun (w33 : World) =>
   call Try.prog 81 [(.int .i64 x21)] (.one (.agg [.bool, .slice, .slice])) w33 fun (x35 : (Bool × (Option Addr × Nat × Nat) × (Option Addr × Nat × Nat) × Unit)) (w36 : World) =>
 (bel w33 w36 ∧ F25 4 [(.int .i64 x21)] (.agg #[(.bool x35.1), (.slice x35.2.1.1 x35.2.1.2.1 x35.2.1.2.2), (.slice x35.2.2.1.1 x35.2.2.1.2.1 x35.2.2.1.2.2)]) w36))
  fun (x37 : (Bool × (Option Addr × Nat × Nat) × (Option Addr × Nat × Nat) × Unit)) =>
 flc bel w24 (fun w39 => F25 4 [(.int .i64 x21)] (.agg #[(.bool x37.1), (.slice x37.2.1.1 x37.2.1.2.1 x37.2.1.2.2), (.slice x37.2.2.1.1 x37.2.2.1.2.1 x37.2.2.1.2.2)]) w39 ∧ F25 2 [(.agg #[(.int .i64 x27.1), (.int .i64 x27.2.1)])] (.agg #[(.bool x32.1), (.slice x32.2.1.1 x32.2.1.2.1 x32.2.1.2.2), (.slice x32.2.2.1.1 x32.2.2.1.2.1 x32.2.2.1.2.2)]) w39 ∧ True) (fun (w38 : World) =>
   call Try.prog 68 [(.agg #[(.bool x32.1), (.slice x32.2.1.1 x32.2.1.2.1 x32.2.1.2.2), (.slice x32.2.2.1.1 x32.2.2.1.2.1 x32.2.2.1.2.2)]), (.agg #[(.bool x37.1), (.slice x37.2.1.1 x37.2.1.2.1 x37.2.1.2.2), (.slice x37.2.2.1.1 x37.2.2.1.2.1 x37.2.2.1.2.2)])] (.one (.agg [.bool, .slice, .slice])) w38 fun (x40 : (Bool × (Option Addr × Nat × Nat) × (Option Addr × Nat × Nat) × Unit)) (w41 : World) =>
 (bel w38 w41 ∧ F25 5 [(.agg #[(.bool x32.1), (.slice x32.2.1.1 x32.2.1.2.1 x32.2.1.2.2), (.slice x32.2.2.1.1 x32.2.2.1.2.1 x32.2.2.1.2.2)]), (.agg #[(.bool x37.1), (.slice x37.2.1.1 x37.2.1.2.1 x37.2.1.2.2), (.slice x37.2.2.1.1 x37.2.2.1.2.1 x37.2.2.1.2.2)])] (.agg #[(.bool x40.1), (.slice x40.2.1.1 x40.2.1.2.1 x40.2.1.2.2), (.slice x40.2.2.1.1 x40.2.2.1.2.1 x40.2.2.1.2.2)]) w41))
  fun (x42 : (Bool × (Option Addr × Nat × Nat) × (Option Addr × Nat × Nat) × Unit)) =>
 flend bel w24 (fun w44 => F25 5 [(.agg #[(.bool x32.1), (.slice x32.2.1.1 x32.2.1.2.1 x32.2.1.2.2), (.slice x32.2.2.1.1 x32.2.2.1.2.1 x32.2.2.1.2.2)]), (.agg #[(.bool x37.1), (.slice x37.2.1.1 x37.2.1.2.1 x37.2.1.2.2), (.slice x37.2.2.1.1 x37.2.2.1.2.1 x37.2.2.1.2.2)])] (.agg #[(.bool x42.1), (.slice x42.2.1.1 x42.2.1.2.1 x42.2.1.2.2), (.slice x42.2.2.1.1 x42.2.2.1.2.1 x42.2.2.1.2.2)]) w44 ∧ F25 4 [(.int .i64 x21)] (.agg #[(.bool x37.1), (.slice x37.2.1.1 x37.2.1.2.1 x37.2.1.2.2), (.slice x37.2.2.1.1 x37.2.2.1.2.1 x37.2.2.1.2.2)]) w44 ∧ F25 2 [(.agg #[(.int .i64 x27.1), (.int .i64 x27.2.1)])] (.agg #[(.bool x32.1), (.slice x32.2.1.1 x32.2.1.2.1 x32.2.1.2.2), (.slice x32.2.2.1.1 x32.2.2.1.2.1 x32.2.2.1.2.2)]) w44 ∧ True) fun w43 =>
 call Try.prog 60 [(.agg #[(.bool x26.1), (.slice x26.2.1.1 x26.2.1.2.1 x26.2.1.2.2), (.slice x26.2.2.1.1 x26.2.2.1.2.1 x26.2.2.1.2.2)]), (.agg #[(.bool x42.1), (.slice x42.2.1.1 x42.2.1.2.1 x42.2.1.2.2), (.slice x42.2.2.1.1 x42.2.2.1.2.1 x42.2.2.1.2.2)])] (.one (.agg [.bool, .slice, .slice])) w43 fun (x45 : (Bool × (Option Addr × Nat × Nat) × (Option Addr × Nat × Nat) × Unit)) (w46 : World) =>
 wu Try.prog (Instr.storeAt 81 (.pointer (some x5)) (.agg #[(.bool x45.1), (.slice x45.2.1.1 x45.2.1.2.1 x45.2.1.2.2), (.slice x45.2.2.1.1 x45.2.2.1.2.1 x45.2.2.1.2.2)])) w46 fun (w47 : World) =>
 K12 (()) w47)
 (K12 (()) w22))
 (K12 (()) w22))
 (rd Try.prog (Instr.loadAt 81 (.pointer (some x5))) (.agg [.bool, .slice, .slice]) w11 fun (x48 : (Bool × (Option Addr × Nat × Nat) × (Option Addr × Nat × Nat) × Unit)) =>
 call Try.prog 87 [(.agg #[(.bool x48.1), (.slice x48.2.1.1 x48.2.1.2.1 x48.2.1.2.2), (.slice x48.2.2.1.1 x48.2.2.1.2.1 x48.2.2.1.2.2)])] (.many [(.agg [(.int .i64), (.int .i64)]), (.one .bool)]) w11 fun (x49 : ((Int × Int × Unit) × Bool × Unit)) (w50 : World) =>
 wu Try.prog (Instr.storeAt 23 (.pointer (some x1)) (.agg #[(.int .i64 x49.1.1), (.int .i64 x49.1.2.1)])) w50 fun (w51 : World) =>
 rd Try.prog (loadVar 23 x1) (.agg [(.int .i64), (.int .i64)]) w51 fun (x52 : (Int × Int × Unit)) =>
 R (.tuple #[(.agg #[(.int .i64 x52.1), (.int .i64 x52.2.1)]), (.bool x49.2.1)]) w51)
def H86d : Hints := ⟨[(2, 0, [(12, (.one (.int .i64)))]), (1, 1, [])], [(7, 6)], [], []⟩
set_option maxRecDepth 100000 in
theorem S86d_eq (cap0_0 : Addr) (cap0 : Addr) (w0 : World) (R : Value → World → Prop) : vcFn Try.prog H86d Try.f86 [(.func (.func 89) #[] #[(.pointer (some cap0_0))]), (.pointer (some cap0))] w0 R = S86d cap0_0 cap0 w0 R := by kernel_rfl
set_option maxRecDepth 100000 in
theorem S86d_calls (cap0_0 : Addr) (cap0 : Addr) (w0 : World) (R : Value → World → Prop) (h : S86d cap0_0 cap0 w0 R) : Calls Try.prog 86 #[(.func (.func 89) #[] #[(.pointer (some cap0_0))]), (.pointer (some cap0))] w0 (ret R) := by
  rw [← S86d_eq] at h; exact vcFn_sound follows_ Try.func86 h

/-- querylab/linear.Combine -/
def S36 (s_0a : Option Addr) (s_0n : Nat) (s_0c : Nat) (s_1a : Option Addr) (s_1n : Nat) (s_1c : Nat) (s_2a : Option Addr) (s_2n : Nat) (s_2c : Nat) (m_a : Option Addr) (m_n : Nat) (m_c : Nat) (w0 : World) (R : Value → World → Prop) : Prop :=
 wr Try.prog (Instr.box 43 (.agg #[(.slice s_0a s_0n s_0c), (.slice s_1a s_1n s_1c), (.slice s_2a s_2n s_2c)])) (.one .addr) w0 fun (x1 : Addr) (w2 : World) =>
 wr Try.prog (Instr.box 33 (.slice m_a m_n m_c)) (.one .addr) w2 fun (x3 : Addr) (w4 : World) =>
 wr Try.prog (Instr.alloc 23 true (.tuple #[])) (.one .addr) w4 fun (x5 : Addr) (w6 : World) =>
 rd Try.prog (Instr.loadAt 43 (.pointer (some x1))) (.agg [.slice, .slice, .slice]) w6 fun (x7 : ((Option Addr × Nat × Nat) × (Option Addr × Nat × Nat) × (Option Addr × Nat × Nat) × Unit)) =>
 call Try.prog 30 [(.agg #[(.slice x7.1.1 x7.1.2.1 x7.1.2.2), (.slice x7.2.1.1 x7.2.1.2.1 x7.2.1.2.2), (.slice x7.2.2.1.1 x7.2.2.1.2.1 x7.2.2.1.2.2)])] (.one (.one (.int .i64))) w6 fun (x8 : Int) (w9 : World) =>
 br (x8 != 0) (wu Try.prog (Instr.storeAt 23 (.pointer (some x5)) (.agg #[(.int .i64 0), (.int .i64 0)])) w9 fun (w10 : World) =>
 rd Try.prog (loadVar 23 x5) (.agg [(.int .i64), (.int .i64)]) w10 fun (x11 : (Int × Int × Unit)) =>
 R (.tuple #[(.slice none 0 0), (.agg #[(.int .i64 x11.1), (.int .i64 x11.2.1)]), (.int .i64 x8)]) w10)
 (rd Try.prog (Instr.loadAt 33 (.pointer (some x3))) (.one .slice) w9 fun (x12 : (Option Addr × Nat × Nat)) =>
 rd Try.prog (Instr.loadAt 41 (.pointer (some (Addr.add x1 1)))) (.one .slice) w9 fun (x13 : (Option Addr × Nat × Nat)) =>
 br (((x12.2.1 : Nat) : Int) != ((x13.2.1 : Nat) : Int)) (wu Try.prog (Instr.storeAt 23 (.pointer (some x5)) (.agg #[(.int .i64 0), (.int .i64 0)])) w9 fun (w14 : World) =>
 rd Try.prog (loadVar 23 x5) (.agg [(.int .i64), (.int .i64)]) w14 fun (x15 : (Int × Int × Unit)) =>
 R (.tuple #[(.slice none 0 0), (.agg #[(.int .i64 x15.1), (.int .i64 x15.2.1)]), (.int .i64 9)]) w14)
 (rd Try.prog (Instr.loadAt 33 (.pointer (some x3))) (.one .slice) w9 fun (x16 : (Option Addr × Nat × Nat)) =>
 call Try.prog 84 [(.slice x16.1 x16.2.1 x16.2.2), (.func (.func 85) #[] #[])] (.one (.one .bool)) w9 fun (x17 : Bool) (w18 : World) =>
 br x17 (wu Try.prog (Instr.storeAt 23 (.pointer (some x5)) (.agg #[(.int .i64 0), (.int .i64 0)])) w18 fun (w19 : World) =>
 rd Try.prog (loadVar 23 x5) (.agg [(.int .i64), (.int .i64)]) w19 fun (x20 : (Int × Int × Unit)) =>
 R (.tuple #[(.slice none 0 0), (.agg #[(.int .i64 x20.1), (.int .i64 x20.2.1)]), (.int .i64 1)]) w19)
 (rd Try.prog (Instr.loadAt 40 (.pointer (some x1))) (.one .slice) w18 fun (x21 : (Option Addr × Nat × Nat)) =>
 loop (T := ((Option Addr × Nat × Nat) × Int × Unit)) ((none, 0, 0), 0, ()) w18 fun (again22 : ((Option Addr × Nat × Nat) × Int × Unit) → World → Prop) (s23 : ((Option Addr × Nat × Nat) × Int × Unit)) w24 => ∀ _ : Nat → Value,
 br (decide (s23.2.1 < ((x21.2.1 : Nat) : Int))) (wr Try.prog (Instr.alloc 3 true (.tuple #[])) (.one .addr) w24 fun (x25 : Addr) (w26 : World) =>
 wu Try.prog (Instr.storeAt 3 (.pointer (some x25)) (.int .i64 s23.2.1)) w26 fun (w27 : World) =>
 call Try.prog 86 [(.func (.func 88) #[] #[(.pointer (some x1)), (.pointer (some x25))]), (.pointer (some x3))] (.many [(.agg [(.int .i64), (.int .i64)]), (.one .bool)]) w27 fun (x28 : ((Int × Int × Unit) × Bool × Unit)) (w29 : World) =>
 wr Try.prog (Instr.alloc 23 true (.tuple #[])) (.one .addr) w29 fun (x30 : Addr) (w31 : World) =>
 wu Try.prog (Instr.storeAt 23 (.pointer (some x30)) (.agg #[(.int .i64 x28.1.1), (.int .i64 x28.1.2.1)])) w31 fun (w32 : World) =>
 br (!x28.2.1) (wu Try.prog (Instr.storeAt 23 (.pointer (some x5)) (.agg #[(.int .i64 0), (.int .i64 0)])) w32 fun (w33 : World) =>
 rd Try.prog (loadVar 23 x5) (.agg [(.int .i64), (.int .i64)]) w33 fun (x34 : (Int × Int × Unit)) =>
 R (.tuple #[(.slice none 0 0), (.agg #[(.int .i64 x34.1), (.int .i64 x34.2.1)]), (.int .i64 8)]) w33)
 (rd Try.prog (Instr.loadAt 23 (.pointer (some x30))) (.agg [(.int .i64), (.int .i64)]) w32 fun (x35 : (Int × Int × Unit)) =>
 wr Try.prog (Instr.buildSlice 33 1 #[(0, (.agg #[(.int .i64 x35.1), (.int .i64 x35.2.1)]))]) (.one .slice) w32 fun (x36 : (Option Addr × Nat × Nat)) (w37 : World) =>
 wr Try.prog (Builtin.append_ #[33, 33] 33 #[(.slice s23.1.1 s23.1.2.1 s23.1.2.2), (.slice x36.1 x36.2.1 x36.2.2)]) (.one .slice) w37 fun (x38 : (Option Addr × Nat × Nat)) (w39 : World) =>
 z (IntKind.wrap .i64 (s23.2.1 + 1)) fun (z40 : Int) =>
 again22 ((x38.1, x38.2.1, x38.2.2), z40, ()) w39))
 (call Try.prog 86 [(.func (.func 89) #[] #[(.pointer (some x1))]), (.pointer (some x3))] (.many [(.agg [(.int .i64), (.int .i64)]), (.one .bool)]) w24 fun (x41 : ((Int × Int × Unit) × Bool × Unit)) (w42 : World) =>
 wr Try.prog (Instr.alloc 23 true (.tuple #[])) (.one .addr) w42 fun (x43 : Addr) (w44 : World) =>
 wu Try.prog (Instr.storeAt 23 (.pointer (some x43)) (.agg #[(.int .i64 x41.1.1), (.int .i64 x41.1.2.1)])) w44 fun (w45 : World) =>
 br (!x41.2.1) (wu Try.prog (Instr.storeAt 23 (.pointer (some x5)) (.agg #[(.int .i64 0), (.int .i64 0)])) w45 fun (w46 : World) =>
 rd Try.prog (loadVar 23 x5) (.agg [(.int .i64), (.int .i64)]) w46 fun (x47 : (Int × Int × Unit)) =>
 R (.tuple #[(.slice none 0 0), (.agg #[(.int .i64 x47.1), (.int .i64 x47.2.1)]), (.int .i64 8)]) w46)
 (drw w45 fun w48 =>
 rd Try.prog (Instr.loadAt 23 (.pointer (some x43))) (.agg [(.int .i64), (.int .i64)]) w48 fun (x49 : (Int × Int × Unit)) =>
 wu Try.prog (Instr.storeAt 23 (.pointer (some x5)) (.agg #[(.int .i64 x49.1), (.int .i64 x49.2.1)])) w48 fun (w50 : World) =>
 rd Try.prog (loadVar 23 x5) (.agg [(.int .i64), (.int .i64)]) w50 fun (x51 : (Int × Int × Unit)) =>
 R (.tuple #[(.slice s23.1.1 s23.1.2.1 s23.1.2.2), (.agg #[(.int .i64 x51.1), (.int .i64 x51.2.1)]), (.int .i64 0)]) w50)))))
def H36 : Hints := ⟨[(2, 0, [(9, (.one .slice)), (35, (.one (.int .i64)))])], [(21, 3)], [], []⟩
set_option maxRecDepth 100000 in
theorem S36_eq (s_0a : Option Addr) (s_0n : Nat) (s_0c : Nat) (s_1a : Option Addr) (s_1n : Nat) (s_1c : Nat) (s_2a : Option Addr) (s_2n : Nat) (s_2c : Nat) (m_a : Option Addr) (m_n : Nat) (m_c : Nat) (w0 : World) (R : Value → World → Prop) : vcFn Try.prog H36 Try.f36 [(.agg #[(.slice s_0a s_0n s_0c), (.slice s_1a s_1n s_1c), (.slice s_2a s_2n s_2c)]), (.slice m_a m_n m_c)] w0 R = S36 s_0a s_0n s_0c s_1a s_1n s_1c s_2a s_2n s_2c m_a m_n m_c w0 R := by kernel_rfl
set_option maxRecDepth 100000 in
theorem S36_calls (s_0a : Option Addr) (s_0n : Nat) (s_0c : Nat) (s_1a : Option Addr) (s_1n : Nat) (s_1c : Nat) (s_2a : Option Addr) (s_2n : Nat) (s_2c : Nat) (m_a : Option Addr) (m_n : Nat) (m_c : Nat) (w0 : World) (R : Value → World → Prop) (h : S36 s_0a s_0n s_0c s_1a s_1n s_1c s_2a s_2n s_2c m_a m_n m_c w0 R) : Calls Try.prog 36 #[(.agg #[(.slice s_0a s_0n s_0c), (.slice s_1a s_1n s_1c), (.slice s_2a s_2n s_2c)]), (.slice m_a m_n m_c)] w0 (ret R) := by
  rw [← S36_eq] at h; exact vcFn_sound follows_ Try.func36 h

/-- querylab/querylabref11.combined -/
def S90 (s_0a : Option Addr) (s_0n : Nat) (s_0c : Nat) (s_1a : Option Addr) (s_1n : Nat) (s_1c : Nat) (s_2a : Option Addr) (s_2n : Nat) (s_2c : Nat) (m_a : Option Addr) (m_n : Nat) (m_c : Nat) (w0 : World) (R : Value → World → Prop) : Prop :=
 wr Try.prog (Instr.box 43 (.agg #[(.slice s_0a s_0n s_0c), (.slice s_1a s_1n s_1c), (.slice s_2a s_2n s_2c)])) (.one .addr) w0 fun (x1 : Addr) (w2 : World) =>
 wr Try.prog (Instr.alloc 90 true (.tuple #[])) (.one .addr) w2 fun (x3 : Addr) (w4 : World) =>
 rd Try.prog (Instr.loadAt 43 (.pointer (some x1))) (.agg [.slice, .slice, .slice]) w4 fun (x5 : ((Option Addr × Nat × Nat) × (Option Addr × Nat × Nat) × (Option Addr × Nat × Nat) × Unit)) =>
 call Try.prog 31 [(.agg #[(.slice x5.1.1 x5.1.2.1 x5.1.2.2), (.slice x5.2.1.1 x5.2.1.2.1 x5.2.1.2.2), (.slice x5.2.2.1.1 x5.2.2.1.2.1 x5.2.2.1.2.2)])] (.one (.one (.int .i64))) w4 fun (x6 : Int) (w7 : World) =>
 br (x6 != 0) (wu Try.prog (Instr.storeAt 90 (.pointer (some x3)) (.agg #[(.bool false), (.slice none 0 0), (.slice none 0 0)])) w7 fun (w8 : World) =>
 rd Try.prog (loadVar 90 x3) (.agg [.bool, .slice, .slice]) w8 fun (x9 : (Bool × (Option Addr × Nat × Nat) × (Option Addr × Nat × Nat) × Unit)) =>
 R (.tuple #[(.slice none 0 0), (.agg #[(.bool x9.1), (.slice x9.2.1.1 x9.2.1.2.1 x9.2.1.2.2), (.slice x9.2.2.1.1 x9.2.2.1.2.1 x9.2.2.1.2.2)]), (.int .i64 x6)]) w8)
 (rd Try.prog (Instr.loadAt 41 (.pointer (some (Addr.add x1 1)))) (.one .slice) w7 fun (x10 : (Option Addr × Nat × Nat)) =>
 br (((m_n : Nat) : Int) != ((x10.2.1 : Nat) : Int)) (wu Try.prog (Instr.storeAt 90 (.pointer (some x3)) (.agg #[(.bool false), (.slice none 0 0), (.slice none 0 0)])) w7 fun (w11 : World) =>
 rd Try.prog (loadVar 90 x3) (.agg [.bool, .slice, .slice]) w11 fun (x12 : (Bool × (Option Addr × Nat × Nat) × (Option Addr × Nat × Nat) × Unit)) =>
 R (.tuple #[(.slice none 0 0), (.agg #[(.bool x12.1), (.slice x12.2.1.1 x12.2.1.2.1 x12.2.1.2.2), (.slice x12.2.2.1.1 x12.2.2.1.2.1 x12.2.2.1.2.2)]), (.int .i64 9)]) w11)
 (loop (T := (Int × Unit)) (0, ()) w7 fun (again13 : (Int × Unit) → World → Prop) (s14 : (Int × Unit)) w15 => ∀ _ : Nat → Value,
 br (decide (s14.1 < ((m_n : Nat) : Int))) (rdp Try.prog (Instr.indexAt 33 (.slice m_a m_n m_c) (.int .i64 s14.1)) (.one .addr) fun (x16 : Addr) =>
 rd Try.prog (Instr.loadAt 23 (.pointer (some x16))) (.agg [(.int .i64), (.int .i64)]) w15 fun (x17 : (Int × Int × Unit)) =>
 call Try.prog 15 [(.agg #[(.int .i64 x17.1), (.int .i64 x17.2.1)])] (.one (.one .bool)) w15 fun (x18 : Bool) (w19 : World) =>
 br (!x18) (wu Try.prog (Instr.storeAt 90 (.pointer (some x3)) (.agg #[(.bool false), (.slice none 0 0), (.slice none 0 0)])) w19 fun (w20 : World) =>
 rd Try.prog (loadVar 90 x3) (.agg [.bool, .slice, .slice]) w20 fun (x21 : (Bool × (Option Addr × Nat × Nat) × (Option Addr × Nat × Nat) × Unit)) =>
 R (.tuple #[(.slice none 0 0), (.agg #[(.bool x21.1), (.slice x21.2.1.1 x21.2.1.2.1 x21.2.1.2.2), (.slice x21.2.2.1.1 x21.2.2.1.2.1 x21.2.2.1.2.2)]), (.int .i64 1)]) w20)
 (z (IntKind.wrap .i64 (s14.1 + 1)) fun (z22 : Int) =>
 again13 (z22, ()) w19))
 (loop (T := ((Option Addr × Nat × Nat) × Int × Unit)) ((none, 0, 0), 0, ()) w15 fun (again23 : ((Option Addr × Nat × Nat) × Int × Unit) → World → Prop) (s24 : ((Option Addr × Nat × Nat) × Int × Unit)) w25 => ∀ _ : Nat → Value,
 rd Try.prog (Instr.loadAt 40 (.pointer (some x1))) (.one .slice) w25 fun (x26 : (Option Addr × Nat × Nat)) =>
 br (decide (s24.2.1 < ((x26.2.1 : Nat) : Int))) (call Try.prog 83 [(.int .i64 0)] (.one (.agg [.bool, .slice, .slice])) w25 fun (x27 : (Bool × (Option Addr × Nat × Nat) × (Option Addr × Nat × Nat) × Unit)) (w28 : World) =>
 wr Try.prog (Instr.alloc 90 true (.tuple #[])) (.one .addr) w28 fun (x29 : Addr) (w30 : World) =>
 wu Try.prog (Instr.storeAt 90 (.pointer (some x29)) (.agg #[(.bool x27.1), (.slice x27.2.1.1 x27.2.1.2.1 x27.2.1.2.2), (.slice x27.2.2.1.1 x27.2.2.1.2.1 x27.2.2.1.2.2)])) w30 fun (w31 : World) =>
 loop (T := (Int × Unit)) (0, ()) w31 fun (again32 : (Int × Unit) → World → Prop) (s33 : (Int × Unit)) w34 => ∀ _ : Nat → Value,
 br (decide (s33.1 < ((m_n : Nat) : Int))) (join (T := (Unit)) (fun (_s36 : (Unit)) w37 => ∀ _ : Nat → Value,
 z (IntKind.wrap .i64 (s33.1 + 1)) fun (z38 : Int) =>
 again32 (z38, ()) w37)
  fun (K35 : (Unit) → World → Prop) =>
 rdp Try.prog (Instr.indexAt 33 (.slice m_a m_n m_c) (.int .i64 s33.1)) (.one .addr) fun (x39 : Addr) =>
 rd Try.prog (Instr.loadAt 2 (.pointer (some x39))) (.one (.int .i64)) w34 fun (x40 : Int) =>
 br (x40 != 0) (rd Try.prog (Instr.loadAt 41 (.pointer (some (Addr.add x1 1)))) (.one .slice) w34 fun (x41 : (Option Addr × Nat × Nat)) =>
 rdp Try.prog (Instr.indexAt 41 (.slice x41.1 x41.2.1 x41.2.2) (.int .i64 s33.1)) (.one .addr) fun (x42 : Addr) =>
 rd Try.prog (Instr.loadAt 40 (.pointer (some x42))) (.one .slice) w34 fun (x43 : (Option Addr × Nat × Nat)) =>
 rdp Try.prog (Instr.indexAt 40 (.slice x43.1 x43.2.1 x43.2.2) (.int .i64 s24.2.1)) (.one .addr) fun (x44 : Addr) =>
 rd Try.prog (Instr.loadAt 2 (.pointer (some x44))) (.one (.int .i64)) w34 fun (x45 : Int) =>
 br (x45 != 0) (drw w34 fun w46 => flEx fun F47 =>
 rd Try.prog (Instr.loadAt 90 (.pointer (some x29))) (.agg [.bool, .slice, .slice]) w46 fun (x48 : (Bool × (Option Addr × Nat × Nat) × (Option Addr × Nat × Nat) × Unit)) =>
 rdp Try.prog (Instr.indexAt 33 (.slice m_a m_n m_c) (.int .i64 s33.1)) (.one .addr) fun (x49 : Addr) =>
 rd Try.prog (Instr.loadAt 23 (.pointer (some x49))) (.agg [(.int .i64), (.int .i64)]) w46 fun (x50 : (Int × Int × Unit)) =>
 flc bel w46 (fun _w52 => True) (fun (w51 : World) =>
   call Try.prog 63 [(.agg #[(.int .i64 x50.1), (.int .i64 x50.2.1)])] (.one (.agg [.bool, .slice, .slice])) w51 fun (x53 : (Bool × (Option Addr × Nat × Nat) × (Option Addr × Nat × Nat) × Unit)) (w54 : World) =>
 (bel w51 w54 ∧ F47 5 [(.agg #[(.int .i64 x50.1), (.int .i64 x50.2.1)])] (.agg #[(.bool x53.1), (.slice x53.2.1.1 x53.2.1.2.1 x53.2.1.2.2), (.slice x53.2.2.1.1 x53.2.2.1.2.1 x53.2.2.1.2.2)]) w54))
  fun (x55 : (Bool × (Option Addr × Nat × Nat) × (Option Addr × Nat × Nat) × Unit)) =>
 rd Try.prog (Instr.loadAt 41 (.pointer (some (Addr.add x1 1)))) (.one .slice) w46 fun (x56 : (Option Addr × Nat × Nat)) =>
 rdp Try.prog (Instr.indexAt 41 (.slice x56.1 x56.2.1 x56.2.2) (.int .i64 s33.1)) (.one .addr) fun (x57 : Addr) =>
 rd Try.prog (Instr.loadAt 40 (.pointer (some x57))) (.one .slice) w46 fun (x58 : (Option Addr × Nat × Nat)) =>
 rdp Try.prog (Instr.indexAt 40 (.slice x58.1 x58.2.1 x58.2.2) (.int .i64 s24.2.1)) (.one .addr) fun (x59 : Addr) =>
 rd Try.prog (Instr.loadAt 2 (.pointer (some x59))) (.one (.int .i64)) w46 fun (x60 : Int) =>
 flc bel w46 (fun w62 => F47 5 [(.agg #[(.int .i64 x50.1), (.int .i64 x50.2.1)])] (.agg #[(.bool x55.1), (.slice x55.2.1.1 x55.2.1.2.1 x55.2.1.2.2), (.slice x55.2.2.1.1 x55.2.2.1.2.1 x55.2.2.1.2.2)]) w62 ∧ True) (fun (w61 : World) =>
   call Try.prog 83 [(.int .i64 x60)] (.one (.agg [.bool, .slice, .slice])) w61 fun (x63 : (Bool × (Option Addr × Nat × Nat) × (Option Addr × Nat × Nat) × Unit)) (w64 : World) =>
 (bel w61 w64 ∧ F47 14 [(.int .i64 x60)] (.agg #[(.bool x63.1), (.slice x63.2.1.1 x63.2.1.2.1 x63.2.1.2.2), (.slice x63.2.2.1.1 x63.2.2.1.2.1 x63.2.2.1.2.2)]) w64))
  fun (x65 : (Bool × (Option Addr × Nat × Nat) × (Option Addr × Nat × Nat) × Unit)) =>
 flc bel w46 (fun w67 => F47 14 [(.int .i64 x60)] (.agg #[(.bool x65.1), (.slice x65.2.1.1 x65.2.1.2.1 x65.2.1.2.2), (.slice x65.2.2.1.1 x65.2.2.1.2.1 x65.2.2.1.2.2)]) w67 ∧ F47 5 [(.agg #[(.int .i64 x50.1), (.int .i64 x50.2.1)])] (.agg #[(.bool x55.1), (.slice x55.2.1.1 x55.2.1.2.1 x55.2.1.2.2), (.slice x55.2.2.1.1 x55.2.2.1.2.1 x55.2.2.1.2.2)]) w67 ∧ True) (fun (w66 : World) =>
   call Try.prog 69 [(.agg #[(.bool x55.1), (.slice x55.2.1.1 x55.2.1.2.1 x55.2.1.2.2), (.slice x55.2.2.1.1 x55.2.2.1.2.1 x55.2.2.1.2.2)]), (.agg #[(.bool x65.1), (.slice x65.2.1.1 x65.2.1.2.1 x65.2.1.2.2), (.slice x65.2.2.1.1 x65.2.2.1.2.1 x65.2.2.1.2.2)])] (.one (.agg [.bool, .slice, .slice])) w66 fun (x68 : (Bool × (Option Addr × Nat × Nat) × (Option Addr × Nat × Nat) × Unit)) (w69 : World) =>
 (bel w66 w69 ∧ F47 15 [(.agg #[(.bool x55.1), (.slice x55.2.1.1 x55.2.1.2.1 x55.2.1.2.2), (.slice x55.2.2.1.1 x55.2.2.1.2.1 x55.2.2.1.2.2)]), (.agg #[(.bool x65.1), (.slice x65.2.1.1 x65.2.1.2.1 x65.2.1.2.2), (.slice x65.2.2.1.1 x65.2.2.1.2.1 x65.2.2.1.2.2)])] (.agg #[(.bool x68.1), (.slice x68.2.1.1 x68.2.1.2.1 x68.2.1.2.2), (.slice x68.2.2.1.1 x68.2.2.1.2.1 x68.2.2.1.2.2)]) w69))
  fun (x70 : (Bool × (Option Addr × Nat × Nat) × (Option Addr × Nat × Nat) × Unit)) =>
 flend bel w46 (fun w72 => F47 15 [(.agg #[(.bool x55.1), (.slice x55.2.1.1 x55.2.1.2.1 x55.2.1.2.2), (.slice x55.2.2.1.1 x55.2.2.1.2.1 x55.2.2.1.2.2)]), (.agg #[(.bool x65.1), (.slice x65.2.1.1 x65.2.1.2.1 x65.2.1.2.2), (.slice x65.2.2.1.1 x65.2.2.1.2.1 x65.2.2.1.2.2)])] (.agg #[(.bool x70.1), (.slice x70.2.1.1 x70.2.1.2.1 x70.2.1.2.2), (.slice x70.2.2.1.1 x70.2.2.1.2.1 x70.2.2.1.2.2)]) w72 ∧ F47 14 [(.int .i64 x60)] (.agg #[(.bool x65.1), (.slice x65.2.1.1 x65.2.1.2.1 x65.2.1.2.2), (.slice x65.2.2.1.1 x65.2.2.1.2.1 x65.2.2.1.2.2)]) w72 ∧ F47 5 [(.agg #[(.int .i64 x50.1), (.int .i64 x50.2.1)])] (.agg #[(.bool x55.1), (.slice x55.2.1.1 x55.2.1.2.1 x55.2.1.2.2), (.slice x55.2.2.1.1 x55.2.2.1.2.1 x55.2.2.1.2.2)]) w72 ∧ True) fun w71 =>
 call Try.prog 62 [(.agg #[(.bool x48.1), (.slice x48.2.1.1 x48.2.1.2.1 x48.2.1.2.2), (.slice x48.2.2.1.1 x48.2.2.1.2.1 x48.2.2.1.2.2)]), (.agg #[(.bool x70.1), (.slice x70.2.1.1 x70.2.1.2.1 x70.2.1.2.2), (.slice x70.2.2.1.1 x70.2.2.1.2.1 x70.2.2.1.2.2)])] (.one (.agg [.bool, .slice, .slice])) w71 fun (x73 : (Bool × (Option Addr × Nat × Nat) × (Option Addr × Nat × Nat) × Unit)) (w74 : World) =>
 wu Try.prog (Instr.storeAt 90 (.pointer (some x29)) (.agg #[(.bool x73.1), (.slice x73.2.1.1 x73.2.1.2.1 x73.2.1.2.2), (.slice x73.2.2.1.1 x73.2.2.1.2.1 x73.2.2.1.2.2)])) w74 fun (w75 : World) =>
 K35 (()) w75)
 (K35 (()) w34))
 (K35 (()) w34))
 (rd Try.prog (Instr.loadAt 90 (.pointer (some x29))) (.agg [.bool, .slice, .slice]) w34 fun (x76 : (Bool × (Option Addr × Nat × Nat) × (Option Addr × Nat × Nat) × Unit)) =>
 wr Try.prog (Instr.buildSlice 112 1 #[(0, (.agg #[(.bool x76.1), (.slice x76.2.1.1 x76.2.1.2.1 x76.2.1.2.2), (.slice x76.2.2.1.1 x76.2.2.1.2.1 x76.2.2.1.2.2)]))]) (.one .slice) w34 fun (x77 : (Option Addr × Nat × Nat)) (w78 : World) =>
 wr Try.prog (Builtin.append_ #[112, 112] 112 #[(.slice s24.1.1 s24.1.2.1 s24.1.2.2), (.slice x77.1 x77.2.1 x77.2.2)]) (.one .slice) w78 fun (x79 : (Option Addr × Nat × Nat)) (w80 : World) =>
 z (IntKind.wrap .i64 (s24.2.1 + 1)) fun (z81 : Int) =>
 again23 ((x79.1, x79.2.1, x79.2.2), z81, ()) w80))
 (call Try.prog 83 [(.int .i64 0)] (.one (.agg [.bool, .slice, .slice])) w25 fun (x82 : (Bool × (Option Addr × Nat × Nat) × (Option Addr × Nat × Nat) × Unit)) (w83 : World) =>
 wr Try.prog (Instr.alloc 90 true (.tuple #[])) (.one .addr) w83 fun (x84 : Addr) (w85 : World) =>
 wu Try.prog (Instr.storeAt 90 (.pointer (some x84)) (.agg #[(.bool x82.1), (.slice x82.2.1.1 x82.2.1.2.1 x82.2.1.2.2), (.slice x82.2.2.1.1 x82.2.2.1.2.1 x82.2.2.1.2.2)])) w85 fun (w86 : World) =>
 loop (T := (Int × Unit)) (0, ()) w86 fun (again87 : (Int × Unit) → World → Prop) (s88 : (Int × Unit)) w89 => ∀ _ : Nat → Value,
 br (decide (s88.1 < ((m_n : Nat) : Int))) (drw w89 fun w90 => flEx fun F91 =>
 rd Try.prog (Instr.loadAt 90 (.pointer (some x84))) (.agg [.bool, .slice, .slice]) w90 fun (x92 : (Bool × (Option Addr × Nat × Nat) × (Option Addr × Nat × Nat) × Unit)) =>
 rdp Try.prog (Instr.indexAt 33 (.slice m_a m_n m_c) (.int .i64 s88.1)) (.one .addr) fun (x93 : Addr) =>
 rd Try.prog (Instr.loadAt 23 (.pointer (some x93))) (.agg [(.int .i64), (.int .i64)]) w90 fun (x94 : (Int × Int × Unit)) =>
 flc bel w90 (fun _w96 => True) (fun (w95 : World) =>
   call Try.prog 63 [(.agg #[(.int .i64 x94.1), (.int .i64 x94.2.1)])] (.one (.agg [.bool, .slice, .slice])) w95 fun (x97 : (Bool × (Option Addr × Nat × Nat) × (Option Addr × Nat × Nat) × Unit)) (w98 : World) =>
 (bel w95 w98 ∧ F91 5 [(.agg #[(.int .i64 x94.1), (.int .i64 x94.2.1)])] (.agg #[(.bool x97.1), (.slice x97.2.1.1 x97.2.1.2.1 x97.2.1.2.2), (.slice x97.2.2.1.1 x97.2.2.1.2.1 x97.2.2.1.2.2)]) w98))
  fun (x99 : (Bool × (Option Addr × Nat × Nat) × (Option Addr × Nat × Nat) × Unit)) =>
 rd Try.prog (Instr.loadAt 40 (.pointer (some (Addr.add x1 2)))) (.one .slice) w90 fun (x100 : (Option Addr × Nat × Nat)) =>
 rdp Try.prog (Instr.indexAt 40 (.slice x100.1 x100.2.1 x100.2.2) (.int .i64 s88.1)) (.one .addr) fun (x101 : Addr) =>
 rd Try.prog (Instr.loadAt 2 (.pointer (some x101))) (.one (.int .i64)) w90 fun (x102 : Int) =>
 flc bel w90 (fun w104 => F91 5 [(.agg #[(.int .i64 x94.1), (.int .i64 x94.2.1)])] (.agg #[(.bool x99.1), (.slice x99.2.1.1 x99.2.1.2.1 x99.2.1.2.2), (.slice x99.2.2.1.1 x99.2.2.1.2.1 x99.2.2.1.2.2)]) w104 ∧ True) (fun (w103 : World) =>
   call Try.prog 83 [(.int .i64 x102)] (.one (.agg [.bool, .slice, .slice])) w103 fun (x105 : (Bool × (Option Addr × Nat × Nat) × (Option Addr × Nat × Nat) × Unit)) (w106 : World) =>
 (bel w103 w106 ∧ F91 11 [(.int .i64 x102)] (.agg #[(.bool x105.1), (.slice x105.2.1.1 x105.2.1.2.1 x105.2.1.2.2), (.slice x105.2.2.1.1 x105.2.2.1.2.1 x105.2.2.1.2.2)]) w106))
  fun (x107 : (Bool × (Option Addr × Nat × Nat) × (Option Addr × Nat × Nat) × Unit)) =>
 flc bel w90 (fun w109 => F91 11 [(.int .i64 x102)] (.agg #[(.bool x107.1), (.slice x107.2.1.1 x107.2.1.2.1 x107.2.1.2.2), (.slice x107.2.2.1.1 x107.2.2.1.2.1 x107.2.2.1.2.2)]) w109 ∧ F91 5 [(.agg #[(.int .i64 x94.1), (.int .i64 x94.2.1)])] (.agg #[(.bool x99.1), (.slice x99.2.1.1 x99.2.1.2.1 x99.2.1.2.2), (.slice x99.2.2.1.1 x99.2.2.1.2.1 x99.2.2.1.2.2)]) w109 ∧ True) (fun (w108 : World) =>
   call Try.prog 69 [(.agg #[(.bool x99.1), (.slice x99.2.1.1 x99.2.1.2.1 x99.2.1.2.2), (.slice x99.2.2.1.1 x99.2.2.1.2.1 x99.2.2.1.2.2)]), (.agg #[(.bool x107.1), (.slice x107.2.1.1 x107.2.1.2.1 x107.2.1.2.2), (.slice x107.2.2.1.1 x107.2.2.1.2.1 x107.2.2.1.2.2)])] (.one (.agg [.bool, .slice, .slice])) w108 fun (x110 : (Bool × (Option Addr × Nat × Nat) × (Option Addr × Nat × Nat) × Unit)) (w111 : World) =>
 (bel w108 w111 ∧ F91 12 [(.agg #[(.bool x99.1), (.slice x99.2.1.1 x99.2.1.2.1 x99.2.1.2.2), (.slice x99.2.2.1.1 x99.2.2.1.2.1 x99.2.2.1.2.2)]), (.agg #[(.bool x107.1), (.slice x107.2.1.1 x107.2.1.2.1 x107.2.1.2.2), (.slice x107.2.2.1.1 x107.2.2.1.2.1 x107.2.2.1.2.2)])] (.agg #[(.bool x110.1), (.slice x110.2.1.1 x110.2.1.2.1 x110.2.1.2.2), (.slice x110.2.2.1.1 x110.2.2.1.2.1 x110.2.2.1.2.2)]) w111))
  fun (x112 : (Bool × (Option Addr × Nat × Nat) × (Option Addr × Nat × Nat) × Unit)) =>
 flend bel w90 (fun w114 => F91 12 [(.agg #[(.bool x99.1), (.slice x99.2.1.1 x99.2.1.2.1 x99.2.1.2.2), (.slice x99.2.2.1.1 x99.2.2.1.2.1 x99.2.2.1.2.2)]), (.agg #[(.bool x107.1), (.slice x107.2.1.1 x107.2.1.2.1 x107.2.1.2.2), (.slice x107.2.2.1.1 x107.2.2.1.2.1 x107.2.2.1.2.2)])] (.agg #[(.bool x112.1), (.slice x112.2.1.1 x112.2.1.2.1 x112.2.1.2.2), (.slice x112.2.2.1.1 x112.2.2.1.2.1 x112.2.2.1.2.2)]) w114 ∧ F91 11 [(.int .i64 x102)] (.agg #[(.bool x107.1), (.slice x107.2.1.1 x107.2.1.2.1 x107.2.1.2.2), (.slice x107.2.2.1.1 x107.2.2.1.2.1 x107.2.2.1.2.2)]) w114 ∧ F91 5 [(.agg #[(.int .i64 x94.1), (.int .i64 x94.2.1)])] (.agg #[(.bool x99.1), (.slice x99.2.1.1 x99.2.1.2.1 x99.2.1.2.2), (.slice x99.2.2.1.1 x99.2.2.1.2.1 x99.2.2.1.2.2)]) w114 ∧ True) fun w113 =>
 call Try.prog 62 [(.agg #[(.bool x92.1), (.slice x92.2.1.1 x92.2.1.2.1 x92.2.1.2.2), (.slice x92.2.2.1.1 x92.2.2.1.2.1 x92.2.2.1.2.2)]), (.agg #[(.bool x112.1), (.slice x112.2.1.1 x112.2.1.2.1 x112.2.1.2.2), (.slice x112.2.2.1.1 x112.2.2.1.2.1 x112.2.2.1.2.2)])] (.one (.agg [.bool, .slice, .slice])) w113 fun (x115 : (Bool × (Option Addr × Nat × Nat) × (Option Addr × Nat × Nat) × Unit)) (w116 : World) =>
 wu Try.prog (Instr.storeAt 90 (.pointer (some x84)) (.agg #[(.bool x115.1), (.slice x115.2.1.1 x115.2.1.2.1 x115.2.1.2.2), (.slice x115.2.2.1.1 x115.2.2.1.2.1 x115.2.2.1.2.2)])) w116 fun (w117 : World) =>
 z (IntKind.wrap .i64 (s88.1 + 1)) fun (z118 : Int) =>
 again87 (z118, ()) w117)
 (drw w89 fun w119 =>
 rd Try.prog (Instr.loadAt 90 (.pointer (some x84))) (.agg [.bool, .slice, .slice]) w119 fun (x120 : (Bool × (Option Addr × Nat × Nat) × (Option Addr × Nat × Nat) × Unit)) =>
 wu Try.prog (Instr.storeAt 90 (.pointer (some x3)) (.agg #[(.bool x120.1), (.slice x120.2.1.1 x120.2.1.2.1 x120.2.1.2.2), (.slice x120.2.2.1.1 x120.2.2.1.2.1 x120.2.2.1.2.2)])) w119 fun (w121 : World) =>
 rd Try.prog (loadVar 90 x3) (.agg [.bool, .slice, .slice]) w121 fun (x122 : (Bool × (Option Addr × Nat × Nat) × (Option Addr × Nat × Nat) × Unit)) =>
 R (.tuple #[(.slice s24.1.1 s24.1.2.1 s24.1.2.2), (.agg #[(.bool x122.1), (.slice x122.2.1.1 x122.2.1.2.1 x122.2.1.2.2), (.slice x122.2.2.1.1 x122.2.2.1.2.1 x122.2.2.1.2.2)]), (.int .i64 0)]) w121)))))
def H90 : Hints := ⟨[(2, 0, [(8, (.one (.int .i64)))]), (2, 2, [(9, (.one .slice)), (10, (.one (.int .i64)))]), (2, 4, [(12, (.one (.int .i64)))]), (1, 5, []), (2, 6, [(14, (.one (.int .i64)))])], [(20, 16), (26, 13), (27, 3)], [], []⟩
set_option maxRecDepth 100000 in
theorem S90_eq (s_0a : Option Addr) (s_0n : Nat) (s_0c : Nat) (s_1a : Option Addr) (s_1n : Nat) (s_1c : Nat) (s_2a : Option Addr) (s_2n : Nat) (s_2c : Nat) (m_a : Option Addr) (m_n : Nat) (m_c : Nat) (w0 : World) (R : Value → World → Prop) : vcFn Try.prog H90 Try.f90 [(.agg #[(.slice s_0a s_0n s_0c), (.slice s_1a s_1n s_1c), (.slice s_2a s_2n s_2c)]), (.slice m_a m_n m_c)] w0 R = S90 s_0a s_0n s_0c s_1a s_1n s_1c s_2a s_2n s_2c m_a m_n m_c w0 R := by kernel_rfl
set_option maxRecDepth 100000 in
theorem S90_calls (s_0a : Option Addr) (s_0n : Nat) (s_0c : Nat) (s_1a : Option Addr) (s_1n : Nat) (s_1c : Nat) (s_2a : Option Addr) (s_2n : Nat) (s_2c : Nat) (m_a : Option Addr) (m_n : Nat) (m_c : Nat) (w0 : World) (R : Value → World → Prop) (h : S90 s_0a s_0n s_0c s_1a s_1n s_1c s_2a s_2n s_2c m_a m_n m_c w0 R) : Calls Try.prog 90 #[(.agg #[(.slice s_0a s_0n s_0c), (.slice s_1a s_1n s_1c), (.slice s_2a s_2n s_2c)]), (.slice m_a m_n m_c)] w0 (ret R) := by
  rw [← S90_eq] at h; exact vcFn_sound follows_ Try.func90 h

/-- querylab/querylabref11.Combine -/
def S37 (s_0a : Option Addr) (s_0n : Nat) (s_0c : Nat) (s_1a : Option Addr) (s_1n : Nat) (s_1c : Nat) (s_2a : Option Addr) (s_2n : Nat) (s_2c : Nat) (m_a : Option Addr) (m_n : Nat) (m_c : Nat) (w0 : World) (R : Value → World → Prop) : Prop :=
 wr Try.prog (Instr.box 43 (.agg #[(.slice s_0a s_0n s_0c), (.slice s_1a s_1n s_1c), (.slice s_2a s_2n s_2c)])) (.one .addr) w0 fun (x1 : Addr) (w2 : World) =>
 wr Try.prog (Instr.alloc 23 true (.tuple #[])) (.one .addr) w2 fun (x3 : Addr) (w4 : World) =>
 rd Try.prog (Instr.loadAt 43 (.pointer (some x1))) (.agg [.slice, .slice, .slice]) w4 fun (x5 : ((Option Addr × Nat × Nat) × (Option Addr × Nat × Nat) × (Option Addr × Nat × Nat) × Unit)) =>
 call Try.prog 90 [(.agg #[(.slice x5.1.1 x5.1.2.1 x5.1.2.2), (.slice x5.2.1.1 x5.2.1.2.1 x5.2.1.2.2), (.slice x5.2.2.1.1 x5.2.2.1.2.1 x5.2.2.1.2.2)]), (.slice m_a m_n m_c)] (.many [(.one .slice), (.agg [.bool, .slice, .slice]), (.one (.int .i64))]) w4 fun (x6 : ((Option Addr × Nat × Nat) × (Bool × (Option Addr × Nat × Nat) × (Option Addr × Nat × Nat) × Unit) × Int × Unit)) (w7 : World) =>
 wr Try.prog (Instr.alloc 90 true (.tuple #[])) (.one .addr) w7 fun (x8 : Addr) (w9 : World) =>
 wu Try.prog (Instr.storeAt 90 (.pointer (some x8)) (.agg #[(.bool x6.2.1.1), (.slice x6.2.1.2.1.1 x6.2.1.2.1.2.1 x6.2.1.2.1.2.2), (.slice x6.2.1.2.2.1.1 x6.2.1.2.2.1.2.1 x6.2.1.2.2.1.2.2)])) w9 fun (w10 : World) =>
 br (x6.2.2.1 != 0) (wu Try.prog (Instr.storeAt 23 (.pointer (some x3)) (.agg #[(.int .i64 0), (.int .i64 0)])) w10 fun (w11 : World) =>
 rd Try.prog (loadVar 23 x3) (.agg [(.int .i64), (.int .i64)]) w11 fun (x12 : (Int × Int × Unit)) =>
 R (.tuple #[(.slice none 0 0), (.agg #[(.int .i64 x12.1), (.int .i64 x12.2.1)]), (.int .i64 x6.2.2.1)]) w11)
 (loop (T := ((Option Addr × Nat × Nat) × Int × Unit)) ((none, 0, 0), 0, ()) w10 fun (again13 : ((Option Addr × Nat × Nat) × Int × Unit) → World → Prop) (s14 : ((Option Addr × Nat × Nat) × Int × Unit)) w15 => ∀ _ : Nat → Value,
 br (decide (s14.2.1 < ((x6.1.2.1 : Nat) : Int))) (rdp Try.prog (Instr.indexAt 112 (.slice x6.1.1 x6.1.2.1 x6.1.2.2) (.int .i64 s14.2.1)) (.one .addr) fun (x16 : Addr) =>
 rd Try.prog (Instr.loadAt 90 (.pointer (some x16))) (.agg [.bool, .slice, .slice]) w15 fun (x17 : (Bool × (Option Addr × Nat × Nat) × (Option Addr × Nat × Nat) × Unit)) =>
 call Try.prog 61 [(.agg #[(.bool x17.1), (.slice x17.2.1.1 x17.2.1.2.1 x17.2.1.2.2), (.slice x17.2.2.1.1 x17.2.2.1.2.1 x17.2.2.1.2.2)])] (.many [(.agg [(.int .i64), (.int .i64)]), (.one (.int .i64))]) w15 fun (x18 : ((Int × Int × Unit) × Int × Unit)) (w19 : World) =>
 wr Try.prog (Instr.alloc 23 true (.tuple #[])) (.one .addr) w19 fun (x20 : Addr) (w21 : World) =>
 wu Try.prog (Instr.storeAt 23 (.pointer (some x20)) (.agg #[(.int .i64 x18.1.1), (.int .i64 x18.1.2.1)])) w21 fun (w22 : World) =>
 br (x18.2.1 != 0) (wu Try.prog (Instr.storeAt 23 (.pointer (some x3)) (.agg #[(.int .i64 0), (.int .i64 0)])) w22 fun (w23 : World) =>
 rd Try.prog (loadVar 23 x3) (.agg [(.int .i64), (.int .i64)]) w23 fun (x24 : (Int × Int × Unit)) =>
 R (.tuple #[(.slice none 0 0), (.agg #[(.int .i64 x24.1), (.int .i64 x24.2.1)]), (.int .i64 x18.2.1)]) w23)
 (rd Try.prog (Instr.loadAt 23 (.pointer (some x20))) (.agg [(.int .i64), (.int .i64)]) w22 fun (x25 : (Int × Int × Unit)) =>
 wr Try.prog (Instr.buildSlice 33 1 #[(0, (.agg #[(.int .i64 x25.1), (.int .i64 x25.2.1)]))]) (.one .slice) w22 fun (x26 : (Option Addr × Nat × Nat)) (w27 : World) =>
 wr Try.prog (Builtin.append_ #[33, 33] 33 #[(.slice s14.1.1 s14.1.2.1 s14.1.2.2), (.slice x26.1 x26.2.1 x26.2.2)]) (.one .slice) w27 fun (x28 : (Option Addr × Nat × Nat)) (w29 : World) =>
 z (IntKind.wrap .i64 (s14.2.1 + 1)) fun (z30 : Int) =>
 again13 ((x28.1, x28.2.1, x28.2.2), z30, ()) w29))
 (rd Try.prog (Instr.loadAt 90 (.pointer (some x8))) (.agg [.bool, .slice, .slice]) w15 fun (x31 : (Bool × (Option Addr × Nat × Nat) × (Option Addr × Nat × Nat) × Unit)) =>
 call Try.prog 61 [(.agg #[(.bool x31.1), (.slice x31.2.1.1 x31.2.1.2.1 x31.2.1.2.2), (.slice x31.2.2.1.1 x31.2.2.1.2.1 x31.2.2.1.2.2)])] (.many [(.agg [(.int .i64), (.int .i64)]), (.one (.int .i64))]) w15 fun (x32 : ((Int × Int × Unit) × Int × Unit)) (w33 : World) =>
 wr Try.prog (Instr.alloc 23 true (.tuple #[])) (.one .addr) w33 fun (x34 : Addr) (w35 : World) =>
 wu Try.prog (Instr.storeAt 23 (.pointer (some x34)) (.agg #[(.int .i64 x32.1.1), (.int .i64 x32.1.2.1)])) w35 fun (w36 : World) =>
 br (x32.2.1 != 0) (wu Try.prog (Instr.storeAt 23 (.pointer (some x3)) (.agg #[(.int .i64 0), (.int .i64 0)])) w36 fun (w37 : World) =>
 rd Try.prog (loadVar 23 x3) (.agg [(.int .i64), (.int .i64)]) w37 fun (x38 : (Int × Int × Unit)) =>
 R (.tuple #[(.slice none 0 0), (.agg #[(.int .i64 x38.1), (.int .i64 x38.2.1)]), (.int .i64 x32.2.1)]) w37)
 (drw w36 fun w39 =>
 rd Try.prog (Instr.loadAt 23 (.pointer (some x34))) (.agg [(.int .i64), (.int .i64)]) w39 fun (x40 : (Int × Int × Unit)) =>
 wu Try.prog (Instr.storeAt 23 (.pointer (some x3)) (.agg #[(.int .i64 x40.1), (.int .i64 x40.2.1)])) w39 fun (w41 : World) =>
 rd Try.prog (loadVar 23 x3) (.agg [(.int .i64), (.int .i64)]) w41 fun (x42 : (Int × Int × Unit)) =>
 R (.tuple #[(.slice s14.1.1 s14.1.2.1 s14.1.2.2), (.agg #[(.int .i64 x42.1), (.int .i64 x42.2.1)]), (.int .i64 0)]) w41)))
def H37 : Hints := ⟨[(2, 0, [(10, (.one .slice)), (11, (.one (.int .i64)))])], [(15, 3)], [], []⟩
set_option maxRecDepth 100000 in
theorem S37_eq (s_0a : Option Addr) (s_0n : Nat) (s_0c : Nat) (s_1a : Option Addr) (s_1n : Nat) (s_1c : Nat) (s_2a : Option Addr) (s_2n : Nat) (s_2c : Nat) (m_a : Option Addr) (m_n : Nat) (m_c : Nat) (w0 : World) (R : Value → World → Prop) : vcFn Try.prog H37 Try.f37 [(.agg #[(.slice s_0a s_0n s_0c), (.slice s_1a s_1n s_1c), (.slice s_2a s_2n s_2c)]), (.slice m_a m_n m_c)] w0 R = S37 s_0a s_0n s_0c s_1a s_1n s_1c s_2a s_2n s_2c m_a m_n m_c w0 R := by kernel_rfl
set_option maxRecDepth 100000 in
theorem S37_calls (s_0a : Option Addr) (s_0n : Nat) (s_0c : Nat) (s_1a : Option Addr) (s_1n : Nat) (s_1c : Nat) (s_2a : Option Addr) (s_2n : Nat) (s_2c : Nat) (m_a : Option Addr) (m_n : Nat) (m_c : Nat) (w0 : World) (R : Value → World → Prop) (h : S37 s_0a s_0n s_0c s_1a s_1n s_1c s_2a s_2n s_2c m_a m_n m_c w0 R) : Calls Try.prog 37 #[(.agg #[(.slice s_0a s_0n s_0c), (.slice s_1a s_1n s_1c), (.slice s_2a s_2n s_2c)]), (.slice m_a m_n m_c)] w0 (ret R) := by
  rw [← S37_eq] at h; exact vcFn_sound follows_ Try.func37 h

/-- querylab/querylablaw11.same -/
def S38 (a_a : Option Addr) (a_n : Nat) (a_c : Nat) (b_a : Option Addr) (b_n : Nat) (b_c : Nat) (w0 : World) (R : Value → World → Prop) : Prop :=
 br (((a_n : Nat) : Int) != ((b_n : Nat) : Int)) (R (.bool false) w0)
 (loop (T := (Int × Unit)) (0, ()) w0 fun (again1 : (Int × Unit) → World → Prop) (s2 : (Int × Unit)) w3 => ∀ _ : Nat → Value,
 br (decide (s2.1 < ((a_n : Nat) : Int))) (drw w3 fun w4 =>
 rdp Try.prog (Instr.indexAt 33 (.slice a_a a_n a_c) (.int .i64 s2.1)) (.one .addr) fun (x5 : Addr) =>
 rd Try.prog (Instr.loadAt 23 (.pointer (some x5))) (.agg [(.int .i64), (.int .i64)]) w4 fun (x6 : (Int × Int × Unit)) =>
 rdp Try.prog (Instr.indexAt 33 (.slice b_a b_n b_c) (.int .i64 s2.1)) (.one .addr) fun (x7 : Addr) =>
 rd Try.prog (Instr.loadAt 23 (.pointer (some x7))) (.agg [(.int .i64), (.int .i64)]) w4 fun (x8 : (Int × Int × Unit)) =>
 rd Try.prog (cmpS .neq 23 (.tmp 20) (.tmp 24) (.agg #[(.int .i64 x6.1), (.int .i64 x6.2.1)]) (.agg #[(.int .i64 x8.1), (.int .i64 x8.2.1)])) (.one .bool) w4 fun (x9 : Bool) =>
 br x9 (R (.bool false) w4)
 (z (IntKind.wrap .i64 (s2.1 + 1)) fun (z10 : Int) =>
 again1 (z10, ()) w4))
 (R (.bool true) w3))
def H38 : Hints := ⟨[(2, 0, [(5, (.one (.int .i64)))])], [(6, 8)], [], []⟩
set_option maxRecDepth 100000 in
theorem S38_eq (a_a : Option Addr) (a_n : Nat) (a_c : Nat) (b_a : Option Addr) (b_n : Nat) (b_c : Nat) (w0 : World) (R : Value → World → Prop) : vcFn Try.prog H38 Try.f38 [(.slice a_a a_n a_c), (.slice b_a b_n b_c)] w0 R = S38 a_a a_n a_c b_a b_n b_c w0 R := by kernel_rfl
set_option maxRecDepth 100000 in
theorem S38_calls (a_a : Option Addr) (a_n : Nat) (a_c : Nat) (b_a : Option Addr) (b_n : Nat) (b_c : Nat) (w0 : World) (R : Value → World → Prop) (h : S38 a_a a_n a_c b_a b_n b_c w0 R) : Calls Try.prog 38 #[(.slice a_a a_n a_c), (.slice b_a b_n b_c)] w0 (ret R) := by
  rw [← S38_eq] at h; exact vcFn_sound follows_ Try.func38 h

/-- slices.IndexFunc[[]querylab/api.Frac,querylab/api.Frac] -/
def S114e (s_a : Option Addr) (s_n : Nat) (s_c : Nat) (w0 : World) (R : Value → World → Prop) : Prop :=
 loop (T := (Int × Unit)) (0, ()) w0 fun (again1 : (Int × Unit) → World → Prop) (s2 : (Int × Unit)) w3 => ∀ _ : Nat → Value,
 br (decide (s2.1 < ((s_n : Nat) : Int))) (rdp Try.prog (Instr.indexAt 33 (.slice s_a s_n s_c) (.int .i64 s2.1)) (.one .addr) fun (x4 : Addr) =>
 rd Try.prog (Instr.loadAt 23 (.pointer (some x4))) (.agg [(.int .i64), (.int .i64)]) w3 fun (x5 : (Int × Int × Unit)) =>
 call Try.prog 91 [(.agg #[(.int .i64 x5.1), (.int .i64 x5.2.1)])] (.one (.one .bool)) w3 fun (x6 : Bool) (w7 : World) =>
 br x6 (R (.int .i64 s2.1) w7)
 (z (IntKind.wrap .i64 (s2.1 + 1)) fun (z8 : Int) =>
 again1 (z8, ()) w7))
 (R (.int .i64 (-1)) w3)
def H114e : Hints := ⟨[(2, 0, [(8, (.one (.int .i64)))])], [], [], []⟩
set_option maxRecDepth 100000 in
theorem S114e_eq (s_a : Option Addr) (s_n : Nat) (s_c : Nat) (w0 : World) (R : Value → World → Prop) : vcFn Try.prog H114e Try.f114 [(.slice s_a s_n s_c), (.func (.func 91) #[] #[])] w0 R = S114e s_a s_n s_c w0 R := by kernel_rfl
set_option maxRecDepth 100000 in
theorem S114e_calls (s_a : Option Addr) (s_n : Nat) (s_c : Nat) (w0 : World) (R : Value → World → Prop) (h : S114e s_a s_n s_c w0 R) : Calls Try.prog 114 #[(.slice s_a s_n s_c), (.func (.func 91) #[] #[])] w0 (ret R) := by
  rw [← S114e_eq] at h; exact vcFn_sound follows_ Try.func114 h

/-- slices.ContainsFunc[[]querylab/api.Frac,querylab/api.Frac] -/
def S84e (s_a : Option Addr) (s_n : Nat) (s_c : Nat) (w0 : World) (R : Value → World → Prop) : Prop :=
 call Try.prog 114 [(.slice s_a s_n s_c), (.func (.func 91) #[] #[])] (.one (.one (.int .i64))) w0 fun (x1 : Int) (w2 : World) =>
 R (.bool (decide (x1 ≥ 0))) w2
def H84e : Hints := ⟨[], [], [], []⟩
set_option maxRecDepth 100000 in
theorem S84e_eq (s_a : Option Addr) (s_n : Nat) (s_c : Nat) (w0 : World) (R : Value → World → Prop) : vcFn Try.prog H84e Try.f84 [(.slice s_a s_n s_c), (.func (.func 91) #[] #[])] w0 R = S84e s_a s_n s_c w0 R := by kernel_rfl
set_option maxRecDepth 100000 in
theorem S84e_calls (s_a : Option Addr) (s_n : Nat) (s_c : Nat) (w0 : World) (R : Value → World → Prop) (h : S84e s_a s_n s_c w0 R) : Calls Try.prog 84 #[(.slice s_a s_n s_c), (.func (.func 91) #[] #[])] w0 (ret R) := by
  rw [← S84e_eq] at h; exact vcFn_sound follows_ Try.func84 h

/-- querylab/linear.CheckLattice$1 -/
def S91 (c_0 : Int) (c_1 : Int) (w0 : World) (R : Value → World → Prop) : Prop :=
 wr Try.prog (Instr.box 23 (.agg #[(.int .i64 c_0), (.int .i64 c_1)])) (.one .addr) w0 fun (x1 : Addr) (w2 : World) =>
 rd Try.prog (Instr.loadAt 2 (.pointer (some (Addr.add x1 1)))) (.one (.int .i64)) w2 fun (x3 : Int) =>
 R (.bool (x3 != 1)) w2
def H91 : Hints := ⟨[], [], [], []⟩
set_option maxRecDepth 100000 in
theorem S91_eq (c_0 : Int) (c_1 : Int) (w0 : World) (R : Value → World → Prop) : vcFn Try.prog H91 Try.f91 [(.agg #[(.int .i64 c_0), (.int .i64 c_1)])] w0 R = S91 c_0 c_1 w0 R := by kernel_rfl
set_option maxRecDepth 100000 in
theorem S91_calls (c_0 : Int) (c_1 : Int) (w0 : World) (R : Value → World → Prop) (h : S91 c_0 c_1 w0 R) : Calls Try.prog 91 #[(.agg #[(.int .i64 c_0), (.int .i64 c_1)])] w0 (ret R) := by
  rw [← S91_eq] at h; exact vcFn_sound follows_ Try.func91 h

/-- querylab/linear.CheckLattice -/
def S39 (s_0a : Option Addr) (s_0n : Nat) (s_0c : Nat) (s_1a : Option Addr) (s_1n : Nat) (s_1c : Nat) (s_2a : Option Addr) (s_2n : Nat) (s_2c : Nat) (m_a : Option Addr) (m_n : Nat) (m_c : Nat) (w0 : World) (R : Value → World → Prop) : Prop :=
 wr Try.prog (Instr.box 43 (.agg #[(.slice s_0a s_0n s_0c), (.slice s_1a s_1n s_1c), (.slice s_2a s_2n s_2c)])) (.one .addr) w0 fun (x1 : Addr) (w2 : World) =>
 rd Try.prog (Instr.loadAt 43 (.pointer (some x1))) (.agg [.slice, .slice, .slice]) w2 fun (x3 : ((Option Addr × Nat × Nat) × (Option Addr × Nat × Nat) × (Option Addr × Nat × Nat) × Unit)) =>
 call Try.prog 36 [(.agg #[(.slice x3.1.1 x3.1.2.1 x3.1.2.2), (.slice x3.2.1.1 x3.2.1.2.1 x3.2.1.2.2), (.slice x3.2.2.1.1 x3.2.2.1.2.1 x3.2.2.1.2.2)]), (.slice m_a m_n m_c)] (.many [(.one .slice), (.agg [(.int .i64), (.int .i64)]), (.one (.int .i64))]) w2 fun (x4 : ((Option Addr × Nat × Nat) × (Int × Int × Unit) × Int × Unit)) (w5 : World) =>
 wr Try.prog (Instr.alloc 23 true (.tuple #[])) (.one .addr) w5 fun (x6 : Addr) (w7 : World) =>
 wu Try.prog (Instr.storeAt 23 (.pointer (some x6)) (.agg #[(.int .i64 x4.2.1.1), (.int .i64 x4.2.1.2.1)])) w7 fun (w8 : World) =>
 br (x4.2.2.1 == 0) (rd Try.prog (Instr.loadAt 2 (.pointer (some (Addr.add x6 1)))) (.one (.int .i64)) w8 fun (x9 : Int) =>
 br (x9 != 1) (call Try.prog 84 [(.slice x4.1.1 x4.1.2.1 x4.1.2.2), (.func (.func 91) #[] #[])] (.one (.one .bool)) w8 fun (x10 : Bool) (w11 : World) =>
 R (.bool (!x10)) w11)
 (R (.bool false) w8))
 (R (.bool false) w8)
def H39 : Hints := ⟨[], [], [], []⟩
set_option maxRecDepth 100000 in
theorem S39_eq (s_0a : Option Addr) (s_0n : Nat) (s_0c : Nat) (s_1a : Option Addr) (s_1n : Nat) (s_1c : Nat) (s_2a : Option Addr) (s_2n : Nat) (s_2c : Nat) (m_a : Option Addr) (m_n : Nat) (m_c : Nat) (w0 : World) (R : Value → World → Prop) : vcFn Try.prog H39 Try.f39 [(.agg #[(.slice s_0a s_0n s_0c), (.slice s_1a s_1n s_1c), (.slice s_2a s_2n s_2c)]), (.slice m_a m_n m_c)] w0 R = S39 s_0a s_0n s_0c s_1a s_1n s_1c s_2a s_2n s_2c m_a m_n m_c w0 R := by kernel_rfl
set_option maxRecDepth 100000 in
theorem S39_calls (s_0a : Option Addr) (s_0n : Nat) (s_0c : Nat) (s_1a : Option Addr) (s_1n : Nat) (s_1c : Nat) (s_2a : Option Addr) (s_2n : Nat) (s_2c : Nat) (m_a : Option Addr) (m_n : Nat) (m_c : Nat) (w0 : World) (R : Value → World → Prop) (h : S39 s_0a s_0n s_0c s_1a s_1n s_1c s_2a s_2n s_2c m_a m_n m_c w0 R) : Calls Try.prog 39 #[(.agg #[(.slice s_0a s_0n s_0c), (.slice s_1a s_1n s_1c), (.slice s_2a s_2n s_2c)]), (.slice m_a m_n m_c)] w0 (ret R) := by
  rw [← S39_eq] at h; exact vcFn_sound follows_ Try.func39 h

/-- querylab/querylabref11.CheckLattice -/
def S40 (s_0a : Option Addr) (s_0n : Nat) (s_0c : Nat) (s_1a : Option Addr) (s_1n : Nat) (s_1c : Nat) (s_2a : Option Addr) (s_2n : Nat) (s_2c : Nat) (m_a : Option Addr) (m_n : Nat) (m_c : Nat) (w0 : World) (R : Value → World → Prop) : Prop :=
 wr Try.prog (Instr.box 43 (.agg #[(.slice s_0a s_0n s_0c), (.slice s_1a s_1n s_1c), (.slice s_2a s_2n s_2c)])) (.one .addr) w0 fun (x1 : Addr) (w2 : World) =>
 rd Try.prog (Instr.loadAt 43 (.pointer (some x1))) (.agg [.slice, .slice, .slice]) w2 fun (x3 : ((Option Addr × Nat × Nat) × (Option Addr × Nat × Nat) × (Option Addr × Nat × Nat) × Unit)) =>
 call Try.prog 37 [(.agg #[(.slice x3.1.1 x3.1.2.1 x3.1.2.2), (.slice x3.2.1.1 x3.2.1.2.1 x3.2.1.2.2), (.slice x3.2.2.1.1 x3.2.2.1.2.1 x3.2.2.1.2.2)]), (.slice m_a m_n m_c)] (.many [(.one .slice), (.agg [(.int .i64), (.int .i64)]), (.one (.int .i64))]) w2 fun (x4 : ((Option Addr × Nat × Nat) × (Int × Int × Unit) × Int × Unit)) (w5 : World) =>
 wr Try.prog (Instr.alloc 23 true (.tuple #[])) (.one .addr) w5 fun (x6 : Addr) (w7 : World) =>
 wu Try.prog (Instr.storeAt 23 (.pointer (some x6)) (.agg #[(.int .i64 x4.2.1.1), (.int .i64 x4.2.1.2.1)])) w7 fun (w8 : World) =>
 br (x4.2.2.1 != 0) (R (.bool false) w8)
 (loop (T := (Int × Unit)) (0, ()) w8 fun (again9 : (Int × Unit) → World → Prop) (s10 : (Int × Unit)) w11 => ∀ _ : Nat → Value,
 br (decide (s10.1 < ((x4.1.2.1 : Nat) : Int))) (rdp Try.prog (Instr.indexAt 33 (.slice x4.1.1 x4.1.2.1 x4.1.2.2) (.int .i64 s10.1)) (.one .addr) fun (x12 : Addr) =>
 rd Try.prog (Instr.loadAt 2 (.pointer (some (Addr.add x12 1)))) (.one (.int .i64)) w11 fun (x13 : Int) =>
 br (x13 != 1) (R (.bool false) w11)
 (z (IntKind.wrap .i64 (s10.1 + 1)) fun (z14 : Int) =>
 again9 (z14, ()) w11))
 (rd Try.prog (Instr.loadAt 2 (.pointer (some (Addr.add x6 1)))) (.one (.int .i64)) w11 fun (x15 : Int) =>
 R (.bool (x15 != 1)) w11))
def H40 : Hints := ⟨[(2, 0, [(8, (.one (.int .i64)))])], [], [], []⟩
set_option maxRecDepth 100000 in
theorem S40_eq (s_0a : Option Addr) (s_0n : Nat) (s_0c : Nat) (s_1a : Option Addr) (s_1n : Nat) (s_1c : Nat) (s_2a : Option Addr) (s_2n : Nat) (s_2c : Nat) (m_a : Option Addr) (m_n : Nat) (m_c : Nat) (w0 : World) (R : Value → World → Prop) : vcFn Try.prog H40 Try.f40 [(.agg #[(.slice s_0a s_0n s_0c), (.slice s_1a s_1n s_1c), (.slice s_2a s_2n s_2c)]), (.slice m_a m_n m_c)] w0 R = S40 s_0a s_0n s_0c s_1a s_1n s_1c s_2a s_2n s_2c m_a m_n m_c w0 R := by kernel_rfl
set_option maxRecDepth 100000 in
theorem S40_calls (s_0a : Option Addr) (s_0n : Nat) (s_0c : Nat) (s_1a : Option Addr) (s_1n : Nat) (s_1c : Nat) (s_2a : Option Addr) (s_2n : Nat) (s_2c : Nat) (m_a : Option Addr) (m_n : Nat) (m_c : Nat) (w0 : World) (R : Value → World → Prop) (h : S40 s_0a s_0n s_0c s_1a s_1n s_1c s_2a s_2n s_2c m_a m_n m_c w0 R) : Calls Try.prog 40 #[(.agg #[(.slice s_0a s_0n s_0c), (.slice s_1a s_1n s_1c), (.slice s_2a s_2n s_2c)]), (.slice m_a m_n m_c)] w0 (ret R) := by
  rw [← S40_eq] at h; exact vcFn_sound follows_ Try.func40 h

/-- slices.IndexFunc[[]int64,int64] -/
def S112b (s_a : Option Addr) (s_n : Nat) (s_c : Nat) (w0 : World) (R : Value → World → Prop) : Prop :=
 loop (T := (Int × Unit)) (0, ()) w0 fun (again1 : (Int × Unit) → World → Prop) (s2 : (Int × Unit)) w3 => ∀ _ : Nat → Value,
 br (decide (s2.1 < ((s_n : Nat) : Int))) (rdp Try.prog (Instr.indexAt 40 (.slice s_a s_n s_c) (.int .i64 s2.1)) (.one .addr) fun (x4 : Addr) =>
 rd Try.prog (Instr.loadAt 2 (.pointer (some x4))) (.one (.int .i64)) w3 fun (x5 : Int) =>
 call Try.prog 93 [(.int .i64 x5)] (.one (.one .bool)) w3 fun (x6 : Bool) (w7 : World) =>
 br x6 (R (.int .i64 s2.1) w7)
 (z (IntKind.wrap .i64 (s2.1 + 1)) fun (z8 : Int) =>
 again1 (z8, ()) w7))
 (R (.int .i64 (-1)) w3)
def H112b : Hints := ⟨[(2, 0, [(8, (.one (.int .i64)))])], [], [], []⟩
set_option maxRecDepth 100000 in
theorem S112b_eq (s_a : Option Addr) (s_n : Nat) (s_c : Nat) (w0 : World) (R : Value → World → Prop) : vcFn Try.prog H112b Try.f112 [(.slice s_a s_n s_c), (.func (.func 93) #[] #[])] w0 R = S112b s_a s_n s_c w0 R := by kernel_rfl
set_option maxRecDepth 100000 in
theorem S112b_calls (s_a : Option Addr) (s_n : Nat) (s_c : Nat) (w0 : World) (R : Value → World → Prop) (h : S112b s_a s_n s_c w0 R) : Calls Try.prog 112 #[(.slice s_a s_n s_c), (.func (.func 93) #[] #[])] w0 (ret R) := by
  rw [← S112b_eq] at h; exact vcFn_sound follows_ Try.func112 h

/-- slices.ContainsFunc[[]int64,int64] -/
def S74b (s_a : Option Addr) (s_n : Nat) (s_c : Nat) (w0 : World) (R : Value → World → Prop) : Prop :=
 call Try.prog 112 [(.slice s_a s_n s_c), (.func (.func 93) #[] #[])] (.one (.one (.int .i64))) w0 fun (x1 : Int) (w2 : World) =>
 R (.bool (decide (x1 ≥ 0))) w2
def H74b : Hints := ⟨[], [], [], []⟩
set_option maxRecDepth 100000 in
theorem S74b_eq (s_a : Option Addr) (s_n : Nat) (s_c : Nat) (w0 : World) (R : Value → World → Prop) : vcFn Try.prog H74b Try.f74 [(.slice s_a s_n s_c), (.func (.func 93) #[] #[])] w0 R = S74b s_a s_n s_c w0 R := by kernel_rfl
set_option maxRecDepth 100000 in
theorem S74b_calls (s_a : Option Addr) (s_n : Nat) (s_c : Nat) (w0 : World) (R : Value → World → Prop) (h : S74b s_a s_n s_c w0 R) : Calls Try.prog 74 #[(.slice s_a s_n s_c), (.func (.func 93) #[] #[])] w0 (ret R) := by
  rw [← S74b_eq] at h; exact vcFn_sound follows_ Try.func74 h

/-- querylab/linear.CheckBounds$1$1 -/
def S93 (n_ : Int) (w0 : World) (R : Value → World → Prop) : Prop :=
 call Try.prog 76 [(.int .i64 n_), (.int .i64 (-1000000000)), (.int .i64 1000000000)] (.one (.one .bool)) w0 fun (x1 : Bool) (w2 : World) =>
 R (.bool x1) w2
def H93 : Hints := ⟨[], [], [], []⟩
set_option maxRecDepth 100000 in
theorem S93_eq (n_ : Int) (w0 : World) (R : Value → World → Prop) : vcFn Try.prog H93 Try.f93 [(.int .i64 n_)] w0 R = S93 n_ w0 R := by kernel_rfl
set_option maxRecDepth 100000 in
theorem S93_calls (n_ : Int) (w0 : World) (R : Value → World → Prop) (h : S93 n_ w0 R) : Calls Try.prog 93 #[(.int .i64 n_)] w0 (ret R) := by
  rw [← S93_eq] at h; exact vcFn_sound follows_ Try.func93 h

/-- querylab/linear.CheckBounds$1 -/
def S92 (l_a : Option Addr) (l_n : Nat) (l_c : Nat) (cap0 : Addr) (w0 : World) (R : Value → World → Prop) : Prop :=
 rd Try.prog (Instr.loadAt 40 (.pointer (some cap0))) (.one .slice) w0 fun (x1 : (Option Addr × Nat × Nat)) =>
 br (((l_n : Nat) : Int) != ((x1.2.1 : Nat) : Int)) (R (.bool true) w0)
 (call Try.prog 74 [(.slice l_a l_n l_c), (.func (.func 93) #[] #[])] (.one (.one .bool)) w0 fun (x2 : Bool) (w3 : World) =>
 R (.bool x2) w3)
def H92 : Hints := ⟨[], [], [], []⟩
set_option maxRecDepth 100000 in
theorem S92_eq (l_a : Option Addr) (l_n : Nat) (l_c : Nat) (cap0 : Addr) (w0 : World) (R : Value → World → Prop) : vcFn Try.prog H92 Try.f92 [(.slice l_a l_n l_c), (.pointer (some cap0))] w0 R = S92 l_a l_n l_c cap0 w0 R := by kernel_rfl
set_option maxRecDepth 100000 in
theorem S92_calls (l_a : Option Addr) (l_n : Nat) (l_c : Nat) (cap0 : Addr) (w0 : World) (R : Value → World → Prop) (h : S92 l_a l_n l_c cap0 w0 R) : Calls Try.prog 92 #[(.slice l_a l_n l_c), (.pointer (some cap0))] w0 (ret R) := by
  rw [← S92_eq] at h; exact vcFn_sound follows_ Try.func92 h

/-- querylab/linear.CheckBounds -/
def S41 (s_0a : Option Addr) (s_0n : Nat) (s_0c : Nat) (s_1a : Option Addr) (s_1n : Nat) (s_1c : Nat) (s_2a : Option Addr) (s_2n : Nat) (s_2c : Nat) (lower_a : Option Addr) (lower_n : Nat) (lower_c : Nat) (upper_a : Option Addr) (upper_n : Nat) (upper_c : Nat) (m_a : Option Addr) (m_n : Nat) (m_c : Nat) (w0 : World) (R : Value → World → Prop) : Prop :=
 wr Try.prog (Instr.box 43 (.agg #[(.slice s_0a s_0n s_0c), (.slice s_1a s_1n s_1c), (.slice s_2a s_2n s_2c)])) (.one .addr) w0 fun (x1 : Addr) (w2 : World) =>
 rd Try.prog (Instr.loadAt 43 (.pointer (some x1))) (.agg [.slice, .slice, .slice]) w2 fun (x3 : ((Option Addr × Nat × Nat) × (Option Addr × Nat × Nat) × (Option Addr × Nat × Nat) × Unit)) =>
 call Try.prog 36 [(.agg #[(.slice x3.1.1 x3.1.2.1 x3.1.2.2), (.slice x3.2.1.1 x3.2.1.2.1 x3.2.1.2.2), (.slice x3.2.2.1.1 x3.2.2.1.2.1 x3.2.2.1.2.2)]), (.slice m_a m_n m_c)] (.many [(.one .slice), (.agg [(.int .i64), (.int .i64)]), (.one (.int .i64))]) w2 fun (x4 : ((Option Addr × Nat × Nat) × (Int × Int × Unit) × Int × Unit)) (w5 : World) =>
 wr Try.prog (Instr.alloc 23 true (.tuple #[])) (.one .addr) w5 fun (x6 : Addr) (w7 : World) =>
 wu Try.prog (Instr.storeAt 23 (.pointer (some x6)) (.agg #[(.int .i64 x4.2.1.1), (.int .i64 x4.2.1.2.1)])) w7 fun (w8 : World) =>
 br (x4.2.2.1 != 0) (R (.bool false) w8)
 (call Try.prog 92 [(.slice lower_a lower_n lower_c), (.pointer (some x1))] (.one (.one .bool)) w8 fun (x9 : Bool) (w10 : World) =>
 br x9 (R (.bool false) w10)
 (call Try.prog 92 [(.slice upper_a upper_n upper_c), (.pointer (some x1))] (.one (.one .bool)) w10 fun (x11 : Bool) (w12 : World) =>
 br x11 (R (.bool false) w12)
 (call Try.prog 81 [(.int .i64 0)] (.one (.agg [.bool, .slice, .slice])) w12 fun (x13 : (Bool × (Option Addr × Nat × Nat) × (Option Addr × Nat × Nat) × Unit)) (w14 : World) =>
 call Try.prog 81 [(.int .i64 0)] (.one (.agg [.bool, .slice, .slice])) w14 fun (x15 : (Bool × (Option Addr × Nat × Nat) × (Option Addr × Nat × Nat) × Unit)) (w16 : World) =>
 wr Try.prog (Instr.alloc 81 true (.tuple #[])) (.one .addr) w16 fun (x17 : Addr) (w18 : World) =>
 wr Try.prog (Instr.alloc 81 true (.tuple #[])) (.one .addr) w18 fun (x19 : Addr) (w20 : World) =>
 wu Try.prog (Instr.storeAt 81 (.pointer (some x17)) (.agg #[(.bool x13.1), (.slice x13.2.1.1 x13.2.1.2.1 x13.2.1.2.2), (.slice x13.2.2.1.1 x13.2.2.1.2.1 x13.2.2.1.2.2)])) w20 fun (w21 : World) =>
 wu Try.prog (Instr.storeAt 81 (.pointer (some x19)) (.agg #[(.bool x15.1), (.slice x15.2.1.1 x15.2.1.2.1 x15.2.1.2.2), (.slice x15.2.2.1.1 x15.2.2.1.2.1 x15.2.2.1.2.2)])) w21 fun (w22 : World) =>
 loop (T := (Int × Unit)) (0, ()) w22 fun (again23 : (Int × Unit) → World → Prop) (s24 : (Int × Unit)) w25 => ∀ _ : Nat → Value,
 br (decide (s24.1 < ((x4.1.2.1 : Nat) : Int))) (join (T := (Unit)) (fun (_s27 : (Unit)) w28 => ∀ _ : Nat → Value,
 z (IntKind.wrap .i64 (s24.1 + 1)) fun (z29 : Int) =>
 again23 (z29, ()) w28)
  fun (K26 : (Unit) → World → Prop) =>
 rdp Try.prog (Instr.indexAt 33 (.slice x4.1.1 x4.1.2.1 x4.1.2.2) (.int .i64 s24.1)) (.one .addr) fun (x30 : Addr) =>
 rd Try.prog (Instr.loadAt 23 (.pointer (some x30))) (.agg [(.int .i64), (.int .i64)]) w25 fun (x31 : (Int × Int × Unit)) =>
 wr Try.prog (Instr.alloc 23 true (.tuple #[])) (.one .addr) w25 fun (x32 : Addr) (w33 : World) =>
 wu Try.prog (Instr.storeAt 23 (.pointer (some x32)) (.agg #[(.int .i64 x31.1), (.int .i64 x31.2.1)])) w33 fun (w34 : World) =>
 drw w34 fun w35 =>
 rdp Try.prog (Instr.indexAt 40 (.slice lower_a lower_n lower_c) (.int .i64 s24.1)) (.one .addr) fun (x36 : Addr) =>
 rd Try.prog (Instr.loadAt 2 (.pointer (some x36))) (.one (.int .i64)) w35 fun (x37 : Int) =>
 rdp Try.prog (Instr.indexAt 40 (.slice upper_a upper_n upper_c) (.int .i64 s24.1)) (.one .addr) fun (x38 : Addr) =>
 rd Try.prog (Instr.loadAt 2 (.pointer (some x38))) (.one (.int .i64)) w35 fun (x39 : Int) =>
 br (decide (x37 > x39)) (R (.bool true) w35)
 (rd Try.prog (Instr.loadAt 2 (.pointer (some x32))) (.one (.int .i64)) w35 fun (x40 : Int) =>
 br (x40 == 0) (K26 (()) w35)
 (join (T := (Int × Int × Unit)) (fun (s42 : (Int × Int × Unit)) w43 => ∀ _ : Nat → Value,
 drw w43 fun w44 => flEx fun F45 =>
 rd Try.prog (Instr.loadAt 81 (.pointer (some x17))) (.agg [.bool, .slice, .slice]) w44 fun (x46 : (Bool × (Option Addr × Nat × Nat) × (Option Addr × Nat × Nat) × Unit)) =>
 rd Try.prog (Instr.loadAt 23 (.pointer (some x32))) (.agg [(.int .i64), (.int .i64)]) w44 fun (x47 : (Int × Int × Unit)) =>
 flc bel w44 (fun _w49 => True) (fun (w48 : World) =>
   call Try.prog 56 [(.agg #[(.int .i64 x47.1), (.int .i64 x47.2.1)])] (.one (.agg [.bool, .slice, .slice])) w48 fun (x50 : (Bool × (Option Addr × Nat × Nat) × (Option Addr × Nat × Nat) × Unit)) (w51 : World) =>
 (bel w48 w51 ∧ F45 2 [(.agg #[(.int .i64 x47.1), (.int .i64 x47.2.1)])] (.agg #[(.bool x50.1), (.slice x50.2.1.1 x50.2.1.2.1 x50.2.1.2.2), (.slice x50.2.2.1.1 x50.2.2.1.2.1 x50.2.2.1.2.2)]) w51))
  fun (x52 : (Bool × (Option Addr × Nat × Nat) × (Option Addr × Nat × Nat) × Unit)) =>
 flc bel w44 (fun w54 => F45 2 [(.agg #[(.int .i64 x47.1), (.int .i64 x47.2.1)])] (.agg #[(.bool x52.1), (.slice x52.2.1.1 x52.2.1.2.1 x52.2.1.2.2), (.slice x52.2.2.1.1 x52.2.2.1.2.1 x52.2.2.1.2.2)]) w54 ∧ True) (fun (w53 : World) =>
   call Try.prog 81 [(.int .i64 s42.1)] (.one (.agg [.bool, .slice, .slice])) w53 fun (x55 : (Bool × (Option Addr × Nat × Nat) × (Option Addr × Nat × Nat) × Unit)) (w56 : World) =>
 (bel w53 w56 ∧ F45 4 [(.int .i64 s42.1)] (.agg #[(.bool x55.1), (.slice x55.2.1.1 x55.2.1.2.1 x55.2.1.2.2), (.slice x55.2.2.1.1 x55.2.2.1.2.1 x55.2.2.1.2.2)]) w56))
  fun (x57 : (Bool × (Option Addr × Nat × Nat) × (Option Addr × Nat × Nat) × Unit)) =>
 flc bel w44 (fun w59 => F45 4 [(.int .i64 s42.1)] (.agg #[(.bool x57.1), (.slice x57.2.1.1 x57.2.1.2.1 x57.2.1.2.2), (.slice x57.2.2.1.1 x57.2.2.1.2.1 x57.2.2.1.2.2)]) w59 ∧ F45 2 [(.agg #[(.int .i64 x47.1), (.int .i64 x47.2.1)])] (.agg #[(.bool x52.1), (.slice x52.2.1.1 x52.2.1.2.1 x52.2.1.2.2), (.slice x52.2.2.1.1 x52.2.2.1.2.1 x52.2.2.1.2.2)]) w59 ∧ True) (fun (w58 : World) =>
   call Try.prog 68 [(.agg #[(.bool x52.1), (.slice x52.2.1.1 x52.2.1.2.1 x52.2.1.2.2), (.slice x52.2.2.1.1 x52.2.2.1.2.1 x52.2.2.1.2.2)]), (.agg #[(.bool x57.1), (.slice x57.2.1.1 x57.2.1.2.1 x57.2.1.2.2), (.slice x57.2.2.1.1 x57.2.2.1.2.1 x57.2.2.1.2.2)])] (.one (.agg [.bool, .slice, .slice])) w58 fun (x60 : (Bool × (Option Addr × Nat × Nat) × (Option Addr × Nat × Nat) × Unit)) (w61 : World) =>
 (bel w58 w61 ∧ F45 5 [(.agg #[(.bool x52.1), (.slice x52.2.1.1 x52.2.1.2.1 x52.2.1.2.2), (.slice x52.2.2.1.1 x52.2.2.1.2.1 x52.2.2.1.2.2)]), (.agg #[(.bool x57.1), (.slice x57.2.1.1 x57.2.1.2.1 x57.2.1.2.2), (.slice x57.2.2.1.1 x57.2.2.1.2.1 x57.2.2.1.2.2)])] (.agg #[(.bool x60.1), (.slice x60.2.1.1 x60.2.1.2.1 x60.2.1.2.2), (.slice x60.2.2.1.1 x60.2.2.1.2.1 x60.2.2.1.2.2)]) w61))
  fun (x62 : (Bool × (Option Addr × Nat × Nat) × (Option Addr × Nat × Nat) × Unit)) =>
 flend bel w44 (fun w64 => F45 5 [(.agg #[(.bool x52.1), (.slice x52.2.1.1 x52.2.1.2.1 x52.2.1.2.2), (.slice x52.2.2.1.1 x52.2.2.1.2.1 x52.2.2.1.2.2)]), (.agg #[(.bool x57.1), (.slice x57.2.1.1 x57.2.1.2.1 x57.2.1.2.2), (.slice x57.2.2.1.1 x57.2.2.1.2.1 x57.2.2.1.2.2)])] (.agg #[(.bool x62.1), (.slice x62.2.1.1 x62.2.1.2.1 x62.2.1.2.2), (.slice x62.2.2.1.1 x62.2.2.1.2.1 x62.2.2.1.2.2)]) w64 ∧ F45 4 [(.int .i64 s42.1)] (.agg #[(.bool x57.1), (.slice x57.2.1.1 x57.2.1.2.1 x57.2.1.2.2), (.slice x57.2.2.1.1 x57.2.2.1.2.1 x57.2.2.1.2.2)]) w64 ∧ F45 2 [(.agg #[(.int .i64 x47.1), (.int .i64 x47.2.1)])] (.agg #[(.bool x52.1), (.slice x52.2.1.1 x52.2.1.2.1 x52.2.1.2.2), (.slice x52.2.2.1.1 x52.2.2.1.2.1 x52.2.2.1.2.2)]) w64 ∧ True) fun w63 =>
 call Try.prog 60 [(.agg #[(.bool x46.1), (.slice x46.2.1.1 x46.2.1.2.1 x46.2.1.2.2), (.slice x46.2.2.1.1 x46.2.2.1.2.1 x46.2.2.1.2.2)]), (.agg #[(.bool x62.1), (.slice x62.2.1.1 x62.2.1.2.1 x62.2.1.2.2), (.slice x62.2.2.1.1 x62.2.2.1.2.1 x62.2.2.1.2.2)])] (.one (.agg [.bool, .slice, .slice])) w63 fun (x65 : (Bool × (Option Addr × Nat × Nat) × (Option Addr × Nat × Nat) × Unit)) (w66 : World) =>
 wu Try.prog (Instr.storeAt 81 (.pointer (some x17)) (.agg #[(.bool x65.1), (.slice x65.2.1.1 x65.2.1.2.1 x65.2.1.2.2), (.slice x65.2.2.1.1 x65.2.2.1.2.1 x65.2.2.1.2.2)])) w66 fun (w67 : World) =>
 drw w67 fun w68 => flEx fun F69 =>
 rd Try.prog (Instr.loadAt 81 (.pointer (some x19))) (.agg [.bool, .slice, .slice]) w68 fun (x70 : (Bool × (Option Addr × Nat × Nat) × (Option Addr × Nat × Nat) × Unit)) =>
 rd Try.prog (Instr.loadAt 23 (.pointer (some x32))) (.agg [(.int .i64), (.int .i64)]) w68 fun (x71 : (Int × Int × Unit)) =>
 flc bel w68 (fun _w73 => True) (fun (w72 : World) =>
   call Try.prog 56 [(.agg #[(.int .i64 x71.1), (.int .i64 x71.2.1)])] (.one (.agg [.bool, .slice, .slice])) w72 fun (x74 : (Bool × (Option Addr × Nat × Nat) × (Option Addr × Nat × Nat) × Unit)) (w75 : World) =>
 (bel w72 w75 ∧ F69 2 [(.agg #[(.int .i64 x71.1), (.int .i64 x71.2.1)])] (.agg #[(.bool x74.1), (.slice x74.2.1.1 x74.2.1.2.1 x74.2.1.2.2), (.slice x74.2.2.1.1 x74.2.2.1.2.1 x74.2.2.1.2.2)]) w75))
  fun (x76 : (Bool × (Option Addr × Nat × Nat) × (Option Addr × Nat × Nat) × Unit)) =>
 flc bel w68 (fun w78 => F69 2 [(.agg #[(.int .i64 x71.1), (.int .i64 x71.2.1)])] (.agg #[(.bool x76.1), (.slice x76.2.1.1 x76.2.1.2.1 x76.2.1.2.2), (.slice x76.2.2.1.1 x76.2.2.1.2.1 x76.2.2.1.2.2)]) w78 ∧ True) (fun (w77 : World) =>
   call Try.prog 81 [(.int .i64 s42.2.1)] (.one (.agg [.bool, .slice, .slice])) w77 fun (x79 : (Bool × (Option Addr × Nat × Nat) × (Option Addr × Nat × Nat) × Unit)) (w80 : World) =>
 (bel w77 w80 ∧ F69 4 [(.int .i64 s42.2.1)] (.agg #[(.bool x79.1), (.slice x79.2.1.1 x79.2.1.2.1 x79.2.1.2.2), (.slice x79.2.2.1.1 x79.2.2.1.2.1 x79.2.2.1.2.2)]) w80))
  fun (x81 : (Bool × (Option Addr × Nat × Nat) × (Option Addr × Nat × Nat) × Unit)) =>
 flc bel w68 (fun w83 => F69 4 [(.int .i64 s42.2.1)] (.agg #[(.bool x81.1), (.slice x81.2.1.1 x81.2.1.2.1 x81.2.1.2.2), (.slice x81.2.2.1.1 x81.2.2.1.2.1 x81.2.2.1.2.2)]) w83 ∧ F69 2 [(.agg #[(.int .i64 x71.1), (.int .i64 x71.2.1)])] (.agg #[(.bool x76.1), (.slice x76.2.1.1 x76.2.1.2.1 x76.2.1.2.2), (.slice x76.2.2.1.1 x76.2.2.1.2.1 x76.2.2.1.2.2)]) w83 ∧ True) (fun (w82 : World) =>
   call Try.prog 68 [(.agg #[(.bool x76.1), (.slice x76.2.1.1 x76.2.1.2.1 x76.2.1.2.2), (.slice x76.2.2.1.1 x76.2.2.1.2.1 x76.2.2.1.2.2)]), (.agg #[(.bool x81.1), (.slice x81.2.1.1 x81.2.1.2.1 x81.2.1.2.2), (.slice x81.2.2.1.1 x81.2.2.1.2.1 x81.2.2.1.2.2)])] (.one (.agg [.bool, .slice, .slice])) w82 fun (x84 : (Bool × (Option Addr × Nat × Nat) × (Option Addr × Nat × Nat) × Unit)) (w85 : World) =>
 (bel w82 w85 ∧ F69 5 [(.agg #[(.bool x76.1), (.slice x76.2.1.1 x76.2.1.2.1 x76.2.1.2.2), (.slice x76.2.2.1.1 x76.2.2.1.2.1 x76.2.2.1.2.2)]), (.agg #[(.bool x81.1), (.slice x81.2.1.1 x81.2.1.2.1 x81.2.1.2.2), (.slice x81.2.2.1.1 x81.2.2.1.2.1 x81.2.2.1.2.2)])] (.agg #[(.bool x84.1), (.slice x84.2.1.1 x84.2.1.2.1 x84.2.1.2.2), (.slice x84.2.2.1.1 x84.2.2.1.2.1 x84.2.2.1.2.2)]) w85))
  fun (x86 : (Bool × (Option Addr × Nat × Nat) × (Option Addr × Nat × Nat) × Unit)) =>
 flend bel w68 (fun w88 => F69 5 [(.agg #[(.bool x76.1), (.slice x76.2.1.1 x76.2.1.2.1 x76.2.1.2.2), (.slice x76.2.2.1.1 x76.2.2.1.2.1 x76.2.2.1.2.2)]), (.agg #[(.bool x81.1), (.slice x81.2.1.1 x81.2.1.2.1 x81.2.1.2.2), (.slice x81.2.2.1.1 x81.2.2.1.2.1 x81.2.2.1.2.2)])] (.agg #[(.bool x86.1), (.slice x86.2.1.1 x86.2.1.2.1 x86.2.1.2.2), (.slice x86.2.2.1.1 x86.2.2.1.2.1 x86.2.2.1.2.2)]) w88 ∧ F69 4 [(.int .i64 s42.2.1)] (.agg #[(.bool x81.1), (.slice x81.2.1.1 x81.2.1.2.1 x81.2.1.2.2), (.slice x81.2.2.1.1 x81.2.2.1.2.1 x81.2.2.1.2.2)]) w88 ∧ F69 2 [(.agg #[(.int .i64 x71.1), (.int .i64 x71.2.1)])] (.agg #[(.bool x76.1), (.slice x76.2.1.1 x76.2.1.2.1 x76.2.1.2.2), (.slice x76.2.2.1.1 x76.2.2.1.2.1 x76.2.2.1.2.2)]) w88 ∧ True) fun w87 =>
 call Try.prog 60 [(.agg #[(.bool x70.1), (.slice x70.2.1.1 x70.2.1.2.1 x70.2.1.2.2), (.slice x70.2.2.1.1 x70.2.2.1.2.1 x70.2.2.1.2.2)]), (.agg #[(.bool x86.1), (.slice x86.2.1.1 x86.2.1.2.1 x86.2.1.2.2), (.slice x86.2.2.1.1 x86.2.2.1.2.1 x86.2.2.1.2.2)])] (.one (.agg [.bool, .slice, .slice])) w87 fun (x89 : (Bool × (Option Addr × Nat × Nat) × (Option Addr × Nat × Nat) × Unit)) (w90 : World) =>
 wu Try.prog (Instr.storeAt 81 (.pointer (some x19)) (.agg #[(.bool x89.1), (.slice x89.2.1.1 x89.2.1.2.1 x89.2.1.2.2), (.slice x89.2.2.1.1 x89.2.2.1.2.1 x89.2.2.1.2.2)])) w90 fun (w91 : World) =>
 K26 (()) w91)
  fun (K41 : (Int × Int × Unit) → World → Prop) =>
 rd Try.prog (Instr.loadAt 2 (.pointer (some x32))) (.one (.int .i64)) w35 fun (x92 : Int) =>
 br (decide (x92 < 0)) (K41 (x39, x37, ()) w35)
 (K41 (x37, x39, ()) w35))))
 (drw w25 fun w93 => flEx fun F94 =>
 rd Try.prog (Instr.loadAt 81 (.pointer (some x17))) (.agg [.bool, .slice, .slice]) w93 fun (x95 : (Bool × (Option Addr × Nat × Nat) × (Option Addr × Nat × Nat) × Unit)) =>
 rd Try.prog (Instr.loadAt 23 (.pointer (some x6))) (.agg [(.int .i64), (.int .i64)]) w93 fun (x96 : (Int × Int × Unit)) =>
 flc bel w93 (fun _w98 => True) (fun (w97 : World) =>
   call Try.prog 56 [(.agg #[(.int .i64 x96.1), (.int .i64 x96.2.1)])] (.one (.agg [.bool, .slice, .slice])) w97 fun (x99 : (Bool × (Option Addr × Nat × Nat) × (Option Addr × Nat × Nat) × Unit)) (w100 : World) =>
 (bel w97 w100 ∧ F94 2 [(.agg #[(.int .i64 x96.1), (.int .i64 x96.2.1)])] (.agg #[(.bool x99.1), (.slice x99.2.1.1 x99.2.1.2.1 x99.2.1.2.2), (.slice x99.2.2.1.1 x99.2.2.1.2.1 x99.2.2.1.2.2)]) w100))
  fun (x101 : (Bool × (Option Addr × Nat × Nat) × (Option Addr × Nat × Nat) × Unit)) =>
 flc bel w93 (fun w103 => F94 2 [(.agg #[(.int .i64 x96.1), (.int .i64 x96.2.1)])] (.agg #[(.bool x101.1), (.slice x101.2.1.1 x101.2.1.2.1 x101.2.1.2.2), (.slice x101.2.2.1.1 x101.2.2.1.2.1 x101.2.2.1.2.2)]) w103 ∧ True) (fun (w102 : World) =>
   call Try.prog 57 [(.agg #[(.bool x95.1), (.slice x95.2.1.1 x95.2.1.2.1 x95.2.1.2.2), (.slice x95.2.2.1.1 x95.2.2.1.2.1 x95.2.2.1.2.2)]), (.agg #[(.bool x101.1), (.slice x101.2.1.1 x101.2.1.2.1 x101.2.1.2.2), (.slice x101.2.2.1.1 x101.2.2.1.2.1 x101.2.2.1.2.2)])] (.one (.one (.int .i64))) w102 fun (x104 : Int) (w105 : World) =>
 (bel w102 w105 ∧ F94 3 [(.agg #[(.bool x95.1), (.slice x95.2.1.1 x95.2.1.2.1 x95.2.1.2.2), (.slice x95.2.2.1.1 x95.2.2.1.2.1 x95.2.2.1.2.2)]), (.agg #[(.bool x101.1), (.slice x101.2.1.1 x101.2.1.2.1 x101.2.1.2.2), (.slice x101.2.2.1.1 x101.2.2.1.2.1 x101.2.2.1.2.2)])] (.int .i64 x104) w105))
  fun (x106 : Int) =>
 br (decide (x106 > 0)) (flend bel w93 (fun w108 => F94 3 [(.agg #[(.bool x95.1), (.slice x95.2.1.1 x95.2.1.2.1 x95.2.1.2.2), (.slice x95.2.2.1.1 x95.2.2.1.2.1 x95.2.2.1.2.2)]), (.agg #[(.bool x101.1), (.slice x101.2.1.1 x101.2.1.2.1 x101.2.1.2.2), (.slice x101.2.2.1.1 x101.2.2.1.2.1 x101.2.2.1.2.2)])] (.int .i64 x106) w108 ∧ F94 2 [(.agg #[(.int .i64 x96.1), (.int .i64 x96.2.1)])] (.agg #[(.bool x101.1), (.slice x101.2.1.1 x101.2.1.2.1 x101.2.1.2.2), (.slice x101.2.2.1.1 x101.2.2.1.2.1 x101.2.2.1.2.2)]) w108 ∧ True) fun w107 =>
 R (.bool true) w107)
 (rd Try.prog (Instr.loadAt 81 (.pointer (some x19))) (.agg [.bool, .slice, .slice]) w93 fun (x109 : (Bool × (Option Addr × Nat × Nat) × (Option Addr × Nat × Nat) × Unit)) =>
 rd Try.prog (Instr.loadAt 23 (.pointer (some x6))) (.agg [(.int .i64), (.int .i64)]) w93 fun (x110 : (Int × Int × Unit)) =>
 flc bel w93 (fun w112 => F94 3 [(.agg #[(.bool x95.1), (.slice x95.2.1.1 x95.2.1.2.1 x95.2.1.2.2), (.slice x95.2.2.1.1 x95.2.2.1.2.1 x95.2.2.1.2.2)]), (.agg #[(.bool x101.1), (.slice x101.2.1.1 x101.2.1.2.1 x101.2.1.2.2), (.slice x101.2.2.1.1 x101.2.2.1.2.1 x101.2.2.1.2.2)])] (.int .i64 x106) w112 ∧ F94 2 [(.agg #[(.int .i64 x96.1), (.int .i64 x96.2.1)])] (.agg #[(.bool x101.1), (.slice x101.2.1.1 x101.2.1.2.1 x101.2.1.2.2), (.slice x101.2.2.1.1 x101.2.2.1.2.1 x101.2.2.1.2.2)]) w112 ∧ True) (fun (w111 : World) =>
   call Try.prog 56 [(.agg #[(.int .i64 x110.1), (.int .i64 x110.2.1)])] (.one (.agg [.bool, .slice, .slice])) w111 fun (x113 : (Bool × (Option Addr × Nat × Nat) × (Option Addr × Nat × Nat) × Unit)) (w114 : World) =>
 (bel w111 w114 ∧ F94 8 [(.agg #[(.int .i64 x110.1), (.int .i64 x110.2.1)])] (.agg #[(.bool x113.1), (.slice x113.2.1.1 x113.2.1.2.1 x113.2.1.2.2), (.slice x113.2.2.1.1 x113.2.2.1.2.1 x113.2.2.1.2.2)]) w114))
  fun (x115 : (Bool × (Option Addr × Nat × Nat) × (Option Addr × Nat × Nat) × Unit)) =>
 flend bel w93 (fun w117 => F94 8 [(.agg #[(.int .i64 x110.1), (.int .i64 x110.2.1)])] (.agg #[(.bool x115.1), (.slice x115.2.1.1 x115.2.1.2.1 x115.2.1.2.2), (.slice x115.2.2.1.1 x115.2.2.1.2.1 x115.2.2.1.2.2)]) w117 ∧ F94 3 [(.agg #[(.bool x95.1), (.slice x95.2.1.1 x95.2.1.2.1 x95.2.1.2.2), (.slice x95.2.2.1.1 x95.2.2.1.2.1 x95.2.2.1.2.2)]), (.agg #[(.bool x101.1), (.slice x101.2.1.1 x101.2.1.2.1 x101.2.1.2.2), (.slice x101.2.2.1.1 x101.2.2.1.2.1 x101.2.2.1.2.2)])] (.int .i64 x106) w117 ∧ F94 2 [(.agg #[(.int .i64 x96.1), (.int .i64 x96.2.1)])] (.agg #[(.bool x101.1), (.slice x101.2.1.1 x101.2.1.2.1 x101.2.1.2.2), (.slice x101.2.2.1.1 x101.2.2.1.2.1 x101.2.2.1.2.2)]) w117 ∧ True) fun w116 =>
 call Try.prog 57 [(.agg #[(.bool x109.1), (.slice x109.2.1.1 x109.2.1.2.1 x109.2.1.2.2), (.slice x109.2.2.1.1 x109.2.2.1.2.1 x109.2.2.1.2.2)]), (.agg #[(.bool x115.1), (.slice x115.2.1.1 x115.2.1.2.1 x115.2.1.2.2), (.slice x115.2.2.1.1 x115.2.2.1.2.1 x115.2.2.1.2.2)])] (.one (.one (.int .i64))) w116 fun (x118 : Int) (w119 : World) =>
 R (.bool (decide (x118 < 0))) w119)))))
def H41 : Hints := ⟨[(2, 0, [(43, (.one (.int .i64)))]), (0, 64, [(17, (.one (.int .i64))), (18, (.one (.int .i64)))]), (1, 1, [])], [(9, 9), (15, 6), (16, 6), (18, 9)], [], []⟩
set_option maxRecDepth 100000 in
theorem S41_eq (s_0a : Option Addr) (s_0n : Nat) (s_0c : Nat) (s_1a : Option Addr) (s_1n : Nat) (s_1c : Nat) (s_2a : Option Addr) (s_2n : Nat) (s_2c : Nat) (lower_a : Option Addr) (lower_n : Nat) (lower_c : Nat) (upper_a : Option Addr) (upper_n : Nat) (upper_c : Nat) (m_a : Option Addr) (m_n : Nat) (m_c : Nat) (w0 : World) (R : Value → World → Prop) : vcFn Try.prog H41 Try.f41 [(.agg #[(.slice s_0a s_0n s_0c), (.slice s_1a s_1n s_1c), (.slice s_2a s_2n s_2c)]), (.slice lower_a lower_n lower_c), (.slice upper_a upper_n upper_c), (.slice m_a m_n m_c)] w0 R = S41 s_0a s_0n s_0c s_1a s_1n s_1c s_2a s_2n s_2c lower_a lower_n lower_c upper_a upper_n upper_c m_a m_n m_c w0 R := by kernel_rfl
set_option maxRecDepth 100000 in
theorem S41_calls (s_0a : Option Addr) (s_0n : Nat) (s_0c : Nat) (s_1a : Option Addr) (s_1n : Nat) (s_1c : Nat) (s_2a : Option Addr) (s_2n : Nat) (s_2c : Nat) (lower_a : Option Addr) (lower_n : Nat) (lower_c : Nat) (upper_a : Option Addr) (upper_n : Nat) (upper_c : Nat) (m_a : Option Addr) (m_n : Nat) (m_c : Nat) (w0 : World) (R : Value → World → Prop) (h : S41 s_0a s_0n s_0c s_1a s_1n s_1c s_2a s_2n s_2c lower_a lower_n lower_c upper_a upper_n upper_c m_a m_n m_c w0 R) : Calls Try.prog 41 #[(.agg #[(.slice s_0a s_0n s_0c), (.slice s_1a s_1n s_1c), (.slice s_2a s_2n s_2c)]), (.slice lower_a lower_n lower_c), (.slice upper_a upper_n upper_c), (.slice m_a m_n m_c)] w0 (ret R) := by
  rw [← S41_eq] at h; exact vcFn_sound follows_ Try.func41 h

/-- querylab/querylabref11.CheckBounds -/
def S42 (s_0a : Option Addr) (s_0n : Nat) (s_0c : Nat) (s_1a : Option Addr) (s_1n : Nat) (s_1c : Nat) (s_2a : Option Addr) (s_2n : Nat) (s_2c : Nat) (lower_a : Option Addr) (lower_n : Nat) (lower_c : Nat) (upper_a : Option Addr) (upper_n : Nat) (upper_c : Nat) (m_a : Option Addr) (m_n : Nat) (m_c : Nat) (w0 : World) (R : Value → World → Prop) : Prop :=
 wr Try.prog (Instr.box 43 (.agg #[(.slice s_0a s_0n s_0c), (.slice s_1a s_1n s_1c), (.slice s_2a s_2n s_2c)])) (.one .addr) w0 fun (x1 : Addr) (w2 : World) =>
 rd Try.prog (Instr.loadAt 43 (.pointer (some x1))) (.agg [.slice, .slice, .slice]) w2 fun (x3 : ((Option Addr × Nat × Nat) × (Option Addr × Nat × Nat) × (Option Addr × Nat × Nat) × Unit)) =>
 call Try.prog 37 [(.agg #[(.slice x3.1.1 x3.1.2.1 x3.1.2.2), (.slice x3.2.1.1 x3.2.1.2.1 x3.2.1.2.2), (.slice x3.2.2.1.1 x3.2.2.1.2.1 x3.2.2.1.2.2)]), (.slice m_a m_n m_c)] (.many [(.one .slice), (.agg [(.int .i64), (.int .i64)]), (.one (.int .i64))]) w2 fun (x4 : ((Option Addr × Nat × Nat) × (Int × Int × Unit) × Int × Unit)) (w5 : World) =>
 wr Try.prog (Instr.alloc 23 true (.tuple #[])) (.one .addr) w5 fun (x6 : Addr) (w7 : World) =>
 wu Try.prog (Instr.storeAt 23 (.pointer (some x6)) (.agg #[(.int .i64 x4.2.1.1), (.int .i64 x4.2.1.2.1)])) w7 fun (w8 : World) =>
 br (x4.2.2.1 != 0) (R (.bool false) w8)
 (rd Try.prog (Instr.loadAt 40 (.pointer (some x1))) (.one .slice) w8 fun (x9 : (Option Addr × Nat × Nat)) =>
 br (((lower_n : Nat) : Int) != ((x9.2.1 : Nat) : Int)) (R (.bool false) w8)
 (rd Try.prog (Instr.loadAt 40 (.pointer (some x1))) (.one .slice) w8 fun (x10 : (Option Addr × Nat × Nat)) =>
 br (((upper_n : Nat) : Int) != ((x10.2.1 : Nat) : Int)) (R (.bool false) w8)
 (loop (T := (Int × Unit)) (0, ()) w8 fun (again11 : (Int × Unit) → World → Prop) (s12 : (Int × Unit)) w13 => ∀ _ : Nat → Value,
 br (decide (s12.1 < ((lower_n : Nat) : Int))) (rdp Try.prog (Instr.indexAt 40 (.slice lower_a lower_n lower_c) (.int .i64 s12.1)) (.one .addr) fun (x14 : Addr) =>
 rd Try.prog (Instr.loadAt 2 (.pointer (some x14))) (.one (.int .i64)) w13 fun (x15 : Int) =>
 call Try.prog 80 [(.int .i64 x15), (.int .i64 1000000000)] (.one (.one .bool)) w13 fun (x16 : Bool) (w17 : World) =>
 br (!x16) (R (.bool false) w17)
 (rdp Try.prog (Instr.indexAt 40 (.slice upper_a upper_n upper_c) (.int .i64 s12.1)) (.one .addr) fun (x18 : Addr) =>
 rd Try.prog (Instr.loadAt 2 (.pointer (some x18))) (.one (.int .i64)) w17 fun (x19 : Int) =>
 call Try.prog 80 [(.int .i64 x19), (.int .i64 1000000000)] (.one (.one .bool)) w17 fun (x20 : Bool) (w21 : World) =>
 br (!x20) (R (.bool false) w21)
 (z (IntKind.wrap .i64 (s12.1 + 1)) fun (z22 : Int) =>
 again11 (z22, ()) w21)))
 (loop (T := (Int × Unit)) (0, ()) w13 fun (again23 : (Int × Unit) → World → Prop) (s24 : (Int × Unit)) w25 => ∀ _ : Nat → Value,
 br (decide (s24.1 < ((lower_n : Nat) : Int))) (drw w25 fun w26 =>
 rdp Try.prog (Instr.indexAt 40 (.slice lower_a lower_n lower_c) (.int .i64 s24.1)) (.one .addr) fun (x27 : Addr) =>
 rd Try.prog (Instr.loadAt 2 (.pointer (some x27))) (.one (.int .i64)) w26 fun (x28 : Int) =>
 rdp Try.prog (Instr.indexAt 40 (.slice upper_a upper_n upper_c) (.int .i64 s24.1)) (.one .addr) fun (x29 : Addr) =>
 rd Try.prog (Instr.loadAt 2 (.pointer (some x29))) (.one (.int .i64)) w26 fun (x30 : Int) =>
 br (decide (x28 > x30)) (R (.bool true) w26)
 (z (IntKind.wrap .i64 (s24.1 + 1)) fun (z31 : Int) =>
 again23 (z31, ()) w26))
 (rd Try.prog (Instr.loadAt 43 (.pointer (some x1))) (.agg [.slice, .slice, .slice]) w25 fun (x32 : ((Option Addr × Nat × Nat) × (Option Addr × Nat × Nat) × (Option Addr × Nat × Nat) × Unit)) =>
 call Try.prog 90 [(.agg #[(.slice x32.1.1 x32.1.2.1 x32.1.2.2), (.slice x32.2.1.1 x32.2.1.2.1 x32.2.1.2.2), (.slice x32.2.2.1.1 x32.2.2.1.2.1 x32.2.2.1.2.2)]), (.slice m_a m_n m_c)] (.many [(.one .slice), (.agg [.bool, .slice, .slice]), (.one (.int .i64))]) w25 fun (x33 : ((Option Addr × Nat × Nat) × (Bool × (Option Addr × Nat × Nat) × (Option Addr × Nat × Nat) × Unit) × Int × Unit)) (w34 : World) =>
 wr Try.prog (Instr.alloc 90 true (.tuple #[])) (.one .addr) w34 fun (x35 : Addr) (w36 : World) =>
 wu Try.prog (Instr.storeAt 90 (.pointer (some x35)) (.agg #[(.bool x33.2.1.1), (.slice x33.2.1.2.1.1 x33.2.1.2.1.2.1 x33.2.1.2.1.2.2), (.slice x33.2.1.2.2.1.1 x33.2.1.2.2.1.2.1 x33.2.1.2.2.1.2.2)])) w36 fun (w37 : World) =>
 call Try.prog 83 [(.int .i64 0)] (.one (.agg [.bool, .slice, .slice])) w37 fun (x38 : (Bool × (Option Addr × Nat × Nat) × (Option Addr × Nat × Nat) × Unit)) (w39 : World) =>
 call Try.prog 83 [(.int .i64 0)] (.one (.agg [.bool, .slice, .slice])) w39 fun (x40 : (Bool × (Option Addr × Nat × Nat) × (Option Addr × Nat × Nat) × Unit)) (w41 : World) =>
 wr Try.prog (Instr.alloc 90 true (.tuple #[])) (.one .addr) w41 fun (x42 : Addr) (w43 : World) =>
 wr Try.prog (Instr.alloc 90 true (.tuple #[])) (.one .addr) w43 fun (x44 : Addr) (w45 : World) =>
 wu Try.prog (Instr.storeAt 90 (.pointer (some x42)) (.agg #[(.bool x38.1), (.slice x38.2.1.1 x38.2.1.2.1 x38.2.1.2.2), (.slice x38.2.2.1.1 x38.2.2.1.2.1 x38.2.2.1.2.2)])) w45 fun (w46 : World) =>
 wu Try.prog (Instr.storeAt 90 (.pointer (some x44)) (.agg #[(.bool x40.1), (.slice x40.2.1.1 x40.2.1.2.1 x40.2.1.2.2), (.slice x40.2.2.1.1 x40.2.2.1.2.1 x40.2.2.1.2.2)])) w46 fun (w47 : World) =>
 loop (T := (Int × Unit)) (0, ()) w47 fun (again48 : (Int × Unit) → World → Prop) (s49 : (Int × Unit)) w50 => ∀ _ : Nat → Value,
 br (decide (s49.1 < ((x33.1.2.1 : Nat) : Int))) (join (T := (Unit)) (fun (_s52 : (Unit)) w53 => ∀ _ : Nat → Value,
 z (IntKind.wrap .i64 (s49.1 + 1)) fun (z54 : Int) =>
 again48 (z54, ()) w53)
  fun (K51 : (Unit) → World → Prop) =>
 drw w50 fun w55 => flEx fun F56 =>
 rdp Try.prog (Instr.indexAt 112 (.slice x33.1.1 x33.1.2.1 x33.1.2.2) (.int .i64 s49.1)) (.one .addr) fun (x57 : Addr) =>
 rd Try.prog (Instr.loadAt 90 (.pointer (some x57))) (.agg [.bool, .slice, .slice]) w55 fun (x58 : (Bool × (Option Addr × Nat × Nat) × (Option Addr × Nat × Nat) × Unit)) =>
 rdp Try.prog (Instr.indexAt 40 (.slice lower_a lower_n lower_c) (.int .i64 s49.1)) (.one .addr) fun (x59 : Addr) =>
 rd Try.prog (Instr.loadAt 2 (.pointer (some x59))) (.one (.int .i64)) w55 fun (x60 : Int) =>
 flc bel w55 (fun _w62 => True) (fun (w61 : World) =>
   call Try.prog 83 [(.int .i64 x60)] (.one (.agg [.bool, .slice, .slice])) w61 fun (x63 : (Bool × (Option Addr × Nat × Nat) × (Option Addr × Nat × Nat) × Unit)) (w64 : World) =>
 (bel w61 w64 ∧ F56 8 [(.int .i64 x60)] (.agg #[(.bool x63.1), (.slice x63.2.1.1 x63.2.1.2.1 x63.2.1.2.2), (.slice x63.2.2.1.1 x63.2.2.1.2.1 x63.2.2.1.2.2)]) w64))
  fun (x65 : (Bool × (Option Addr × Nat × Nat) × (Option Addr × Nat × Nat) × Unit)) =>
 flc bel w55 (fun w67 => F56 8 [(.int .i64 x60)] (.agg #[(.bool x65.1), (.slice x65.2.1.1 x65.2.1.2.1 x65.2.1.2.2), (.slice x65.2.2.1.1 x65.2.2.1.2.1 x65.2.2.1.2.2)]) w67 ∧ True) (fun (w66 : World) =>
   call Try.prog 69 [(.agg #[(.bool x58.1), (.slice x58.2.1.1 x58.2.1.2.1 x58.2.1.2.2), (.slice x58.2.2.1.1 x58.2.2.1.2.1 x58.2.2.1.2.2)]), (.agg #[(.bool x65.1), (.slice x65.2.1.1 x65.2.1.2.1 x65.2.1.2.2), (.slice x65.2.2.1.1 x65.2.2.1.2.1 x65.2.2.1.2.2)])] (.one (.agg [.bool, .slice, .slice])) w66 fun (x68 : (Bool × (Option Addr × Nat × Nat) × (Option Addr × Nat × Nat) × Unit)) (w69 : World) =>
 (bel w66 w69 ∧ F56 9 [(.agg #[(.bool x58.1), (.slice x58.2.1.1 x58.2.1.2.1 x58.2.1.2.2), (.slice x58.2.2.1.1 x58.2.2.1.2.1 x58.2.2.1.2.2)]), (.agg #[(.bool x65.1), (.slice x65.2.1.1 x65.2.1.2.1 x65.2.1.2.2), (.slice x65.2.2.1.1 x65.2.2.1.2.1 x65.2.2.1.2.2)])] (.agg #[(.bool x68.1), (.slice x68.2.1.1 x68.2.1.2.1 x68.2.1.2.2), (.slice x68.2.2.1.1 x68.2.2.1.2.1 x68.2.2.1.2.2)]) w69))
  fun (x70 : (Bool × (Option Addr × Nat × Nat) × (Option Addr × Nat × Nat) × Unit)) =>
 rdp Try.prog (Instr.indexAt 112 (.slice x33.1.1 x33.1.2.1 x33.1.2.2) (.int .i64 s49.1)) (.one .addr) fun (x71 : Addr) =>
 rd Try.prog (Instr.loadAt 90 (.pointer (some x71))) (.agg [.bool, .slice, .slice]) w55 fun (x72 : (Bool × (Option Addr × Nat × Nat) × (Option Addr × Nat × Nat) × Unit)) =>
 rdp Try.prog (Instr.indexAt 40 (.slice upper_a upper_n upper_c) (.int .i64 s49.1)) (.one .addr) fun (x73 : Addr) =>
 rd Try.prog (Instr.loadAt 2 (.pointer (some x73))) (.one (.int .i64)) w55 fun (x74 : Int) =>
 flc bel w55 (fun w76 => F56 9 [(.agg #[(.bool x58.1), (.slice x58.2.1.1 x58.2.1.2.1 x58.2.1.2.2), (.slice x58.2.2.1.1 x58.2.2.1.2.1 x58.2.2.1.2.2)]), (.agg #[(.bool x65.1), (.slice x65.2.1.1 x65.2.1.2.1 x65.2.1.2.2), (.slice x65.2.2.1.1 x65.2.2.1.2.1 x65.2.2.1.2.2)])] (.agg #[(.bool x70.1), (.slice x70.2.1.1 x70.2.1.2.1 x70.2.1.2.2), (.slice x70.2.2.1.1 x70.2.2.1.2.1 x70.2.2.1.2.2)]) w76 ∧ F56 8 [(.int .i64 x60)] (.agg #[(.bool x65.1), (.slice x65.2.1.1 x65.2.1.2.1 x65.2.1.2.2), (.slice x65.2.2.1.1 x65.2.2.1.2.1 x65.2.2.1.2.2)]) w76 ∧ True) (fun (w75 : World) =>
   call Try.prog 83 [(.int .i64 x74)] (.one (.agg [.bool, .slice, .slice])) w75 fun (x77 : (Bool × (Option Addr × Nat × Nat) × (Option Addr × Nat × Nat) × Unit)) (w78 : World) =>
 (bel w75 w78 ∧ F56 18 [(.int .i64 x74)] (.agg #[(.bool x77.1), (.slice x77.2.1.1 x77.2.1.2.1 x77.2.1.2.2), (.slice x77.2.2.1.1 x77.2.2.1.2.1 x77.2.2.1.2.2)]) w78))
  fun (x79 : (Bool × (Option Addr × Nat × Nat) × (Option Addr × Nat × Nat) × Unit)) =>
 flc bel w55 (fun w81 => F56 18 [(.int .i64 x74)] (.agg #[(.bool x79.1), (.slice x79.2.1.1 x79.2.1.2.1 x79.2.1.2.2), (.slice x79.2.2.1.1 x79.2.2.1.2.1 x79.2.2.1.2.2)]) w81 ∧ F56 9 [(.agg #[(.bool x58.1), (.slice x58.2.1.1 x58.2.1.2.1 x58.2.1.2.2), (.slice x58.2.2.1.1 x58.2.2.1.2.1 x58.2.2.1.2.2)]), (.agg #[(.bool x65.1), (.slice x65.2.1.1 x65.2.1.2.1 x65.2.1.2.2), (.slice x65.2.2.1.1 x65.2.2.1.2.1 x65.2.2.1.2.2)])] (.agg #[(.bool x70.1), (.slice x70.2.1.1 x70.2.1.2.1 x70.2.1.2.2), (.slice x70.2.2.1.1 x70.2.2.1.2.1 x70.2.2.1.2.2)]) w81 ∧ F56 8 [(.int .i64 x60)] (.agg #[(.bool x65.1), (.slice x65.2.1.1 x65.2.1.2.1 x65.2.1.2.2), (.slice x65.2.2.1.1 x65.2.2.1.2.1 x65.2.2.1.2.2)]) w81 ∧ True) (fun (w80 : World) =>
   call Try.prog 69 [(.agg #[(.bool x72.1), (.slice x72.2.1.1 x72.2.1.2.1 x72.2.1.2.2), (.slice x72.2.2.1.1 x72.2.2.1.2.1 x72.2.2.1.2.2)]), (.agg #[(.bool x79.1), (.slice x79.2.1.1 x79.2.1.2.1 x79.2.1.2.2), (.slice x79.2.2.1.1 x79.2.2.1.2.1 x79.2.2.1.2.2)])] (.one (.agg [.bool, .slice, .slice])) w80 fun (x82 : (Bool × (Option Addr × Nat × Nat) × (Option Addr × Nat × Nat) × Unit)) (w83 : World) =>
 (bel w80 w83 ∧ F56 19 [(.agg #[(.bool x72.1), (.slice x72.2.1.1 x72.2.1.2.1 x72.2.1.2.2), (.slice x72.2.2.1.1 x72.2.2.1.2.1 x72.2.2.1.2.2)]), (.agg #[(.bool x79.1), (.slice x79.2.1.1 x79.2.1.2.1 x79.2.1.2.2), (.slice x79.2.2.1.1 x79.2.2.1.2.1 x79.2.2.1.2.2)])] (.agg #[(.bool x82.1), (.slice x82.2.1.1 x82.2.1.2.1 x82.2.1.2.2), (.slice x82.2.2.1.1 x82.2.2.1.2.1 x82.2.2.1.2.2)]) w83))
  fun (x84 : (Bool × (Option Addr × Nat × Nat) × (Option Addr × Nat × Nat) × Unit)) =>
 flc bel w55 (fun _w86 => True) (fun (w85 : World) =>
   wr Try.prog (Instr.alloc 90 true (.tuple #[])) (.one .addr) w85 fun (x87 : Addr) (w88 : World) =>
 (bel w85 w88 ∧ F56 20 [] (.pointer (some x87)) w88))
  fun (x89 : Addr) =>
 flc bel w55 (fun _w91 => True) (fun (w90 : World) =>
   wr Try.prog (Instr.alloc 90 true (.tuple #[])) (.one .addr) w90 fun (x92 : Addr) (w93 : World) =>
 (bel w90 w93 ∧ F56 21 [] (.pointer (some x92)) w93))
  fun (x94 : Addr) =>
 flend bel w55 (fun w96 => (F56 21 [] (.pointer (some x94)) w96 ∧ F56 20 [] (.pointer (some x89)) w96 ∧ F56 19 [(.agg #[(.bool x72.1), (.slice x72.2.1.1 x72.2.1.2.1 x72.2.1.2.2), (.slice x72.2.2.1.1 x72.2.2.1.2.1 x72.2.2.1.2.2)]), (.agg #[(.bool x79.1), (.slice x79.2.1.1 x79.2.1.2.1 x79.2.1.2.2), (.slice x79.2.2.1.1 x79.2.2.1.2.1 x79.2.2.1.2.2)])] (.agg #[(.bool x84.1), (.slice x84.2.1.1 x84.2.1.2.1 x84.2.1.2.2), (.slice x84.2.2.1.1 x84.2.2.1.2.1 x84.2.2.1.2.2)]) w96 ∧ F56 18 [(.int .i64 x74)] (.agg #[(.bool x79.1), (.slice x79.2.1.1 x79.2.1.2.1 x79.2.1.2.2), (.slice x79.2.2.1.1 x79.2.2.1.2.1 x79.2.2.1.2.2)]) w96 ∧ F56 9 [(.agg #[(.bool x58.1), (.slice x58.2.1.1 x58.2.1.2.1 x58.2.1.2.2), (.slice x58.2.2.1.1 x58.2.2.1.2.1 x58.2.2.1.2.2)]), (.agg #[(.bool x65.1), (.slice x65.2.1.1 x65.2.1.2.1 x65.2.1.2.2), (.slice x65.2.2.1.1 x65.2.2.1.2.1 x65.2.2.1.2.2)])] (.agg #[(.bool x70.1), (.slice x70.2.1.1 x70.2.1.2.1 x70.2.1.2.2), (.slice x70.2.2.1.1 x70.2.2.1.2.1 x70.2.2.1.2.2)]) w96 ∧ F56 8 [(.int .i64 x60)] (.agg #[(.bool x65.1), (.slice x65.2.1.1 x65.2.1.2.1 x65.2.1.2.2), (.slice x65.2.2.1.1 x65.2.2.1.2.1 x65.2.2.1.2.2)]) w96 ∧ True) ∧ List.Pairwise (fun a b => a ≠ b) ([(.pointer (some x94)), (.pointer (some x89))] : List Value)) fun w95 =>
 wu Try.prog (Instr.storeAt 90 (.pointer (some x89)) (.agg #[(.bool x70.1), (.slice x70.2.1.1 x70.2.1.2.1 x70.2.1.2.2), (.slice x70.2.2.1.1 x70.2.2.1.2.1 x70.2.2.1.2.2)])) w95 fun (w97 : World) =>
 wu Try.prog (Instr.storeAt 90 (.pointer (some x94)) (.agg #[(.bool x84.1), (.slice x84.2.1.1 x84.2.1.2.1 x84.2.1.2.2), (.slice x84.2.2.1.1 x84.2.2.1.2.1 x84.2.2.1.2.2)])) w97 fun (w98 : World) =>
 join (T := (Unit)) (fun (_s100 : (Unit)) w101 => ∀ _ : Nat → Value,
 drw w101 fun w102 => flEx fun F103 =>
 rd Try.prog (Instr.loadAt 90 (.pointer (some x42))) (.agg [.bool, .slice, .slice]) w102 fun (x104 : (Bool × (Option Addr × Nat × Nat) × (Option Addr × Nat × Nat) × Unit)) =>
 rd Try.prog (Instr.loadAt 90 (.pointer (some x89))) (.agg [.bool, .slice, .slice]) w102 fun (x105 : (Bool × (Option Addr × Nat × Nat) × (Option Addr × Nat × Nat) × Unit)) =>
 flc bel w102 (fun _w107 => True) (fun (w106 : World) =>
   call Try.prog 62 [(.agg #[(.bool x104.1), (.slice x104.2.1.1 x104.2.1.2.1 x104.2.1.2.2), (.slice x104.2.2.1.1 x104.2.2.1.2.1 x104.2.2.1.2.2)]), (.agg #[(.bool x105.1), (.slice x105.2.1.1 x105.2.1.2.1 x105.2.1.2.2), (.slice x105.2.2.1.1 x105.2.2.1.2.1 x105.2.2.1.2.2)])] (.one (.agg [.bool, .slice, .slice])) w106 fun (x108 : (Bool × (Option Addr × Nat × Nat) × (Option Addr × Nat × Nat) × Unit)) (w109 : World) =>
 (bel w106 w109 ∧ F103 2 [(.agg #[(.bool x104.1), (.slice x104.2.1.1 x104.2.1.2.1 x104.2.1.2.2), (.slice x104.2.2.1.1 x104.2.2.1.2.1 x104.2.2.1.2.2)]), (.agg #[(.bool x105.1), (.slice x105.2.1.1 x105.2.1.2.1 x105.2.1.2.2), (.slice x105.2.2.1.1 x105.2.2.1.2.1 x105.2.2.1.2.2)])] (.agg #[(.bool x108.1), (.slice x108.2.1.1 x108.2.1.2.1 x108.2.1.2.2), (.slice x108.2.2.1.1 x108.2.2.1.2.1 x108.2.2.1.2.2)]) w109))
  fun (x110 : (Bool × (Option Addr × Nat × Nat) × (Option Addr × Nat × Nat) × Unit)) =>
 rd Try.prog (Instr.loadAt 90 (.pointer (some x44))) (.agg [.bool, .slice, .slice]) w102 fun (x111 : (Bool × (Option Addr × Nat × Nat) × (Option Addr × Nat × Nat) × Unit)) =>
 rd Try.prog (Instr.loadAt 90 (.pointer (some x94))) (.agg [.bool, .slice, .slice]) w102 fun (x112 : (Bool × (Option Addr × Nat × Nat) × (Option Addr × Nat × Nat) × Unit)) =>
 flend bel w102 (fun w114 => F103 2 [(.agg #[(.bool x104.1), (.slice x104.2.1.1 x104.2.1.2.1 x104.2.1.2.2), (.slice x104.2.2.1.1 x104.2.2.1.2.1 x104.2.2.1.2.2)]), (.agg #[(.bool x105.1), (.slice x105.2.1.1 x105.2.1.2.1 x105.2.1.2.2), (.slice x105.2.2.1.1 x105.2.2.1.2.1 x105.2.2.1.2.2)])] (.agg #[(.bool x110.1), (.slice x110.2.1.1 x110.2.1.2.1 x110.2.1.2.2), (.slice x110.2.2.1.1 x110.2.2.1.2.1 x110.2.2.1.2.2)]) w114 ∧ True) fun w113 =>
 call Try.prog 62 [(.agg #[(.bool x111.1), (.slice x111.2.1.1 x111.2.1.2.1 x111.2.1.2.2), (.slice x111.2.2.1.1 x111.2.2.1.2.1 x111.2.2.1.2.2)]), (.agg #[(.bool x112.1), (.slice x112.2.1.1 x112.2.1.2.1 x112.2.1.2.2), (.slice x112.2.2.1.1 x112.2.2.1.2.1 x112.2.2.1.2.2)])] (.one (.agg [.bool, .slice, .slice])) w113 fun (x115 : (Bool × (Option Addr × Nat × Nat) × (Option Addr × Nat × Nat) × Unit)) (w116 : World) =>
 wu Try.prog (Instr.storeAt 90 (.pointer (some x42)) (.agg #[(.bool x110.1), (.slice x110.2.1.1 x110.2.1.2.1 x110.2.1.2.2), (.slice x110.2.2.1.1 x110.2.2.1.2.1 x110.2.2.1.2.2)])) w116 fun (w117 : World) =>
 wu Try.prog (Instr.storeAt 90 (.pointer (some x44)) (.agg #[(.bool x115.1), (.slice x115.2.1.1 x115.2.1.2.1 x115.2.1.2.2), (.slice x115.2.2.1.1 x115.2.2.1.2.1 x115.2.2.1.2.2)])) w117 fun (w118 : World) =>
 K51 (()) w118)
  fun (K99 : (Unit) → World → Prop) =>
 rdp Try.prog (Instr.indexAt 112 (.slice x33.1.1 x33.1.2.1 x33.1.2.2) (.int .i64 s49.1)) (.one .addr) fun (x119 : Addr) =>
 rd Try.prog (Instr.loadAt 90 (.pointer (some x119))) (.agg [.bool, .slice, .slice]) w98 fun (x120 : (Bool × (Option Addr × Nat × Nat) × (Option Addr × Nat × Nat) × Unit)) =>
 call Try.prog 72 [(.agg #[(.bool x120.1), (.slice x120.2.1.1 x120.2.1.2.1 x120.2.1.2.2), (.slice x120.2.2.1.1 x120.2.2.1.2.1 x120.2.2.1.2.2)])] (.one (.one (.int .i64))) w98 fun (x121 : Int) (w122 : World) =>
 br (decide (x121 < 0)) (rd Try.prog (Instr.loadAt 90 (.pointer (some x94))) (.agg [.bool, .slice, .slice]) w122 fun (x123 : (Bool × (Option Addr × Nat × Nat) × (Option Addr × Nat × Nat) × Unit)) =>
 rd Try.prog (Instr.loadAt 90 (.pointer (some x89))) (.agg [.bool, .slice, .slice]) w122 fun (x124 : (Bool × (Option Addr × Nat × Nat) × (Option Addr × Nat × Nat) × Unit)) =>
 wu Try.prog (Instr.storeAt 90 (.pointer (some x89)) (.agg #[(.bool x123.1), (.slice x123.2.1.1 x123.2.1.2.1 x123.2.1.2.2), (.slice x123.2.2.1.1 x123.2.2.1.2.1 x123.2.2.1.2.2)])) w122 fun (w125 : World) =>
 wu Try.prog (Instr.storeAt 90 (.pointer (some x94)) (.agg #[(.bool x124.1), (.slice x124.2.1.1 x124.2.1.2.1 x124.2.1.2.2), (.slice x124.2.2.1.1 x124.2.2.1.2.1 x124.2.2.1.2.2)])) w125 fun (w126 : World) =>
 K99 (()) w126)
 (K99 (()) w122))
 (rd Try.prog (Instr.loadAt 90 (.pointer (some x35))) (.agg [.bool, .slice, .slice]) w50 fun (x127 : (Bool × (Option Addr × Nat × Nat) × (Option Addr × Nat × Nat) × Unit)) =>
 rd Try.prog (Instr.loadAt 90 (.pointer (some x42))) (.agg [.bool, .slice, .slice]) w50 fun (x128 : (Bool × (Option Addr × Nat × Nat) × (Option Addr × Nat × Nat) × Unit)) =>
 call Try.prog 82 [(.agg #[(.bool x127.1), (.slice x127.2.1.1 x127.2.1.2.1 x127.2.1.2.2), (.slice x127.2.2.1.1 x127.2.2.1.2.1 x127.2.2.1.2.2)]), (.agg #[(.bool x128.1), (.slice x128.2.1.1 x128.2.1.2.1 x128.2.1.2.2), (.slice x128.2.2.1.1 x128.2.2.1.2.1 x128.2.2.1.2.2)])] (.one (.one .bool)) w50 fun (x129 : Bool) (w130 : World) =>
 br x129 (R (.bool true) w130)
 (rd Try.prog (Instr.loadAt 90 (.pointer (some x44))) (.agg [.bool, .slice, .slice]) w130 fun (x131 : (Bool × (Option Addr × Nat × Nat) × (Option Addr × Nat × Nat) × Unit)) =>
 rd Try.prog (Instr.loadAt 90 (.pointer (some x35))) (.agg [.bool, .slice, .slice]) w130 fun (x132 : (Bool × (Option Addr × Nat × Nat) × (Option Addr × Nat × Nat) × Unit)) =>
 call Try.prog 82 [(.agg #[(.bool x131.1), (.slice x131.2.1.1 x131.2.1.2.1 x131.2.1.2.2), (.slice x131.2.2.1.1 x131.2.2.1.2.1 x131.2.2.1.2.2)]), (.agg #[(.bool x132.1), (.slice x132.2.1.1 x132.2.1.2.1 x132.2.1.2.2), (.slice x132.2.2.1.1 x132.2.2.1.2.1 x132.2.2.1.2.2)])] (.one (.one .bool)) w130 fun (x133 : Bool) (w134 : World) =>
 R (.bool x133) w134)))))))
def H42 : Hints := ⟨[(2, 0, [(12, (.one (.int .i64)))]), (2, 2, [(13, (.one (.int .i64)))]), (2, 4, [(19, (.one (.int .i64)))]), (0, 122, []), (1, 5, [])], [(12, 8), (19, 22), (22, 5)], [], []⟩
set_option maxRecDepth 100000 in
theorem S42_eq (s_0a : Option Addr) (s_0n : Nat) (s_0c : Nat) (s_1a : Option Addr) (s_1n : Nat) (s_1c : Nat) (s_2a : Option Addr) (s_2n : Nat) (s_2c : Nat) (lower_a : Option Addr) (lower_n : Nat) (lower_c : Nat) (upper_a : Option Addr) (upper_n : Nat) (upper_c : Nat) (m_a : Option Addr) (m_n : Nat) (m_c : Nat) (w0 : World) (R : Value → World → Prop) : vcFn Try.prog H42 Try.f42 [(.agg #[(.slice s_0a s_0n s_0c), (.slice s_1a s_1n s_1c), (.slice s_2a s_2n s_2c)]), (.slice lower_a lower_n lower_c), (.slice upper_a upper_n upper_c), (.slice m_a m_n m_c)] w0 R = S42 s_0a s_0n s_0c s_1a s_1n s_1c s_2a s_2n s_2c lower_a lower_n lower_c upper_a upper_n upper_c m_a m_n m_c w0 R := by kernel_rfl
set_option maxRecDepth 100000 in
theorem S42_calls (s_0a : Option Addr) (s_0n : Nat) (s_0c : Nat) (s_1a : Option Addr) (s_1n : Nat) (s_1c : Nat) (s_2a : Option Addr) (s_2n : Nat) (s_2c : Nat) (lower_a : Option Addr) (lower_n : Nat) (lower_c : Nat) (upper_a : Option Addr) (upper_n : Nat) (upper_c : Nat) (m_a : Option Addr) (m_n : Nat) (m_c : Nat) (w0 : World) (R : Value → World → Prop) (h : S42 s_0a s_0n s_0c s_1a s_1n s_1c s_2a s_2n s_2c lower_a lower_n lower_c upper_a upper_n upper_c m_a m_n m_c w0 R) : Calls Try.prog 42 #[(.agg #[(.slice s_0a s_0n s_0c), (.slice s_1a s_1n s_1c), (.slice s_2a s_2n s_2c)]), (.slice lower_a lower_n lower_c), (.slice upper_a upper_n upper_c), (.slice m_a m_n m_c)] w0 (ret R) := by
  rw [← S42_eq] at h; exact vcFn_sound follows_ Try.func42 h

/-- querylab/querylablaw11.LinearRaw -/
def S9 (s_0a : Option Addr) (s_0n : Nat) (s_0c : Nat) (s_1a : Option Addr) (s_1n : Nat) (s_1c : Nat) (s_2a : Option Addr) (s_2n : Nat) (s_2c : Nat) (m_a : Option Addr) (m_n : Nat) (m_c : Nat) (low_a : Option Addr) (low_n : Nat) (low_c : Nat) (high_a : Option Addr) (high_n : Nat) (high_c : Nat) (w0 : World) (R : Value → World → Prop) : Prop :=
 wr Try.prog (Instr.box 43 (.agg #[(.slice s_0a s_0n s_0c), (.slice s_1a s_1n s_1c), (.slice s_2a s_2n s_2c)])) (.one .addr) w0 fun (x1 : Addr) (w2 : World) =>
 rd Try.prog (Instr.loadAt 43 (.pointer (some x1))) (.agg [.slice, .slice, .slice]) w2 fun (x3 : ((Option Addr × Nat × Nat) × (Option Addr × Nat × Nat) × (Option Addr × Nat × Nat) × Unit)) =>
 call Try.prog 29 [(.agg #[(.slice x3.1.1 x3.1.2.1 x3.1.2.2), (.slice x3.2.1.1 x3.2.1.2.1 x3.2.1.2.2), (.slice x3.2.2.1.1 x3.2.2.1.2.1 x3.2.2.1.2.2)])] (.one (.one .bool)) w2 fun (x4 : Bool) (w5 : World) =>
 br (!x4) (R (.bool true) w5)
 (br (decide (((m_n : Nat) : Int) > 12)) (R (.bool true) w5)
 (br (decide (((low_n : Nat) : Int) > 12)) (R (.bool true) w5)
 (br (decide (((high_n : Nat) : Int) > 12)) (R (.bool true) w5)
 (rd Try.prog (Instr.loadAt 43 (.pointer (some x1))) (.agg [.slice, .slice, .slice]) w5 fun (x6 : ((Option Addr × Nat × Nat) × (Option Addr × Nat × Nat) × (Option Addr × Nat × Nat) × Unit)) =>
 call Try.prog 36 [(.agg #[(.slice x6.1.1 x6.1.2.1 x6.1.2.2), (.slice x6.2.1.1 x6.2.1.2.1 x6.2.1.2.2), (.slice x6.2.2.1.1 x6.2.2.1.2.1 x6.2.2.1.2.2)]), (.slice m_a m_n m_c)] (.many [(.one .slice), (.agg [(.int .i64), (.int .i64)]), (.one (.int .i64))]) w5 fun (x7 : ((Option Addr × Nat × Nat) × (Int × Int × Unit) × Int × Unit)) (w8 : World) =>
 wr Try.prog (Instr.alloc 23 true (.tuple #[])) (.one .addr) w8 fun (x9 : Addr) (w10 : World) =>
 wu Try.prog (Instr.storeAt 23 (.pointer (some x9)) (.agg #[(.int .i64 x7.2.1.1), (.int .i64 x7.2.1.2.1)])) w10 fun (w11 : World) =>
 rd Try.prog (Instr.loadAt 43 (.pointer (some x1))) (.agg [.slice, .slice, .slice]) w11 fun (x12 : ((Option Addr × Nat × Nat) × (Option Addr × Nat × Nat) × (Option Addr × Nat × Nat) × Unit)) =>
 call Try.prog 37 [(.agg #[(.slice x12.1.1 x12.1.2.1 x12.1.2.2), (.slice x12.2.1.1 x12.2.1.2.1 x12.2.1.2.2), (.slice x12.2.2.1.1 x12.2.2.1.2.1 x12.2.2.1.2.2)]), (.slice m_a m_n m_c)] (.many [(.one .slice), (.agg [(.int .i64), (.int .i64)]), (.one (.int .i64))]) w11 fun (x13 : ((Option Addr × Nat × Nat) × (Int × Int × Unit) × Int × Unit)) (w14 : World) =>
 wr Try.prog (Instr.alloc 23 true (.tuple #[])) (.one .addr) w14 fun (x15 : Addr) (w16 : World) =>
 wu Try.prog (Instr.storeAt 23 (.pointer (some x15)) (.agg #[(.int .i64 x13.2.1.1), (.int .i64 x13.2.1.2.1)])) w16 fun (w17 : World) =>
 drw w17 fun w18 => flEx fun F19 =>
 flc bel w18 (fun _w21 => True) (fun (w20 : World) =>
   call Try.prog 38 [(.slice x7.1.1 x7.1.2.1 x7.1.2.2), (.slice x13.1.1 x13.1.2.1 x13.1.2.2)] (.one (.one .bool)) w20 fun (x22 : Bool) (w23 : World) =>
 (bel w20 w23 ∧ F19 2 [(.slice x7.1.1 x7.1.2.1 x7.1.2.2), (.slice x13.1.1 x13.1.2.1 x13.1.2.2)] (.bool x22) w23))
  fun (x24 : Bool) =>
 br x24 (rd Try.prog (Instr.loadAt 23 (.pointer (some x9))) (.agg [(.int .i64), (.int .i64)]) w18 fun (x25 : (Int × Int × Unit)) =>
 rd Try.prog (Instr.loadAt 23 (.pointer (some x15))) (.agg [(.int .i64), (.int .i64)]) w18 fun (x26 : (Int × Int × Unit)) =>
 rd Try.prog (cmpS .eql 23 (.tmp 51) (.tmp 52) (.agg #[(.int .i64 x25.1), (.int .i64 x25.2.1)]) (.agg #[(.int .i64 x26.1), (.int .i64 x26.2.1)])) (.one .bool) w18 fun (x27 : Bool) =>
 br x27 (br (x7.2.2.1 == x13.2.2.1) (rd Try.prog (Instr.loadAt 43 (.pointer (some x1))) (.agg [.slice, .slice, .slice]) w18 fun (x28 : ((Option Addr × Nat × Nat) × (Option Addr × Nat × Nat) × (Option Addr × Nat × Nat) × Unit)) =>
 flc bel w18 (fun w30 => F19 2 [(.slice x7.1.1 x7.1.2.1 x7.1.2.2), (.slice x13.1.1 x13.1.2.1 x13.1.2.2)] (.bool x24) w30 ∧ True) (fun (w29 : World) =>
   call Try.prog 41 [(.agg #[(.slice x28.1.1 x28.1.2.1 x28.1.2.2), (.slice x28.2.1.1 x28.2.1.2.1 x28.2.1.2.2), (.slice x28.2.2.1.1 x28.2.2.1.2.1 x28.2.2.1.2.2)]), (.slice low_a low_n low_c), (.slice high_a high_n high_c), (.slice m_a m_n m_c)] (.one (.one .bool)) w29 fun (x31 : Bool) (w32 : World) =>
 (bel w29 w32 ∧ F19 18 [(.agg #[(.slice x28.1.1 x28.1.2.1 x28.1.2.2), (.slice x28.2.1.1 x28.2.1.2.1 x28.2.1.2.2), (.slice x28.2.2.1.1 x28.2.2.1.2.1 x28.2.2.1.2.2)]), (.slice low_a low_n low_c), (.slice high_a high_n high_c), (.slice m_a m_n m_c)] (.bool x31) w32))
  fun (x33 : Bool) =>
 rd Try.prog (Instr.loadAt 43 (.pointer (some x1))) (.agg [.slice, .slice, .slice]) w18 fun (x34 : ((Option Addr × Nat × Nat) × (Option Addr × Nat × Nat) × (Option Addr × Nat × Nat) × Unit)) =>
 flc bel w18 (fun w36 => F19 18 [(.agg #[(.slice x28.1.1 x28.1.2.1 x28.1.2.2), (.slice x28.2.1.1 x28.2.1.2.1 x28.2.1.2.2), (.slice x28.2.2.1.1 x28.2.2.1.2.1 x28.2.2.1.2.2)]), (.slice low_a low_n low_c), (.slice high_a high_n high_c), (.slice m_a m_n m_c)] (.bool x33) w36 ∧ F19 2 [(.slice x7.1.1 x7.1.2.1 x7.1.2.2), (.slice x13.1.1 x13.1.2.1 x13.1.2.2)] (.bool x24) w36 ∧ True) (fun (w35 : World) =>
   call Try.prog 42 [(.agg #[(.slice x34.1.1 x34.1.2.1 x34.1.2.2), (.slice x34.2.1.1 x34.2.1.2.1 x34.2.1.2.2), (.slice x34.2.2.1.1 x34.2.2.1.2.1 x34.2.2.1.2.2)]), (.slice low_a low_n low_c), (.slice high_a high_n high_c), (.slice m_a m_n m_c)] (.one (.one .bool)) w35 fun (x37 : Bool) (w38 : World) =>
 (bel w35 w38 ∧ F19 23 [(.agg #[(.slice x34.1.1 x34.1.2.1 x34.1.2.2), (.slice x34.2.1.1 x34.2.1.2.1 x34.2.1.2.2), (.slice x34.2.2.1.1 x34.2.2.1.2.1 x34.2.2.1.2.2)]), (.slice low_a low_n low_c), (.slice high_a high_n high_c), (.slice m_a m_n m_c)] (.bool x37) w38))
  fun (x39 : Bool) =>
 br (x33 == x39) (rd Try.prog (Instr.loadAt 43 (.pointer (some x1))) (.agg [.slice, .slice, .slice]) w18 fun (x40 : ((Option Addr × Nat × Nat) × (Option Addr × Nat × Nat) × (Option Addr × Nat × Nat) × Unit)) =>
 flc bel w18 (fun w42 => F19 23 [(.agg #[(.slice x34.1.1 x34.1.2.1 x34.1.2.2), (.slice x34.2.1.1 x34.2.1.2.1 x34.2.1.2.2), (.slice x34.2.2.1.1 x34.2.2.1.2.1 x34.2.2.1.2.2)]), (.slice low_a low_n low_c), (.slice high_a high_n high_c), (.slice m_a m_n m_c)] (.bool x39) w42 ∧ F19 18 [(.agg #[(.slice x28.1.1 x28.1.2.1 x28.1.2.2), (.slice x28.2.1.1 x28.2.1.2.1 x28.2.1.2.2), (.slice x28.2.2.1.1 x28.2.2.1.2.1 x28.2.2.1.2.2)]), (.slice low_a low_n low_c), (.slice high_a high_n high_c), (.slice m_a m_n m_c)] (.bool x33) w42 ∧ F19 2 [(.slice x7.1.1 x7.1.2.1 x7.1.2.2), (.slice x13.1.1 x13.1.2.1 x13.1.2.2)] (.bool x24) w42 ∧ True) (fun (w41 : World) =>
   call Try.prog 39 [(.agg #[(.slice x40.1.1 x40.1.2.1 x40.1.2.2), (.slice x40.2.1.1 x40.2.1.2.1 x40.2.1.2.2), (.slice x40.2.2.1.1 x40.2.2.1.2.1 x40.2.2.1.2.2)]), (.slice m_a m_n m_c)] (.one (.one .bool)) w41 fun (x43 : Bool) (w44 : World) =>
 (bel w41 w44 ∧ F19 29 [(.agg #[(.slice x40.1.1 x40.1.2.1 x40.1.2.2), (.slice x40.2.1.1 x40.2.1.2.1 x40.2.1.2.2), (.slice x40.2.2.1.1 x40.2.2.1.2.1 x40.2.2.1.2.2)]), (.slice m_a m_n m_c)] (.bool x43) w44))
  fun (x45 : Bool) =>
 rd Try.prog (Instr.loadAt 43 (.pointer (some x1))) (.agg [.slice, .slice, .slice]) w18 fun (x46 : ((Option Addr × Nat × Nat) × (Option Addr × Nat × Nat) × (Option Addr × Nat × Nat) × Unit)) =>
 flc bel w18 (fun w48 => F19 29 [(.agg #[(.slice x40.1.1 x40.1.2.1 x40.1.2.2), (.slice x40.2.1.1 x40.2.1.2.1 x40.2.1.2.2), (.slice x40.2.2.1.1 x40.2.2.1.2.1 x40.2.2.1.2.2)]), (.slice m_a m_n m_c)] (.bool x45) w48 ∧ F19 23 [(.agg #[(.slice x34.1.1 x34.1.2.1 x34.1.2.2), (.slice x34.2.1.1 x34.2.1.2.1 x34.2.1.2.2), (.slice x34.2.2.1.1 x34.2.2.1.2.1 x34.2.2.1.2.2)]), (.slice low_a low_n low_c), (.slice high_a high_n high_c), (.slice m_a m_n m_c)] (.bool x39) w48 ∧ F19 18 [(.agg #[(.slice x28.1.1 x28.1.2.1 x28.1.2.2), (.slice x28.2.1.1 x28.2.1.2.1 x28.2.1.2.2), (.slice x28.2.2.1.1 x28.2.2.1.2.1 x28.2.2.1.2.2)]), (.slice low_a low_n low_c), (.slice high_a high_n high_c), (.slice m_a m_n m_c)] (.bool x33) w48 ∧ F19 2 [(.slice x7.1.1 x7.1.2.1 x7.1.2.2), (.slice x13.1.1 x13.1.2.1 x13.1.2.2)] (.bool x24) w48 ∧ True) (fun (w47 : World) =>
   call Try.prog 40 [(.agg #[(.slice x46.1.1 x46.1.2.1 x46.1.2.2), (.slice x46.2.1.1 x46.2.1.2.1 x46.2.1.2.2), (.slice x46.2.2.1.1 x46.2.2.1.2.1 x46.2.2.1.2.2)]), (.slice m_a m_n m_c)] (.one (.one .bool)) w47 fun (x49 : Bool) (w50 : World) =>
 (bel w47 w50 ∧ F19 32 [(.agg #[(.slice x46.1.1 x46.1.2.1 x46.1.2.2), (.slice x46.2.1.1 x46.2.1.2.1 x46.2.1.2.2), (.slice x46.2.2.1.1 x46.2.2.1.2.1 x46.2.2.1.2.2)]), (.slice m_a m_n m_c)] (.bool x49) w50))
  fun (x51 : Bool) =>
 br (x45 == x51) (flc bel w18 (fun w53 => F19 32 [(.agg #[(.slice x46.1.1 x46.1.2.1 x46.1.2.2), (.slice x46.2.1.1 x46.2.1.2.1 x46.2.1.2.2), (.slice x46.2.2.1.1 x46.2.2.1.2.1 x46.2.2.1.2.2)]), (.slice m_a m_n m_c)] (.bool x51) w53 ∧ F19 29 [(.agg #[(.slice x40.1.1 x40.1.2.1 x40.1.2.2), (.slice x40.2.1.1 x40.2.1.2.1 x40.2.1.2.2), (.slice x40.2.2.1.1 x40.2.2.1.2.1 x40.2.2.1.2.2)]), (.slice m_a m_n m_c)] (.bool x45) w53 ∧ F19 23 [(.agg #[(.slice x34.1.1 x34.1.2.1 x34.1.2.2), (.slice x34.2.1.1 x34.2.1.2.1 x34.2.1.2.2), (.slice x34.2.2.1.1 x34.2.2.1.2.1 x34.2.2.1.2.2)]), (.slice low_a low_n low_c), (.slice high_a high_n high_c), (.slice m_a m_n m_c)] (.bool x39) w53 ∧ F19 18 [(.agg #[(.slice x28.1.1 x28.1.2.1 x28.1.2.2), (.slice x28.2.1.1 x28.2.1.2.1 x28.2.1.2.2), (.slice x28.2.2.1.1 x28.2.2.1.2.1 x28.2.2.1.2.2)]), (.slice low_a low_n low_c), (.slice high_a high_n high_c), (.slice m_a m_n m_c)] (.bool x33) w53 ∧ F19 2 [(.slice x7.1.1 x7.1.2.1 x7.1.2.2), (.slice x13.1.1 x13.1.2.1 x13.1.2.2)] (.bool x24) w53 ∧ True) (fun (w52 : World) =>
   wr Try.prog (Instr.buildSlice 40 1 #[(0, (.int .i64 1))]) (.one .slice) w52 fun (x54 : (Option Addr × Nat × Nat)) (w55 : World) =>
 (bel w52 w55 ∧ F19 36 [] (.slice x54.1 x54.2.1 x54.2.2) w55))
  fun (x56 : (Option Addr × Nat × Nat)) =>
 flc bel w18 (fun w58 => F19 32 [(.agg #[(.slice x46.1.1 x46.1.2.1 x46.1.2.2), (.slice x46.2.1.1 x46.2.1.2.1 x46.2.1.2.2), (.slice x46.2.2.1.1 x46.2.2.1.2.1 x46.2.2.1.2.2)]), (.slice m_a m_n m_c)] (.bool x51) w58 ∧ F19 29 [(.agg #[(.slice x40.1.1 x40.1.2.1 x40.1.2.2), (.slice x40.2.1.1 x40.2.1.2.1 x40.2.1.2.2), (.slice x40.2.2.1.1 x40.2.2.1.2.1 x40.2.2.1.2.2)]), (.slice m_a m_n m_c)] (.bool x45) w58 ∧ F19 23 [(.agg #[(.slice x34.1.1 x34.1.2.1 x34.1.2.2), (.slice x34.2.1.1 x34.2.1.2.1 x34.2.1.2.2), (.slice x34.2.2.1.1 x34.2.2.1.2.1 x34.2.2.1.2.2)]), (.slice low_a low_n low_c), (.slice high_a high_n high_c), (.slice m_a m_n m_c)] (.bool x39) w58 ∧ F19 18 [(.agg #[(.slice x28.1.1 x28.1.2.1 x28.1.2.2), (.slice x28.2.1.1 x28.2.1.2.1 x28.2.1.2.2), (.slice x28.2.2.1.1 x28.2.2.1.2.1 x28.2.2.1.2.2)]), (.slice low_a low_n low_c), (.slice high_a high_n high_c), (.slice m_a m_n m_c)] (.bool x33) w58 ∧ F19 2 [(.slice x7.1.1 x7.1.2.1 x7.1.2.2), (.slice x13.1.1 x13.1.2.1 x13.1.2.2)] (.bool x24) w58 ∧ True) (fun (w57 : World) =>
   wr Try.prog (Instr.buildSlice 40 1 #[(0, (.int .i64 2))]) (.one .slice) w57 fun (x59 : (Option Addr × Nat × Nat)) (w60 : World) =>
 (bel w57 w60 ∧ F19 37 [] (.slice x59.1 x59.2.1 x59.2.2) w60))
  fun (x61 : (Option Addr × Nat × Nat)) =>
 flc bel w18 (fun w63 => F19 37 [] (.slice x61.1 x61.2.1 x61.2.2) w63 ∧ F19 32 [(.agg #[(.slice x46.1.1 x46.1.2.1 x46.1.2.2), (.slice x46.2.1.1 x46.2.1.2.1 x46.2.1.2.2), (.slice x46.2.2.1.1 x46.2.2.1.2.1 x46.2.2.1.2.2)]), (.slice m_a m_n m_c)] (.bool x51) w63 ∧ F19 29 [(.agg #[(.slice x40.1.1 x40.1.2.1 x40.1.2.2), (.slice x40.2.1.1 x40.2.1.2.1 x40.2.1.2.2), (.slice x40.2.2.1.1 x40.2.2.1.2.1 x40.2.2.1.2.2)]), (.slice m_a m_n m_c)] (.bool x45) w63 ∧ F19 23 [(.agg #[(.slice x34.1.1 x34.1.2.1 x34.1.2.2), (.slice x34.2.1.1 x34.2.1.2.1 x34.2.1.2.2), (.slice x34.2.2.1.1 x34.2.2.1.2.1 x34.2.2.1.2.2)]), (.slice low_a low_n low_c), (.slice high_a high_n high_c), (.slice m_a m_n m_c)] (.bool x39) w63 ∧ F19 18 [(.agg #[(.slice x28.1.1 x28.1.2.1 x28.1.2.2), (.slice x28.2.1.1 x28.2.1.2.1 x28.2.1.2.2), (.slice x28.2.2.1.1 x28.2.2.1.2.1 x28.2.2.1.2.2)]), (.slice low_a low_n low_c), (.slice high_a high_n high_c), (.slice m_a m_n m_c)] (.bool x33) w63 ∧ F19 2 [(.slice x7.1.1 x7.1.2.1 x7.1.2.2), (.slice x13.1.1 x13.1.2.1 x13.1.2.2)] (.bool x24) w63 ∧ True) (fun (w62 : World) =>
   wr Try.prog (Instr.buildSlice 41 1 #[(0, (.slice x61.1 x61.2.1 x61.2.2))]) (.one .slice) w62 fun (x64 : (Option Addr × Nat × Nat)) (w65 : World) =>
 (bel w62 w65 ∧ F19 38 [] (.slice x64.1 x64.2.1 x64.2.2) w65))
  fun (x66 : (Option Addr × Nat × Nat)) =>
 flc bel w18 (fun w68 => F19 32 [(.agg #[(.slice x46.1.1 x46.1.2.1 x46.1.2.2), (.slice x46.2.1.1 x46.2.1.2.1 x46.2.1.2.2), (.slice x46.2.2.1.1 x46.2.2.1.2.1 x46.2.2.1.2.2)]), (.slice m_a m_n m_c)] (.bool x51) w68 ∧ F19 29 [(.agg #[(.slice x40.1.1 x40.1.2.1 x40.1.2.2), (.slice x40.2.1.1 x40.2.1.2.1 x40.2.1.2.2), (.slice x40.2.2.1.1 x40.2.2.1.2.1 x40.2.2.1.2.2)]), (.slice m_a m_n m_c)] (.bool x45) w68 ∧ F19 23 [(.agg #[(.slice x34.1.1 x34.1.2.1 x34.1.2.2), (.slice x34.2.1.1 x34.2.1.2.1 x34.2.1.2.2), (.slice x34.2.2.1.1 x34.2.2.1.2.1 x34.2.2.1.2.2)]), (.slice low_a low_n low_c), (.slice high_a high_n high_c), (.slice m_a m_n m_c)] (.bool x39) w68 ∧ F19 18 [(.agg #[(.slice x28.1.1 x28.1.2.1 x28.1.2.2), (.slice x28.2.1.1 x28.2.1.2.1 x28.2.1.2.2), (.slice x28.2.2.1.1 x28.2.2.1.2.1 x28.2.2.1.2.2)]), (.slice low_a low_n low_c), (.slice high_a high_n high_c), (.slice m_a m_n m_c)] (.bool x33) w68 ∧ F19 2 [(.slice x7.1.1 x7.1.2.1 x7.1.2.2), (.slice x13.1.1 x13.1.2.1 x13.1.2.2)] (.bool x24) w68 ∧ True) (fun (w67 : World) =>
   wr Try.prog (Instr.buildSlice 40 1 #[(0, (.int .i64 1))]) (.one .slice) w67 fun (x69 : (Option Addr × Nat × Nat)) (w70 : World) =>
 (bel w67 w70 ∧ F19 39 [] (.slice x69.1 x69.2.1 x69.2.2) w70))
  fun (x71 : (Option Addr × Nat × Nat)) =>
 flc bel w18 (fun w73 => F19 32 [(.agg #[(.slice x46.1.1 x46.1.2.1 x46.1.2.2), (.slice x46.2.1.1 x46.2.1.2.1 x46.2.1.2.2), (.slice x46.2.2.1.1 x46.2.2.1.2.1 x46.2.2.1.2.2)]), (.slice m_a m_n m_c)] (.bool x51) w73 ∧ F19 29 [(.agg #[(.slice x40.1.1 x40.1.2.1 x40.1.2.2), (.slice x40.2.1.1 x40.2.1.2.1 x40.2.1.2.2), (.slice x40.2.2.1.1 x40.2.2.1.2.1 x40.2.2.1.2.2)]), (.slice m_a m_n m_c)] (.bool x45) w73 ∧ F19 23 [(.agg #[(.slice x34.1.1 x34.1.2.1 x34.1.2.2), (.slice x34.2.1.1 x34.2.1.2.1 x34.2.1.2.2), (.slice x34.2.2.1.1 x34.2.2.1.2.1 x34.2.2.1.2.2)]), (.slice low_a low_n low_c), (.slice high_a high_n high_c), (.slice m_a m_n m_c)] (.bool x39) w73 ∧ F19 18 [(.agg #[(.slice x28.1.1 x28.1.2.1 x28.1.2.2), (.slice x28.2.1.1 x28.2.1.2.1 x28.2.1.2.2), (.slice x28.2.2.1.1 x28.2.2.1.2.1 x28.2.2.1.2.2)]), (.slice low_a low_n low_c), (.slice high_a high_n high_c), (.slice m_a m_n m_c)] (.bool x33) w73 ∧ F19 2 [(.slice x7.1.1 x7.1.2.1 x7.1.2.2), (.slice x13.1.1 x13.1.2.1 x13.1.2.2)] (.bool x24) w73 ∧ True) (fun (w72 : World) =>
   wr Try.prog (Instr.buildSlice 33 1 #[(0, (.agg #[(.int .i64 1), (.int .i64 2)]))]) (.one .slice) w72 fun (x74 : (Option Addr × Nat × Nat)) (w75 : World) =>
 (bel w72 w75 ∧ F19 42 [] (.slice x74.1 x74.2.1 x74.2.2) w75))
  fun (x76 : (Option Addr × Nat × Nat)) =>
 flend bel w18 (fun w78 => F19 42 [] (.slice x76.1 x76.2.1 x76.2.2) w78 ∧ F19 39 [] (.slice x71.1 x71.2.1 x71.2.2) w78 ∧ F19 38 [] (.slice x66.1 x66.2.1 x66.2.2) w78 ∧ F19 37 [] (.slice x61.1 x61.2.1 x61.2.2) w78 ∧ F19 36 [] (.slice x56.1 x56.2.1 x56.2.2) w78 ∧ F19 32 [(.agg #[(.slice x46.1.1 x46.1.2.1 x46.1.2.2), (.slice x46.2.1.1 x46.2.1.2.1 x46.2.1.2.2), (.slice x46.2.2.1.1 x46.2.2.1.2.1 x46.2.2.1.2.2)]), (.slice m_a m_n m_c)] (.bool x51) w78 ∧ F19 29 [(.agg #[(.slice x40.1.1 x40.1.2.1 x40.1.2.2), (.slice x40.2.1.1 x40.2.1.2.1 x40.2.1.2.2), (.slice x40.2.2.1.1 x40.2.2.1.2.1 x40.2.2.1.2.2)]), (.slice m_a m_n m_c)] (.bool x45) w78 ∧ F19 23 [(.agg #[(.slice x34.1.1 x34.1.2.1 x34.1.2.2), (.slice x34.2.1.1 x34.2.1.2.1 x34.2.1.2.2), (.slice x34.2.2.1.1 x34.2.2.1.2.1 x34.2.2.1.2.2)]), (.slice low_a low_n low_c), (.slice high_a high_n high_c), (.slice m_a m_n m_c)] (.bool x39) w78 ∧ F19 18 [(.agg #[(.slice x28.1.1 x28.1.2.1 x28.1.2.2), (.slice x28.2.1.1 x28.2.1.2.1 x28.2.1.2.2), (.slice x28.2.2.1.1 x28.2.2.1.2.1 x28.2.2.1.2.2)]), (.slice low_a low_n low_c), (.slice high_a high_n high_c), (.slice m_a m_n m_c)] (.bool x33) w78 ∧ F19 2 [(.slice x7.1.1 x7.1.2.1 x7.1.2.2), (.slice x13.1.1 x13.1.2.1 x13.1.2.2)] (.bool x24) w78 ∧ True) fun w77 =>
 call Try.prog 39 [(.agg #[(.slice x56.1 x56.2.1 x56.2.2), (.slice x66.1 x66.2.1 x66.2.2), (.slice x71.1 x71.2.1 x71.2.2)]), (.slice x76.1 x76.2.1 x76.2.2)] (.one (.one .bool)) w77 fun (x79 : Bool) (w80 : World) =>
 R (.bool x79) w80)
 (flend bel w18 (fun w82 => F19 32 [(.agg #[(.slice x46.1.1 x46.1.2.1 x46.1.2.2), (.slice x46.2.1.1 x46.2.1.2.1 x46.2.1.2.2), (.slice x46.2.2.1.1 x46.2.2.1.2.1 x46.2.2.1.2.2)]), (.slice m_a m_n m_c)] (.bool x51) w82 ∧ F19 29 [(.agg #[(.slice x40.1.1 x40.1.2.1 x40.1.2.2), (.slice x40.2.1.1 x40.2.1.2.1 x40.2.1.2.2), (.slice x40.2.2.1.1 x40.2.2.1.2.1 x40.2.2.1.2.2)]), (.slice m_a m_n m_c)] (.bool x45) w82 ∧ F19 23 [(.agg #[(.slice x34.1.1 x34.1.2.1 x34.1.2.2), (.slice x34.2.1.1 x34.2.1.2.1 x34.2.1.2.2), (.slice x34.2.2.1.1 x34.2.2.1.2.1 x34.2.2.1.2.2)]), (.slice low_a low_n low_c), (.slice high_a high_n high_c), (.slice m_a m_n m_c)] (.bool x39) w82 ∧ F19 18 [(.agg #[(.slice x28.1.1 x28.1.2.1 x28.1.2.2), (.slice x28.2.1.1 x28.2.1.2.1 x28.2.1.2.2), (.slice x28.2.2.1.1 x28.2.2.1.2.1 x28.2.2.1.2.2)]), (.slice low_a low_n low_c), (.slice high_a high_n high_c), (.slice m_a m_n m_c)] (.bool x33) w82 ∧ F19 2 [(.slice x7.1.1 x7.1.2.1 x7.1.2.2), (.slice x13.1.1 x13.1.2.1 x13.1.2.2)] (.bool x24) w82 ∧ True) fun w81 =>
 R (.bool false) w81))
 (flend bel w18 (fun w84 => F19 23 [(.agg #[(.slice x34.1.1 x34.1.2.1 x34.1.2.2), (.slice x34.2.1.1 x34.2.1.2.1 x34.2.1.2.2), (.slice x34.2.2.1.1 x34.2.2.1.2.1 x34.2.2.1.2.2)]), (.slice low_a low_n low_c), (.slice high_a high_n high_c), (.slice m_a m_n m_c)] (.bool x39) w84 ∧ F19 18 [(.agg #[(.slice x28.1.1 x28.1.2.1 x28.1.2.2), (.slice x28.2.1.1 x28.2.1.2.1 x28.2.1.2.2), (.slice x28.2.2.1.1 x28.2.2.1.2.1 x28.2.2.1.2.2)]), (.slice low_a low_n low_c), (.slice high_a high_n high_c), (.slice m_a m_n m_c)] (.bool x33) w84 ∧ F19 2 [(.slice x7.1.1 x7.1.2.1 x7.1.2.2), (.slice x13.1.1 x13.1.2.1 x13.1.2.2)] (.bool x24) w84 ∧ True) fun w83 =>
 R (.bool false) w83))
 (flend bel w18 (fun w86 => F19 2 [(.slice x7.1.1 x7.1.2.1 x7.1.2.2), (.slice x13.1.1 x13.1.2.1 x13.1.2.2)] (.bool x24) w86 ∧ True) fun w85 =>
 R (.bool false) w85))
 (flend bel w18 (fun w88 => F19 2 [(.slice x7.1.1 x7.1.2.1 x7.1.2.2), (.slice x13.1.1 x13.1.2.1 x13.1.2.2)] (.bool x24) w88 ∧ True) fun w87 =>
 R (.bool false) w87))
 (flend bel w18 (fun w90 => F19 2 [(.slice x7.1.1 x7.1.2.1 x7.1.2.2), (.slice x13.1.1 x13.1.2.1 x13.1.2.2)] (.bool x24) w90 ∧ True) fun w89 =>
 R (.bool false) w89)))))
def H9 : Hints := ⟨[], [(5, 43)], [], []⟩
set_option maxRecDepth 100000 in
theorem S9_eq (s_0a : Option Addr) (s_0n : Nat) (s_0c : Nat) (s_1a : Option Addr) (s_1n : Nat) (s_1c : Nat) (s_2a : Option Addr) (s_2n : Nat) (s_2c : Nat) (m_a : Option Addr) (m_n : Nat) (m_c : Nat) (low_a : Option Addr) (low_n : Nat) (low_c : Nat) (high_a : Option Addr) (high_n : Nat) (high_c : Nat) (w0 : World) (R : Value → World → Prop) : vcFn Try.prog H9 Try.f9 [(.agg #[(.slice s_0a s_0n s_0c), (.slice s_1a s_1n s_1c), (.slice s_2a s_2n s_2c)]), (.slice m_a m_n m_c), (.slice low_a low_n low_c), (.slice high_a high_n high_c)] w0 R = S9 s_0a s_0n s_0c s_1a s_1n s_1c s_2a s_2n s_2c m_a m_n m_c low_a low_n low_c high_a high_n high_c w0 R := by kernel_rfl
set_option maxRecDepth 100000 in
theorem S9_calls (s_0a : Option Addr) (s_0n : Nat) (s_0c : Nat) (s_1a : Option Addr) (s_1n : Nat) (s_1c : Nat) (s_2a : Option Addr) (s_2n : Nat) (s_2c : Nat) (m_a : Option Addr) (m_n : Nat) (m_c : Nat) (low_a : Option Addr) (low_n : Nat) (low_c : Nat) (high_a : Option Addr) (high_n : Nat) (high_c : Nat) (w0 : World) (R : Value → World → Prop) (h : S9 s_0a s_0n s_0c s_1a s_1n s_1c s_2a s_2n s_2c m_a m_n m_c low_a low_n low_c high_a high_n high_c w0 R) : Calls Try.prog 9 #[(.agg #[(.slice s_0a s_0n s_0c), (.slice s_1a s_1n s_1c), (.slice s_2a s_2n s_2c)]), (.slice m_a m_n m_c), (.slice low_a low_n low_c), (.slice high_a high_n high_c)] w0 (ret R) := by
  rw [← S9_eq] at h; exact vcFn_sound follows_ Try.func9 h

end Go.Proofs

/- Combinations of rows: the program. -/


namespace Go.Proofs.Ytajpdnphamomjaa
open Go.RowKit Go.Q Go.Q.Num Go.V

def colI (T : List (List Int)) (k : Nat) : List Int := T.map fun r => r.getD k 0
def colQ (T : List (List Int)) (M : List (Int × Int)) (k : Nat) : Rat := dotN (colI T k) M T.length
def rhsQ (T : List (List Int)) (rt : List Int) (M : List (Int × Int)) : Rat := dotN rt M T.length
def fpair (r : Rat) : Int × Int := (r.num, ((r.den : Nat) : Int))
def cols (_up : List Int) (T : List (List Int)) (M : List (Int × Int)) (n : Nat) : List (Int × Int) := (List.range n).map fun k => fpair (colQ T M k)
def combE (up : List Int) (T : List (List Int)) (rt : List Int) (M : List (Int × Int)) : Int :=
  if sysE up T rt ≠ 0 then sysE up T rt else if M.length ≠ T.length then 9 else if ∀ p ∈ M, IsFrac p.1 p.2 then (if (∀ k, k < up.length → Fits (colQ T M k)) ∧ Fits (rhsQ T rt M) then 0 else 8) else 1
section
variable {up : List Int} {T : List (List Int)} {rt : List Int} {M : List (Int × Int)}
theorem combE_1 (h : sysE up T rt ≠ 0) : combE up T rt M = sysE up T rt := by unfold combE; rw [if_pos h]
theorem combE_2 (h : sysE up T rt = 0) (h2 : M.length ≠ T.length) : combE up T rt M = 9 := by unfold combE; rw [if_neg (by omega), if_pos h2]
theorem combE_3 (h : sysE up T rt = 0) (h2 : M.length = T.length) (h3 : ¬ ∀ p ∈ M, IsFrac p.1 p.2) : combE up T rt M = 1 := by unfold combE; rw [if_neg (by omega), if_neg (by omega), if_neg h3]
theorem combE_4 (h : sysE up T rt = 0) (h2 : M.length = T.length) (h3 : ∀ p ∈ M, IsFrac p.1 p.2) (h4 : ¬ ((∀ k, k < up.length → Fits (colQ T M k)) ∧ Fits (rhsQ T rt M))) : combE up T rt M = 8 := by unfold combE; rw [if_neg (by omega), if_neg (by omega), if_pos h3, if_neg h4]
theorem combE_0 (h : sysE up T rt = 0) (h2 : M.length = T.length) (h3 : ∀ p ∈ M, IsFrac p.1 p.2) (h4 : (∀ k, k < up.length → Fits (colQ T M k)) ∧ Fits (rhsQ T rt M)) : combE up T rt M = 0 := by unfold combE; rw [if_neg (by omega), if_neg (by omega), if_pos h3, if_pos h4]
theorem combE_ok (h : combE up T rt M = 0) : sysE up T rt = 0 ∧ M.length = T.length ∧ (∀ p ∈ M, IsFrac p.1 p.2) ∧ (∀ k, k < up.length → Fits (colQ T M k)) ∧ Fits (rhsQ T rt M) := by
  by_cases h1 : sysE up T rt = 0
  · by_cases h2 : M.length = T.length
    · by_cases h3 : ∀ p ∈ M, IsFrac p.1 p.2
      · by_cases h4 : (∀ k, k < up.length → Fits (colQ T M k)) ∧ Fits (rhsQ T rt M)
        · exact ⟨h1, h2, h3, h4⟩
        · rw [combE_4 h1 h2 h3 h4] at h; omega
      · rw [combE_3 h1 h2 h3] at h; omega
    · rw [combE_2 h1 h2] at h; omega
  · rw [combE_1 h1] at h; exact absurd h h1
end
abbrev CT := Hdr × (Int × Int × Unit) × Int × Unit
abbrev rCT : RS := .many [.one .slice, .agg [.int .i64, .int .i64], .one (.int .i64)]
/-- what Combine returns -/
def CombR (up : List Int) (T : List (List Int)) (rt : List Int) (M : List (Int × Int)) (x : CT) (w : World) : Prop :=
  x.2.2.1 = combE up T rt M ∧ (combE up T rt M = 0 → Sl w x.1.1 x.1.2.1 x.1.2.2 2 ((cols up T M up.length).flatMap encF) ∧ x.2.1 = ((rhsQ T rt M).num, (((rhsQ T rt M).den : Nat) : Int), ())) ∧ (combE up T rt M ≠ 0 → x.1 = (none, 0, 0) ∧ x.2.1 = (0, 0, ()))
theorem CombR.up {up : List Int} {T : List (List Int)} {rt : List Int} {M : List (Int × Int)} {x : CT} {w w' : World} (h : CombR up T rt M x w) (hb : bel w w') : CombR up T rt M x w' :=
  ⟨h.1, fun e => ⟨(h.2.1 e).1.kept hb, (h.2.1 e).2⟩, h.2.2⟩
theorem CombR.bad {up : List Int} {T : List (List Int)} {rt : List Int} {M : List (Int × Int)} {e : Int} {w : World} (he : combE up T rt M = e) (h0 : e ≠ 0) : CombR up T rt M ((none, 0, 0), (0, 0, ()), e, ()) w :=
  ⟨he.symm, fun q => absurd (he.symm.trans q) h0, fun _ => ⟨rfl, rfl⟩⟩
theorem cols_len (up : List Int) (T : List (List Int)) (M : List (Int × Int)) (n : Nat) : (cols up T M n).length = n := by simp [cols]
theorem cols_snoc (up : List Int) (T : List (List Int)) (M : List (Int × Int)) (n : Nat) : cols up T M (n + 1) = cols up T M n ++ [fpair (colQ T M n)] := by simp [cols, List.range_succ]
theorem cols_get {up : List Int} {T : List (List Int)} {M : List (Int × Int)} {n k : Nat} (h : k < n) : (cols up T M n)[k]? = some (fpair (colQ T M k)) := by simp [cols, h]
theorem colI_get {T : List (List Int)} {i k : Nat} {row : List Int} {c : Int} (h1 : T[i]? = some row) (h2 : row[k]? = some c) : (colI T k)[i]? = some c := by
  unfold colI; rw [List.getElem?_map, h1]; simp [List.getD, h2]
theorem colI_len (T : List (List Int)) (k : Nat) : (colI T k).length = T.length := by simp [colI]

/-! ### tests over fractions -/
theorem dec_frac : ∀ p : Int × Int, Lget [.int .i64, .int .i64] (encF p) = some (p.1, p.2, ()) := fun _ => rfl
theorem comb1F (p : Int × Int) (w : World) (h : I64 p.1 ∧ I64 p.2) : call Try.prog 85 [.agg #[.int .i64 p.1, .int .i64 p.2]] (.one (.one .bool)) w (fun x w' => x = (!decide (IsFrac p.1 p.2)) ∧ bel w w') := by
  refine call_of (S85_calls p.1 p.2 w _ ?_)
  unfold S85
  refine wr_box fun x1 w2 X h' _ _ => ?_
  refine rd_boxN X (by kernel_rfl) rfl ?_
  refine call_mono (callB (validF p.1 p.2 w2 h.1.1 h.1.2 h.2.1 h.2.2)) ?_
  rintro x w5 ⟨rfl, h2⟩
  exact ⟨_, rfl, rfl, h'.trans h2⟩
theorem hasD (m : Hdr) (M : List (Int × Int)) (w : World) (H : Sl w m.1 m.2.1 m.2.2 2 (M.flatMap encF)) (hI : ∀ p ∈ M, I64 p.1 ∧ I64 p.2) :
    call Try.prog 84 [.slice m.1 m.2.1 m.2.2, .func (.func 85) #[] #[]] (.one (.one .bool)) w (fun x w' => x = M.any (fun p => !decide (IsFrac p.1 p.2)) ∧ bel w w') := by
  refine call_of (S84d_calls m.1 m.2.1 m.2.2 w _ ?_)
  unfold S84d
  refine call_mono (r := .one (.one (.int .i64))) (Q := fun x w' => x = idxI (fun p : Int × Int => !decide (IsFrac p.1 p.2)) M ∧ bel w w') (call_of (S114d_calls m.1 m.2.1 m.2.2 w _ ?_)) ?_
  · unfold S114d
    exact idx_aggs tyFracs agFrac encF_len (by omega) (l := [.int .i64, .int .i64]) (dec := fun p => (p.1, p.2, ())) dec_frac (fargs := fun (x5 : Int × Int × Unit) => [.agg #[.int .i64 x5.1, .int .i64 x5.2.1]]) H (fun p => !decide (IsFrac p.1 p.2)) (fun j p hp w' hb => comb1F p w' (hI p (mem_at hp)))
  · rintro x w2 ⟨rfl, hb⟩
    exact ⟨_, rfl, idxI_any _ _, hb⟩

/-! ### the numbers that are summed -/
theorem of3 (u r b : Hdr) (up : List Int) (T : List (List Int)) (rt : List Int) (c0 c1 : Addr) (k i : Nat) (row : List Int) (c : Int) (w : World) (H : Sys w u r b up T rt) (X : Box w c0 (sysc u r b)) (Y : Box w c1 [.int .i64 (k : Int)]) (h1 : T[i]? = some row) (h2 : row[k]? = some c) :
    call Try.prog 88 [.int .i64 (i : Int), .pointer (some c0), .pointer (some c1)] (.one (.one (.int .i64))) w (fun x w' => x = c ∧ bel w w') := by
  refine call_of (S88_calls (i : Int) c0 c1 w _ ?_)
  unfold S88
  have hT := H.r.len
  have hi := (List.getElem?_eq_some_iff.1 h1).1
  refine drw_mk fun w1 h _ => ?_
  replace H := H.up h; replace X := X.up h; replace Y := Y.up h
  refine rd_box (by kernel_rfl) X (i := 1) rfl rfl ?_
  refine H.r.at tyTab (by kernel_rfl) rfl (by omega) fun y row' q HR => ?_
  rw [h1] at q; cases q
  refine rd_box0 (by kernel_rfl) Y rfl rfl ?_
  refine at_int tyI64 (by kernel_rfl) HR rfl (by have := Sl.int HR; have := (List.getElem?_eq_some_iff.1 h2).1; omega) fun c' q => ?_
  rw [h2] at q; cases q
  exact ⟨_, rfl, rfl, h⟩
theorem of4 (u r b : Hdr) (up : List Int) (T : List (List Int)) (rt : List Int) (c0 : Addr) (i : Nat) (c : Int) (w : World) (H : Sys w u r b up T rt) (X : Box w c0 (sysc u r b)) (h1 : rt[i]? = some c) :
    call Try.prog 89 [.int .i64 (i : Int), .pointer (some c0)] (.one (.one (.int .i64))) w (fun x w' => x = c ∧ bel w w') := by
  refine call_of (S89_calls (i : Int) c0 w _ ?_)
  unfold S89
  have hb := H.b.int
  have hi := (List.getElem?_eq_some_iff.1 h1).1
  refine rd_box (by kernel_rfl) X (i := 2) rfl rfl ?_
  refine at_int tyI64 (by kernel_rfl) H.b rfl (by omega) fun c' q => ?_
  rw [h1] at q; cases q
  exact ⟨_, rfl, rfl, bel.refl _⟩

set_option maxHeartbeats 800000 in
theorem sumc (c0 c1 cm : Addr) (m : Hdr) (M : List (Int × Int)) (col : List Int) (w : World) (C : Box w cm [.slice m.1 m.2.1 m.2.2]) (HM : Sl w m.1 m.2.1 m.2.2 2 (M.flatMap encF)) (hF : ∀ p ∈ M, IsFrac p.1 p.2) (hl : col.length = M.length) (hm : M.length ≤ 1000) (hc : ∀ c ∈ col, I64 c)
    (OF : ∀ (i : Nat) c, col[i]? = some c → ∀ w', bel w w' → call Try.prog 88 [.int .i64 (i : Int), .pointer (some c0), .pointer (some c1)] (.one (.one (.int .i64))) w' (fun x w'' => x = c ∧ bel w' w'')) :
    call Try.prog 86 [.func (.func 88) #[] #[.pointer (some c0), .pointer (some c1)], .pointer (some cm)] rFB w (fun x w' => x = fracT (dotN col M M.length) ∧ bel w w') := by
  refine call_of (S86c_calls c0 c1 cm w _ ?_)
  unfold S86c
  have hmn := fr_len HM
  refine wr_alloc (z := fracv 0 0) (by kernel_rfl) fun x1 w2 X h hx _ => ?_
  have hne : w.heap.size ≤ x1.block := by omega
  refine call_mono (wholeF 0 w2 ⟨by omega, by omega⟩) ?_
  rintro (t0 : TE) w4 ⟨hB0, _, _, h'⟩
  replace h := h.trans h'; replace X := X.up h'; clear h'
  refine var_mk (z := .agg #[.bool false, .slice none 0 0, .slice none 0 0]) (by kernel_rfl) (by kernel_rfl) rfl rfl fun x5 w7 Y h2' hy => ?_
  replace Y : Box w7 x5 (boxc t0) := Y
  have A0 : ApT x5 t0 (0 : Rat) := ApT.oldE hB0 (by omega)
  have hn5 : w4.heap.size ≤ x5.block := by omega
  refine rd_box0 (by kernel_rfl) (C.up (h.trans h2')) rfl rfl ?_
  refine loop_up m.2.1 (fun k w' => bel w4 w' ∧ ∃ t, Box w' x5 (boxc t) ∧ EX (2 + 5 * k) w' t (dotN col M k) ∧ ApT x5 t (dotN col M k)) ⟨h2', t0, Y, hB0.up h2', A0⟩ fun k w11 hk ⟨hw, t, Y, hB, hA⟩ again hag _ => ?_
  refine br_dec (fun e2 => ?_) (fun e2 => ?_)
  · dsimp only at e2
    obtain ⟨p, hp⟩ : ∃ p, M[k]? = some p := ⟨_, List.getElem?_eq_getElem (by omega)⟩
    obtain ⟨c, hcc⟩ : ∃ c, col[k]? = some c := ⟨_, List.getElem?_eq_getElem (by omega)⟩
    have hFp := hF p (mem_at hp)
    have hci := hc c (mem_at hcc)
    refine join_mk (fun _ w' => bel w4 w' ∧ ∃ t, Box w' x5 (boxc t) ∧ EX (2 + 5 * (k + 1)) w' t (dotN col M (k + 1)) ∧ ApT x5 t (dotN col M (k + 1))) (fun K hK => ?_) (fun _ w' hh _ => z_i64 (by dsimp only; omega) (hag _ (by omega) hh))
    refine at_frac (HM.up (h.trans hw)) rfl hp ?_
    refine boxF fun x18 w20 h' Z _ => ?_
    replace hw := hw.trans h'; replace Y := Y.up h'; replace hB := hB.up h'
    refine call_mono (OF k c hcc w20 (h.trans hw)) ?_
    rintro x21 w22 ⟨hx21, h'⟩
    have hx22 : c = x21 := hx21.symm
    subst hx22
    replace hw := hw.trans h'; replace Y := Y.up h'; replace hB := hB.up h'; replace Z := Z.up h'
    have same : dotT col M k = 0 → K () w22 := fun q => by
      have e : dotN col M (k + 1) = dotN col M k := by
        show dotN col M k + dotT col M k = _
        rw [q, Rat.add_zero]
      exact hK _ _ ⟨hw, t, Y, by rw [e]; exact hB.le (by omega), by rw [e]; exact hA⟩
    refine br_ne (fun n2 => ?_) (fun n2 => same (dotT_c0 hcc hp n2))
    refine rd_box0 (by kernel_rfl) Z rfl rfl ?_
    refine br_ne (fun n1 => ?_) (fun n1 => same (dotT_p0 hcc hp n1))
    refine drw_mk fun w24 h3' _ => ?_
    replace hw := hw.trans h3'; replace Y := Y.up h3'; replace hB := hB.up h3'; replace Z := Z.up h3'
    refine flEx_mk (fun i _ v w' => (i = 2 → ∃ t : TE, v = exV t ∧ EX 2 w' t (ratv p.1 p.2)) ∧ (i = 4 → ∃ t : TE, v = exV t ∧ EX 2 w' t (c : Rat)) ∧ (i = 5 → ∃ t : TE, v = exV t ∧ EX 4 w' t (ratv p.1 p.2 * (c : Rat))))
      (fun _ _ _ _ _ h hb => ⟨fun e => by obtain ⟨t, q1, q2⟩ := h.1 e; exact ⟨t, q1, q2.up hb⟩, fun e => by obtain ⟨t, q1, q2⟩ := h.2.1 e; exact ⟨t, q1, q2.up hb⟩, fun e => by obtain ⟨t, q1, q2⟩ := h.2.2 e; exact ⟨t, q1, q2.up hb⟩⟩) ?_
    refine rd_boxN Y (by kernel_rfl) rfl ?_
    refine rd_boxN Z (by kernel_rfl) rfl ?_
    refine flc_mk (fun w70 hb _ => call_mono (fromX w70 hFp) fun y w' ⟨hy, hb'⟩ => ⟨hb', fun _ => ⟨y, rfl, hy⟩, fun e => by omega, fun e => by omega⟩) (fun (x75 : TE) => ?_)
    refine flc_mk (fun w80 hb _ => call_mono (wholeF c w80 hci) fun y w' ⟨hy, _, _, hb'⟩ => ⟨hb', fun e => by omega, fun _ => ⟨y, rfl, hy⟩, fun e => by omega⟩) (fun (x80 : TE) => ?_)
    refine flc_mk (fun w85 hb hf => ?_) (fun (x85 : TE) => ?_)
    · obtain ⟨⟨_, g2, _⟩, ⟨g1, _⟩, _⟩ := hf
      obtain ⟨t1, e1, B1⟩ := g1 rfl
      obtain ⟨t2, e2, B2⟩ := g2 rfl
      have e1' := exV_inj (t := x75) e1
      have e2' := exV_inj (t := x80) e2
      subst e1' e2'
      exact call_mono (mulE x75 x80 _ _ 2 2 w85 B1 B2 (by omega) (by omega)) fun y w' ⟨hy, _, _, hb'⟩ => ⟨hb', fun e => by omega, fun e => by omega, fun _ => ⟨y, rfl, hy⟩⟩
    · refine flend_mk fun w90 hb hf => ?_
      obtain ⟨⟨_, _, g⟩, _⟩ := hf
      obtain ⟨t1, e1, B1⟩ := g rfl
      have e1' := exV_inj (t := x85) e1
      subst e1'
      refine call_mono (addE t x85 _ _ (2 + 5 * k) 4 w90 (hB.up hb) B1 (by omega) (by omega)) ?_
      rintro (y : TE) w93 ⟨hy, f1, f2, h4'⟩
      have A' : ApT x5 y (dotN col M (k + 1)) := ApT.fr (Y.up hb) f1 f2
      have e : dotN col M (k + 1) = dotN col M k + ratv p.1 p.2 * (c : Rat) := by
        show dotN col M k + dotT col M k = _
        rw [dotT_at hcc hp]
      rw [← e] at hy
      refine wu_box ((Y.up hb).up h4') (by kernel_rfl) (Nat.le_refl 3) rfl fun w94 Y' hg _ => ?_
      exact hK _ _ ⟨((hw.trans hb).trans h4').grownAt hg hn5, y, Y', (hy.grownA A' hg).le (by omega), A'⟩
  · dsimp only at e2
    have hk' : k = M.length := by omega
    subst hk'
    refine rd_boxN Y (by kernel_rfl) rfl ?_
    refine call_mono (fracE t _ _ w11 hB) ?_
    rintro x49 w50 ⟨rfl, h'⟩
    replace h := (h.trans hw).trans h'
    replace X := (X.up hw).up h'
    refine wu_box X (by kernel_rfl) (Nat.le_refl 2) rfl fun w51 X' hg _ => ?_
    exact rd_boxV X' (by kernel_rfl) rfl ⟨_, rfl, rfl, h.grownAt hg hne⟩

set_option maxHeartbeats 800000 in
theorem sumd (c0 cm : Addr) (m : Hdr) (M : List (Int × Int)) (col : List Int) (w : World) (C : Box w cm [.slice m.1 m.2.1 m.2.2]) (HM : Sl w m.1 m.2.1 m.2.2 2 (M.flatMap encF)) (hF : ∀ p ∈ M, IsFrac p.1 p.2) (hl : col.length = M.length) (hm : M.length ≤ 1000) (hc : ∀ c ∈ col, I64 c)
    (OF : ∀ (i : Nat) c, col[i]? = some c → ∀ w', bel w w' → call Try.prog 89 [.int .i64 (i : Int), .pointer (some c0)] (.one (.one (.int .i64))) w' (fun x w'' => x = c ∧ bel w' w'')) :
    call Try.prog 86 [.func (.func 89) #[] #[.pointer (some c0)], .pointer (some cm)] rFB w (fun x w' => x = fracT (dotN col M M.length) ∧ bel w w') := by
  refine call_of (S86d_calls c0 cm w _ ?_)
  unfold S86d
  have hmn := fr_len HM
  refine wr_alloc (z := fracv 0 0) (by kernel_rfl) fun x1 w2 X h hx _ => ?_
  have hne : w.heap.size ≤ x1.block := by omega
  refine call_mono (wholeF 0 w2 ⟨by omega, by omega⟩) ?_
  rintro (t0 : TE) w4 ⟨hB0, _, _, h'⟩
  replace h := h.trans h'; replace X := X.up h'; clear h'
  refine var_mk (z := .agg #[.bool false, .slice none 0 0, .slice none 0 0]) (by kernel_rfl) (by kernel_rfl) rfl rfl fun x5 w7 Y h2' hy => ?_
  replace Y : Box w7 x5 (boxc t0) := Y
  have A0 : ApT x5 t0 (0 : Rat) := ApT.oldE hB0 (by omega)
  have hn5 : w4.heap.size ≤ x5.block := by omega
  refine rd_box0 (by kernel_rfl) (C.up (h.trans h2')) rfl rfl ?_
  refine loop_up m.2.1 (fun k w' => bel w4 w' ∧ ∃ t, Box w' x5 (boxc t) ∧ EX (2 + 5 * k) w' t (dotN col M k) ∧ ApT x5 t (dotN col M k)) ⟨h2', t0, Y, hB0.up h2', A0⟩ fun k w11 hk ⟨hw, t, Y, hB, hA⟩ again hag _ => ?_
  refine br_dec (fun e2 => ?_) (fun e2 => ?_)
  · dsimp only at e2
    obtain ⟨p, hp⟩ : ∃ p, M[k]? = some p := ⟨_, List.getElem?_eq_getElem (by omega)⟩
    obtain ⟨c, hcc⟩ : ∃ c, col[k]? = some c := ⟨_, List.getElem?_eq_getElem (by omega)⟩
    have hFp := hF p (mem_at hp)
    have hci := hc c (mem_at hcc)
    refine join_mk (fun _ w' => bel w4 w' ∧ ∃ t, Box w' x5 (boxc t) ∧ EX (2 + 5 * (k + 1)) w' t (dotN col M (k + 1)) ∧ ApT x5 t (dotN col M (k + 1))) (fun K hK => ?_) (fun _ w' hh _ => z_i64 (by dsimp only; omega) (hag _ (by omega) hh))
    refine at_frac (HM.up (h.trans hw)) rfl hp ?_
    refine boxF fun x18 w20 h' Z _ => ?_
    replace hw := hw.trans h'; replace Y := Y.up h'; replace hB := hB.up h'
    refine call_mono (OF k c hcc w20 (h.trans hw)) ?_
    rintro x21 w22 ⟨hx21, h'⟩
    have hx22 : c = x21 := hx21.symm
    subst hx22
    replace hw := hw.trans h'; replace Y := Y.up h'; replace hB := hB.up h'; replace Z := Z.up h'
    have same : dotT col M k = 0 → K () w22 := fun q => by
      have e : dotN col M (k + 1) = dotN col M k := by
        show dotN col M k + dotT col M k = _
        rw [q, Rat.add_zero]
      exact hK _ _ ⟨hw, t, Y, by rw [e]; exact hB.le (by omega), by rw [e]; exact hA⟩
    refine br_ne (fun n2 => ?_) (fun n2 => same (dotT_c0 hcc hp n2))
    refine rd_box0 (by kernel_rfl) Z rfl rfl ?_
    refine br_ne (fun n1 => ?_) (fun n1 => same (dotT_p0 hcc hp n1))
    refine drw_mk fun w24 h3' _ => ?_
    replace hw := hw.trans h3'; replace Y := Y.up h3'; replace hB := hB.up h3'; replace Z := Z.up h3'
    refine flEx_mk (fun i _ v w' => (i = 2 → ∃ t : TE, v = exV t ∧ EX 2 w' t (ratv p.1 p.2)) ∧ (i = 4 → ∃ t : TE, v = exV t ∧ EX 2 w' t (c : Rat)) ∧ (i = 5 → ∃ t : TE, v = exV t ∧ EX 4 w' t (ratv p.1 p.2 * (c : Rat))))
      (fun _ _ _ _ _ h hb => ⟨fun e => by obtain ⟨t, q1, q2⟩ := h.1 e; exact ⟨t, q1, q2.up hb⟩, fun e => by obtain ⟨t, q1, q2⟩ := h.2.1 e; exact ⟨t, q1, q2.up hb⟩, fun e => by obtain ⟨t, q1, q2⟩ := h.2.2 e; exact ⟨t, q1, q2.up hb⟩⟩) ?_
    refine rd_boxN Y (by kernel_rfl) rfl ?_
    refine rd_boxN Z (by kernel_rfl) rfl ?_
    refine flc_mk (fun w70 hb _ => call_mono (fromX w70 hFp) fun y w' ⟨hy, hb'⟩ => ⟨hb', fun _ => ⟨y, rfl, hy⟩, fun e => by omega, fun e => by omega⟩) (fun (x75 : TE) => ?_)
    refine flc_mk (fun w80 hb _ => call_mono (wholeF c w80 hci) fun y w' ⟨hy, _, _, hb'⟩ => ⟨hb', fun e => by omega, fun _ => ⟨y, rfl, hy⟩, fun e => by omega⟩) (fun (x80 : TE) => ?_)
    refine flc_mk (fun w85 hb hf => ?_) (fun (x85 : TE) => ?_)
    · obtain ⟨⟨_, g2, _⟩, ⟨g1, _⟩, _⟩ := hf
      obtain ⟨t1, e1, B1⟩ := g1 rfl
      obtain ⟨t2, e2, B2⟩ := g2 rfl
      have e1' := exV_inj (t := x75) e1
      have e2' := exV_inj (t := x80) e2
      subst e1' e2'
      exact call_mono (mulE x75 x80 _ _ 2 2 w85 B1 B2 (by omega) (by omega)) fun y w' ⟨hy, _, _, hb'⟩ => ⟨hb', fun e => by omega, fun e => by omega, fun _ => ⟨y, rfl, hy⟩⟩
    · refine flend_mk fun w90 hb hf => ?_
      obtain ⟨⟨_, _, g⟩, _⟩ := hf
      obtain ⟨t1, e1, B1⟩ := g rfl
      have e1' := exV_inj (t := x85) e1
      subst e1'
      refine call_mono (addE t x85 _ _ (2 + 5 * k) 4 w90 (hB.up hb) B1 (by omega) (by omega)) ?_
      rintro (y : TE) w93 ⟨hy, f1, f2, h4'⟩
      have A' : ApT x5 y (dotN col M (k + 1)) := ApT.fr (Y.up hb) f1 f2
      have e : dotN col M (k + 1) = dotN col M k + ratv p.1 p.2 * (c : Rat) := by
        show dotN col M k + dotT col M k = _
        rw [dotT_at hcc hp]
      rw [← e] at hy
      refine wu_box ((Y.up hb).up h4') (by kernel_rfl) (Nat.le_refl 3) rfl fun w94 Y' hg _ => ?_
      exact hK _ _ ⟨((hw.trans hb).trans h4').grownAt hg hn5, y, Y', (hy.grownA A' hg).le (by omega), A'⟩
  · dsimp only at e2
    have hk' : k = M.length := by omega
    subst hk'
    refine rd_boxN Y (by kernel_rfl) rfl ?_
    refine call_mono (fracE t _ _ w11 hB) ?_
    rintro x49 w50 ⟨rfl, h'⟩
    replace h := (h.trans hw).trans h'
    replace X := (X.up hw).up h'
    refine wu_box X (by kernel_rfl) (Nat.le_refl 2) rfl fun w51 X' hg _ => ?_
    exact rd_boxV X' (by kernel_rfl) rfl ⟨_, rfl, rfl, h.grownAt hg hne⟩

set_option maxHeartbeats 800000 in
theorem combL (u r b m : Hdr) (up : List Int) (T : List (List Int)) (rt : List Int) (M : List (Int × Int)) (w : World) (H : Sys w u r b up T rt) (HM : Sl w m.1 m.2.1 m.2.2 2 (M.flatMap encF)) (hI : ∀ p ∈ M, I64 p.1 ∧ I64 p.2) :
    call Try.prog 36 [sysv u r b, .slice m.1 m.2.1 m.2.2] rCT w (fun x w' => CombR up T rt M x w' ∧ bel w w') := by
  refine call_of (S36_calls u.1 u.2.1 u.2.2 r.1 r.2.1 r.2.2 b.1 b.2.1 b.2.2 m.1 m.2.1 m.2.2 w _ ?_)
  unfold S36
  have hu := H.u.int
  have hT := H.r.len
  have hb := H.b.int
  have hm := fr_len HM
  refine wr_box fun x1 w2 X h _ _ => ?_
  replace X : Box w2 x1 (sysc u r b) := X
  replace H := H.up h; replace HM := HM.up h
  refine wr_box fun x3 w4 C h' _ _ => ?_
  replace C : Box w4 x3 [.slice m.1 m.2.1 m.2.2] := C
  replace h := h.trans h'; replace X := X.up h'; replace H := H.up h'; replace HM := HM.up h'; clear h'
  refine wr_alloc (z := fracv 0 0) (by kernel_rfl) fun x5 w6 Z h' hz _ => ?_
  have hne : w.heap.size ≤ x5.block := by rw [hz]; exact h.size
  replace h := h.trans h'; replace X := X.up h'; replace H := H.up h'; replace HM := HM.up h'; replace C := C.up h'; clear h'
  have bad : ∀ {w' : World} {e : Int} {cs : List Value}, cs.length = 2 → bel w w' → Box w' x5 cs → combE up T rt M = e → e ≠ 0 →
      wu Try.prog (Instr.storeAt 23 (.pointer (some x5)) (.agg #[.int .i64 0, .int .i64 0])) w' fun w10 => rd Try.prog (loadVar 23 x5) (.agg [.int .i64, .int .i64]) w10 fun x11 =>
        ∃ x : CT, Value.tuple #[.slice none 0 0, .agg #[.int .i64 x11.1, .int .i64 x11.2.1], .int .i64 e] = rCT.val x ∧ CombR up T rt M x w10 ∧ bel w w10 := by
    intro w' e cs hl h Z he h0
    refine wu_box Z (by kernel_rfl) (by rw [hl]; exact Nat.le_refl 2) rfl fun w5 Z' hg _ => ?_
    have Z2 : Box w5 x5 [.int .i64 0, .int .i64 0] := by
      match cs, hl with
      | [_, _], _ => exact Z'
    exact rd_boxV Z2 (by kernel_rfl) rfl ⟨(((none, 0, 0), (0, 0, ()), e, ()) : CT), rfl, CombR.bad he h0, h.grownAt hg hne⟩
  refine rd_boxN X (by kernel_rfl) rfl ?_
  refine call_mono (validL u r b up T rt w6 H) ?_
  rintro x8 w9 ⟨rfl, h'⟩
  replace h := h.trans h'; replace X := X.up h'; replace H := H.up h'; replace HM := HM.up h'; replace C := C.up h'; replace Z := Z.up h'; clear h'
  refine br_ne (fun e0 => bad rfl h Z (combE_1 e0) e0) (fun e0 => ?_)
  obtain ⟨v1, v2, v3, v4⟩ := sysE_ok e0
  refine rd_box0 (by kernel_rfl) C rfl rfl ?_
  refine rd_box (by kernel_rfl) X (i := 1) rfl rfl ?_
  refine br_ne (fun e1 => bad rfl h Z (combE_2 e0 (by dsimp only at e1; omega)) (by omega)) (fun e1 => ?_)
  dsimp only at e1
  have hML : M.length = T.length := by omega
  refine rd_box0 (by kernel_rfl) C rfl rfl ?_
  refine call_mono (hasD m M w9 HM hI) ?_
  rintro x17 w18 ⟨rfl, h'⟩
  replace h := h.trans h'; replace X := X.up h'; replace H := H.up h'; replace HM := HM.up h'; replace C := C.up h'; replace Z := Z.up h'; clear h'
  refine br_mk (fun e => bad rfl h Z (combE_3 e0 hML fun q => ?_) (by omega)) (fun e => ?_)
  · obtain ⟨p, hp, hq⟩ := any_t e
    rw [decide_eq_true (q p hp)] at hq; cases hq
  have hF : ∀ p ∈ M, IsFrac p.1 p.2 := fun p hp => by have := any_f e p hp; simpa using this
  refine rd_box0 (by kernel_rfl) X rfl rfl ?_
  have Z0 := Z.lt
  refine loop_upA u.2.1 (fun i (a : Hdr) w' => bel w18 w' ∧ a.2.1 = i ∧ Own w' w18.heap.size 23 2 a.1 i a.2.2 ((cols up T M i).flatMap encF) ∧ ∀ k, k < i → Fits (colQ T M k)) ⟨bel.refl _, rfl, Own.nil _ _ _ _, fun k h => by omega⟩ fun i a w24 hi ⟨hw, ha, O, hq⟩ again hag _ => ?_
  refine br_dec (fun e => ?_) (fun e => ?_)
  · dsimp only at e
    refine var_mk (z := .int .i64 0) (v := .int .i64 (i : Int)) (by kernel_rfl) (by kernel_rfl) rfl rfl fun x25 w27 V h' _ => ?_
    replace V : Box w27 x25 [.int .i64 (i : Int)] := V
    have hw1 := hw.trans h'
    refine call_mono (sumc x1 x25 x3 m M (colI T i) w27 (C.up hw1) (HM.up hw1) hF (by rw [colI_len]; omega) (by omega) (fun c hc => ?_) (fun j c hj w' hb => ?_)) ?_
    · obtain ⟨row, hrow, rfl⟩ := List.mem_map.1 hc
      have := v3.2.2 row hrow
      rw [List.getD_eq_getElem?_getD]
      cases hg : row[i]? with
      | none => exact ⟨by decide, by decide⟩
      | some c => have := this c (mem_at hg); exact ⟨by simp; omega, by simp; omega⟩
    · obtain ⟨row, hrow⟩ : ∃ row, T[j]? = some row := ⟨_, List.getElem?_eq_getElem (by have := (List.getElem?_eq_some_iff.1 hj).1; rw [colI_len] at this; exact this)⟩
      have hrl := v4.2 row (mem_at hrow)
      obtain ⟨c', hc'⟩ : ∃ c', row[i]? = some c' := ⟨_, List.getElem?_eq_getElem (by omega)⟩
      have := colI_get hrow hc'
      rw [hj] at this; cases this
      exact of3 u r b up T rt x1 x25 i j row c w' (H.up (hw1.trans hb)) (X.up (hw1.trans hb)) (V.up hb) hrow hc'
    rintro x28 w29 ⟨rfl, h2'⟩
    have hw2 := hw1.trans h2'
    have eq : dotN (colI T i) M M.length = colQ T M i := by unfold colQ; rw [hML]
    rw [eq]
    refine boxF fun x30 w32 h3' Y _ => ?_
    have hw3 := hw2.trans h3'
    by_cases hft : Fits (colQ T M i)
    · have eT : fracT (colQ T M i) = (((colQ T M i).num, (((colQ T M i).den : Nat) : Int), ()), true, ()) := by unfold fracT; rw [if_pos hft]
      rw [eT] at Y ⊢
      refine br_f rfl ?_
      refine rd_boxN Y (by kernel_rfl) rfl ?_
      dsimp only
      rw [ha]
      refine wr_app1 tyFracs (O.kept ((h'.trans h2').trans h3')) (by have := hw3.size; omega) rfl (by omega) (by omega) rfl rfl (by omega) (by unfold maxLen; omega) fun a' c' w39 O' hg _ _ => ?_
      refine z_i64 (by omega) ?_
      refine hag (a', i + 1, c') w39 (by omega) ⟨hw3.own (O.kept ((h'.trans h2').trans h3')) hg (Nat.le_refl _), rfl, ?_, fun k hk => ?_⟩
      · rw [cols_snoc, List.flatMap_append]; exact O'
      · rcases Nat.lt_or_ge k i with q | q
        · exact hq k q
        · have : k = i := by omega
          subst this; exact hft
    · have eT : fracT (colQ T M i) = ((0, 0, ()), false, ()) := by unfold fracT; rw [if_neg hft]
      rw [eT]
      exact br_t rfl (bad rfl (h.trans hw3) (Z.up hw3) (combE_4 e0 hML hF fun q => hft (q.1 i (by omega))) (by omega))
  · dsimp only at e
    have hi' : i = up.length := by omega
    subst hi'
    refine call_mono (sumd x1 x3 m M rt w24 (C.up hw) (HM.up hw) hF (by have := v4.1; omega) (by omega) (fun c hc => ?_) (fun j c hj w' hb => of4 u r b up T rt x1 j c w' (H.up (hw.trans hb)) (X.up (hw.trans hb)) hj)) ?_
    · have := v3.2.1 c hc; exact ⟨by omega, by omega⟩
    rintro x41 w42 ⟨rfl, h2'⟩
    have hw2 := hw.trans h2'
    have eq : dotN rt M M.length = rhsQ T rt M := by unfold rhsQ; rw [hML]
    rw [eq]
    refine boxF fun x43 w45 h3' Y _ => ?_
    have hw3 := hw2.trans h3'
    by_cases hft : Fits (rhsQ T rt M)
    · have eT : fracT (rhsQ T rt M) = (((rhsQ T rt M).num, (((rhsQ T rt M).den : Nat) : Int), ()), true, ()) := by unfold fracT; rw [if_pos hft]
      rw [eT] at Y ⊢
      refine br_f rfl ?_
      refine drw_mk fun w48 h4' _ => ?_
      have hw4 := hw3.trans h4'
      refine rd_boxN (Y.up h4') (by kernel_rfl) rfl ?_
      refine wu_box (Z.up hw4) (by kernel_rfl) (Nat.le_refl 2) rfl fun w50 Z' hg _ => ?_
      refine rd_boxV Z' (by kernel_rfl) rfl ⟨(((a.1, a.2.1, a.2.2), ((rhsQ T rt M).num, (((rhsQ T rt M).den : Nat) : Int), ()), 0, ()) : CT), rfl, ⟨(combE_0 e0 hML hF ⟨hq, hft⟩).symm, fun _ => ⟨?_, rfl⟩, fun q => absurd (combE_0 e0 hML hF ⟨hq, hft⟩) q⟩, (h.trans hw4).grownAt hg hne⟩
      dsimp only
      rw [ha]
      refine ((O.kept ((h2'.trans h3').trans h4')).keptBy hg ?_).sl
      cases hb' : blk a.1 with
      | none => exact .inl rfl
      | some k => exact .inr fun q => by have := (O.lt k hb').1; have := Z0; injection q; omega
    · have eT : fracT (rhsQ T rt M) = ((0, 0, ()), false, ()) := by unfold fracT; rw [if_neg hft]
      rw [eT]
      exact br_t rfl (bad rfl (h.trans hw3) (Z.up hw3) (combE_4 e0 hML hF fun q => hft q.2) (by omega))
end Go.Proofs.Ytajpdnphamomjaa
