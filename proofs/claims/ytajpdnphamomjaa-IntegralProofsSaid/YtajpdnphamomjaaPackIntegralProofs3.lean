import Derived.KernelRfl
import Derived.Test.YtajpdnphamomjaaOpen
import Derived.DataReads
import Derived.Test.YtajpdnphamomjaaPackIntegralProofs2

/- Package fraction: Frac of an Exact, Of. -/

namespace Go.Proofs.Ytajpdnphamomjaa
open Go.RowKit Go.Q Go.Q.Num Go.V

abbrev FBo := (Int × Int × Unit) × Bool × Unit
def fracT (r : Rat) : FBo := if Fits r then ((r.num, ((r.den : Nat) : Int), ()), true, ()) else ((0, 0, ()), false, ())
abbrev rFB : RS := .many [.agg [.int .i64, .int .i64], .one .bool]
theorem callU {f : FuncId} {args : List Value} {w : World} {x : Nat} (h : Calls Try.prog f args.toArray w (QU64 x w)) : call Try.prog f args (.one (.one (.int .u64))) w (fun v w' => v = (x : Int) ∧ bel w w') :=
  Calls.mono h fun _ _ ⟨he, h1⟩ => ⟨(x : Int), he, rfl, h1.below⟩

set_option maxHeartbeats 400000 in
theorem fracE (t : TE) (r : Rat) (L : Nat) (w : World) (h1 : EX L w t r) :
    call Try.prog 87 [exV t] rFB w (fun x w' => x = fracT r ∧ bel w w') := by
  obtain ⟨t0, tn, td, _⟩ := t
  obtain ⟨a1, a2, a3, a4, a5⟩ := h1
  dsimp only at a1 a2 a3 a4 a5
  refine call_of (S87_calls t0 tn.1 tn.2.1 tn.2.2 td.1 td.2.1 td.2.2 w _ ?_)
  unfold S87
  refine wr_box fun x1 w1 X h _ _ => ?_
  refine wr_alloc (z := fracv 0 0) (by kernel_rfl) fun x3 w3 Y h' hy _ => ?_
  have hne : w.heap.size ≤ x3.block := by rw [hy]; exact h.size
  replace h := h.trans h'; replace X := X.up h'; clear h'
  refine rd_box (by kernel_rfl) X rfl rfl ?_
  refine call_mono (numF tn.1 tn.2.1 tn.2.2 _ _ (a2.up h)) ?_
  rintro (u : Int × Bool × Unit) w4 ⟨u1, u2, h'⟩
  replace h := h.trans h'; replace X := X.up h'; replace Y := Y.up h'; clear h'
  refine rd_box (by kernel_rfl) X rfl rfl ?_
  refine call_mono (numF td.1 td.2.1 td.2.2 _ _ (a3.up h)) ?_
  rintro (v : Int × Bool × Unit) w5 ⟨v1, v2, h'⟩
  replace h := h.trans h'; replace X := X.up h'; replace Y := Y.up h'; clear h'
  have put : ∀ (p q : Int) (b : Bool) (k : World → Prop), (∀ w6, bel w w6 → Box w6 x3 [.int .i64 p, .int .i64 q] → k w6) → wu Try.prog (Instr.storeAt 23 (.pointer (some x3)) (.agg #[.int .i64 p, .int .i64 q])) w5 k := by
    intro p q _ k hk
    exact wu_box Y (by kernel_rfl) (Nat.le_refl 2) rfl fun w6 Y h' _ => hk w6 (h.grownAt h' hne) Y
  have no : ¬ Fits r → wu Try.prog (Instr.storeAt 23 (.pointer (some x3)) (.agg #[.int .i64 0, .int .i64 0])) w5 fun w6 =>
      rd Try.prog (loadVar 23 x3) (.agg [.int .i64, .int .i64]) w6 fun y => ∃ x : FBo, Value.tuple #[.agg #[.int .i64 y.1, .int .i64 y.2.1], .bool false] = rFB.val x ∧ x = fracT r ∧ bel w w6 := by
    intro hn
    refine put 0 0 false _ fun w6 h Y => ?_
    refine rd_boxV Y (by kernel_rfl) rfl ⟨(((0, 0, ()), false, ()) : FBo), rfl, ?_, h⟩
    unfold fracT; rw [if_neg hn]
  refine br_not (fun e1 => no ?_) (fun e1 => ?_)
  · rintro ⟨f1, f2, f3⟩
    rw [u1] at e1
    have e1' : ¬ (r.num.natAbs ≤ 100000000000000000) := by simpa using e1
    omega
  refine br_not (fun e2 => no ?_) (fun e2 => ?_)
  · rintro ⟨f1, f2, f3⟩
    rw [v1] at e2
    have e2' : ¬ (r.den ≤ 100000000000000000) := by simpa using e2
    omega
  have e1' : r.num.natAbs ≤ 100000000000000000 := by rw [u1] at e1; simpa using e1
  have e2' : r.den ≤ 100000000000000000 := by rw [v1] at e2; simpa using e2
  have hf : Fits r := ⟨by omega, by omega, e2'⟩
  refine join_mk (fun s w6 => s.1 = r.num ∧ w6 = w5) (fun K hK => ?_) ?_
  · refine rd_box0 (by kernel_rfl) X rfl rfl ?_
    have hu := u2 e1'
    refine br_mk (fun e3 => ?_) (fun e3 => ?_)
    · have hneg : r.num < 0 := by rw [a1] at e3; simpa using e3
      refine z_eq (m := r.num) ?_ (hK _ _ ⟨rfl, rfl⟩)
      rw [hu, IntWalk.i64_in _ (by omega)]; omega
    · have hneg : ¬ r.num < 0 := by rw [a1] at e3; simpa using e3
      refine hK _ _ ⟨?_, rfl⟩
      show u.1 = r.num
      rw [hu]; omega
  rintro ⟨s, _⟩ w6 ⟨hs, rfl⟩ _
  have hs' : s = r.num := hs
  have hv := v2 e2'
  refine put _ _ true _ fun w7 h Y => ?_
  refine rd_boxV Y (by kernel_rfl) rfl ⟨((r.num, ((r.den : Nat) : Int), ()), true, ()), ?_, ?_, h⟩
  · dsimp only; rw [hs', hv]; rfl
  · unfold fracT; exact (if_pos hf).symm

/-- the fraction that two numbers make -/
def ofT (n d : Int) : FE := if d = 0 then invT else fitT (Rat.divInt n d)
theorem of_norm {n d : Int} (h0 : d ≠ 0) : ∃ hq : d.natAbs ≠ 0, Rat.normalize (sg (decide (n < 0) != decide (d < 0)) n.natAbs) d.natAbs hq = Rat.divInt n d := by
  refine ⟨by omega, ?_⟩
  rw [Rat.normalize_eq_mkRat, ← Rat.divInt_ofNat, Rat.divInt_eq_divInt_iff (by omega) h0]
  have h := sg_cross (n := n) (n' := d) (a := 1) (b := 1) (by omega) (by omega)
  simpa using h

set_option maxHeartbeats 800000 in
theorem ofF (n d : Int) (w : World) (hn : I64 n) (hd : I64 d) : call Try.prog 28 [.int .i64 n, .int .i64 d] rFE w (fun x w' => x = ofT n d ∧ bel w w') := by
  refine call_of (S28_calls n d w _ ?_)
  unfold S28
  refine wr_alloc (z := fracv 0 0) (by kernel_rfl) fun x1 w1 Y h hy _ => ?_
  have hne : w.heap.size ≤ x1.block := by omega
  have put : ∀ (w4 : World) (cs : List Value) (p q e : Int), cs.length = 2 → bel w w4 → Box w4 x1 cs → (((p, q, ()), e, ()) : FE) = ofT n d → wu Try.prog (Instr.storeAt 23 (.pointer (some x1)) (.agg #[.int .i64 p, .int .i64 q])) w4 fun w10 =>
      rd Try.prog (loadVar 23 x1) (.agg [.int .i64, .int .i64]) w10 fun y => ∃ x : FE, Value.tuple #[.agg #[.int .i64 y.1, .int .i64 y.2.1], .int .i64 e] = rFE.val x ∧ x = ofT n d ∧ bel w w10 := by
    intro w4 cs p q e hl h Y he
    refine wu_box Y (by kernel_rfl) (by rw [hl]; exact Nat.le_refl 2) rfl fun w5 Y h' _ => ?_
    have hl' : putAt cs 0 [.int .i64 p, .int .i64 q] = [.int .i64 p, .int .i64 q] := by
      match cs, hl with
      | [_, _], _ => rfl
    have Y2 : Box w5 x1 [.int .i64 p, .int .i64 q] := by rw [← hl']; exact Y
    exact rd_boxV Y2 (by kernel_rfl) rfl ⟨(((p, q, ()), e, ()) : FE), rfl, he, h.grownAt h' hne⟩
  refine br_eq (fun e0 => put _ _ _ _ _ rfl h Y (by unfold ofT; rw [if_pos e0]; rfl)) (fun e0 => ?_)
  refine call_mono (callU (sizeF n _ hn.1 hn.2)) ?_
  rintro _ w2 ⟨rfl, h'⟩
  replace h := h.trans h'; replace Y := Y.up h'; clear h'
  refine call_mono (callU (sizeF d _ hd.1 hd.2)) ?_
  rintro _ w3 ⟨rfl, h'⟩
  replace h := h.trans h'; replace Y := Y.up h'; clear h'
  refine call_mono (callU (gcdF n.natAbs d.natAbs _ (by omega) (by omega))) ?_
  rintro _ w4 ⟨rfl, h'⟩
  replace h := h.trans h'; replace Y := Y.up h'; clear h'
  refine drw_mk fun w5 h' _ => ?_
  replace h := h.trans h'; replace Y := Y.up h'; clear h'
  obtain ⟨hq, hr⟩ := of_norm (n := n) e0
  obtain ⟨m1, m2, m3⟩ := low_num (decide (n < 0) != decide (d < 0)) n.natAbs d.natAbs hq
  rw [hr] at m1 m2 m3
  have hg : 0 < Nat.gcd n.natAbs d.natAbs := Nat.gcd_pos_of_pos_right _ (by omega)
  have l1 := Nat.div_le_self n.natAbs (Nat.gcd n.natAbs d.natAbs)
  have l2 := Nat.div_le_self d.natAbs (Nat.gcd n.natAbs d.natAbs)
  obtain ⟨r, hr'⟩ : ∃ r, r = Rat.divInt n d := ⟨_, rfl⟩
  have hT : ofT n d = fitT r := by unfold ofT; rw [if_neg e0, hr']
  rw [← hr'] at m1 m2 m3
  refine rdp_quo (by omega) ?_
  rw [← Int.ofNat_tdiv, ← m1]
  rw [← m1] at l1
  rw [← m2] at l2
  rw [IntWalk.u64_in _ (by omega)]
  refine rdp_quo (by omega) ?_
  rw [← Int.ofNat_tdiv, ← m2, IntWalk.u64_in _ (by omega)]
  have bad : ¬ Fits r → (((0, 0, ()), 8, ()) : FE) = ofT n d := fun hf => by rw [hT]; unfold fitT; rw [if_neg hf]
  refine br_dec (fun e1 => put _ _ _ _ _ rfl h Y (bad fun hf => by have := hf.1; have := hf.2.1; omega)) (fun e1 => ?_)
  refine br_dec (fun e2 => put _ _ _ _ _ rfl h Y (bad fun hf => by have := hf.2.2; omega)) (fun e2 => ?_)
  have hf : Fits r := ⟨by omega, by omega, by omega⟩
  refine z_i64 (by omega) (z_i64 (by omega) ?_)
  refine wr_alloc (z := fracv 0 0) (by kernel_rfl) fun x20 w6 Z h' hz _ => ?_
  have hne2 : w.heap.size ≤ x20.block := by rw [hz]; exact h.size
  have hyz : x1.block < x20.block := by rw [hz]; exact Y.lt
  replace h := h.trans h'; replace Y := Y.up h'; clear h'
  refine wu_box Z (by kernel_rfl) (Nat.le_refl 2) rfl fun w7 Z hg7 _ => ?_
  replace h := h.grownAt hg7 hne2
  replace Y := Y.grown hg7 (by intro e; injection e; omega)
  have hP : r.num < 0 ↔ (!(decide (n < 0) == decide (d < 0))) = true ∧ r.num ≠ 0 := by
    have q : (decide (n < 0) != decide (d < 0)) = !(decide (n < 0) == decide (d < 0)) := rfl
    rw [q] at m3
    have m1' : n.natAbs = 0 → r.num = 0 := by
      intro h0; rw [h0, Nat.zero_div] at m1; omega
    have m1'' : r.num = 0 → n.natAbs = 0 := by
      intro h0
      rw [h0] at m1
      rcases Nat.eq_zero_or_pos n.natAbs with q | q
      · exact q
      · have : 0 < n.natAbs / Nat.gcd n.natAbs d.natAbs := Nat.div_pos (Nat.gcd_le_left _ q) hg
        have e : (0 : Int).natAbs = 0 := rfl
        omega
    constructor
    · intro hneg
      have m3' := m3
      rw [decide_eq_true hneg] at m3'
      have := m3'.symm
      rw [Bool.and_eq_true] at this
      exact ⟨this.1, by omega⟩
    · rintro ⟨q1, q2⟩
      have : decide (n.natAbs ≠ 0) = true := decide_eq_true (fun h0 => q2 (m1' h0))
      rw [q1, this] at m3
      simpa using m3
  refine join_mk (fun _ w8 => Box w8 x20 [.int .i64 r.num, .int .i64 ((r.den : Nat) : Int)] ∧ bel w w8 ∧ Box w8 x1 [.int .i64 0, .int .i64 0]) (fun K hK => ?_) ?_
  · refine br_mk (fun e3 => ?_) (fun e3 => ?_)
    · refine rd_box0 (by kernel_rfl) Z rfl rfl ?_
      refine z_i64 (by omega) ?_
      have Z0 := wu_boxi (P := Try.prog) (t := 2) (i := 0) (v := .int .i64 (0 - ((r.num.natAbs : Nat) : Int))) (k := K ()) Z (by kernel_rfl) (by show 0 < 2; omega) rfl fun w8 Z h' _ => hK _ _ ⟨?_, h.grownAt h' hne2, Y.grown h' (by intro e; injection e; omega)⟩
      · rwa [add_zero] at Z0
      · have : 0 - ((r.num.natAbs : Nat) : Int) = r.num := by
          rcases Decidable.em (r.num = 0) with q | q
          · omega
          · have := hP.2 ⟨e3, q⟩; omega
        rw [← this]
        exact Z
    · refine hK _ _ ⟨?_, h, Y⟩
      have : ((r.num.natAbs : Nat) : Int) = r.num := by
        rcases Decidable.em (r.num < 0) with q | q
        · have := (hP.1 q).1; rw [e3] at this; cases this
        · omega
      rw [← this]
      exact Z
  rintro _ w8 ⟨Z, h, Y⟩ _
  refine rd_boxN Z (by kernel_rfl) rfl ?_
  refine put _ _ _ _ _ rfl h Y ?_
  rw [hT]; unfold fitT; rw [if_pos hf]
end Go.Proofs.Ytajpdnphamomjaa

/- Package fraction: operate, Add, Mul. -/

namespace Go.Proofs.Ytajpdnphamomjaa
open Go.RowKit Go.Q Go.Q.Num Go.V

theorem small_mul {a b : Int} (h1 : -1073741824 < a) (h2 : a < 1073741824) (h3 : -1073741824 < b) (h4 : b < 1073741824) : -1152921504606846976 ≤ a * b ∧ a * b ≤ 1152921504606846976 := by
  have : (a * b).natAbs ≤ 1073741824 * 1073741824 := by
    rw [Int.natAbs_mul]; exact Nat.mul_le_mul (by omega) (by omega)
  omega
theorem EX.of {L : Nat} {w : World} {t : TE} {r : Rat} (h : ExAt L w (exV t) r) : EX L w t r := by
  obtain ⟨a, n, c, b, m, d, h1, h2, h3, h4, h5⟩ := h
  injection h1 with h1
  injection h1 with h1
  injection h1 with e0 h1
  injection h1 with e1 h1
  injection h1 with e2 _
  injection e0 with e0
  injection e1 with q1 q2 q3
  injection e2 with q4 q5 q6
  subst q1 q2 q3 q4 q5 q6
  exact ⟨e0, h2, h3, h4, h5⟩
theorem EX.mono {L M : Nat} {w : World} {t : TE} {r : Rat} (h : EX L w t r) (hl : L ≤ M := by omega) : EX M w t r := ⟨h.1, h.2.1, h.2.2.1, by have := h.2.2.2.1; omega, by have := h.2.2.2.2; omega⟩
theorem callE {f : FuncId} {args : List Value} {w : World} {L : Nat} {r : Rat} (h : Calls Try.prog f args.toArray w (fun e w' => ∃ v, e = .returned v ∧ ExAt L w' v r ∧ Below w.heap.size w w')) : call Try.prog f args (.one sBig) w (fun (x : TE) w' => EX L w' x r ∧ bel w w') :=
  Calls.mono h fun _ _ ⟨v, he, ⟨a, n, c, b, m, d, hv, h1, h2, h3, h4⟩, h5⟩ => ⟨((decide (r.num < 0), (a, n, c), (b, m, d), ()) : TE), by rw [he, hv]; rfl, ⟨rfl, h1, h2, h3, h4⟩, h5⟩
theorem fb_inj {x : (Int × Int × Unit) × Bool × Unit} {y : FBo} (h : Value.tuple #[.agg #[.int .i64 x.1.1, .int .i64 x.1.2.1], .bool x.2.1] = rFB.val y) : x = y := by
  obtain ⟨⟨a, b, _⟩, c, _⟩ := x
  obtain ⟨⟨a', b', _⟩, c', _⟩ := y
  have h : Value.tuple #[.agg #[.int .i64 a, .int .i64 b], .bool c] = Value.tuple #[.agg #[.int .i64 a', .int .i64 b'], .bool c'] := h
  simp at h
  obtain ⟨⟨rfl, rfl⟩, rfl⟩ := h
  rfl
theorem valid10f (n d : Int) (w : World) (a : I64 n) (b : I64 d) : Calls Try.prog 20 #[fracv n d] w (QBool (decide (IsFrac n d)) w) := validF n d w a.1 a.2 b.1 b.2
theorem add_div {n d n' d' : Int} (h : IsFrac n d) (h' : IsFrac n' d') : Rat.divInt (n * d' + n' * d) (d * d') = Rat.divInt n d + Rat.divInt n' d' := (Rat.divInt_add_divInt n n' (by have := h.1; omega) (by have := h'.1; omega)).symm

set_option maxHeartbeats 400000 in
theorem nearA (c0 c1 : Addr) (n d n' d' : Int) (w : World) (X : Box w c0 [.int .i64 n, .int .i64 d]) (X1 : Box w c1 [.int .i64 n', .int .i64 d']) (s : Small n d) (s' : Small n' d') (hd : 1 ≤ d) (hd' : 1 ≤ d') :
    call Try.prog 59 [.pointer (some c0), .pointer (some c1)] (.many [.one (.int .i64), .one (.int .i64)]) w (fun x w' => x.1 = n * d' + n' * d ∧ x.2.1 = d * d' ∧ bel w w') := by
  obtain ⟨s1, s2, s3⟩ := s
  obtain ⟨s4, s5, s6⟩ := s'
  have m1 := small_mul s1 s2 (show -1073741824 < d' by omega) s6
  have m2 := small_mul s4 s5 (show -1073741824 < d by omega) s3
  have m3 := small_mul (show -1073741824 < d by omega) s3 (show -1073741824 < d' by omega) s6
  have m4 := small_mul s1 s2 s4 s5
  refine call_of (S59_calls c0 c1 w _ ?_)
  unfold S59
  refine drw_mk fun w1 h _ => ?_
  replace X := X.up h
  replace X1 := X1.up h
  refine rd_box0 (by kernel_rfl) X rfl rfl ?_
  refine rd_box (by kernel_rfl) X1 rfl rfl ?_
  refine z_i64 (by omega) ?_
  refine rd_box0 (by kernel_rfl) X1 rfl rfl ?_
  refine rd_box (by kernel_rfl) X rfl rfl ?_
  refine z_i64 (by omega) (z_i64 (by omega) ?_)
  refine rd_box (by kernel_rfl) X rfl rfl ?_
  refine rd_box (by kernel_rfl) X1 rfl rfl ?_
  refine z_i64 (by omega) ?_
  exact ⟨((n * d' + n' * d, d * d', ()) : Int × Int × Unit), rfl, rfl, rfl, h⟩

set_option maxHeartbeats 1600000 in
theorem operA (c0 c1 : Addr) (n d n' d' : Int) (w : World) (X : Box w c0 [.int .i64 n, .int .i64 d]) (X1 : Box w c1 [.int .i64 n', .int .i64 d']) (a : I64 n ∧ I64 d) (b : I64 n' ∧ I64 d') :
    call Try.prog 58 [fracv n d, fracv n' d', .func (.func 59) #[] #[.pointer (some c0), .pointer (some c1)], .func (.func 60) #[] #[]] rFE w (fun x w' => x = opT n d n' d' (fun r s => r + s) ∧ bel w w') := by
  refine call_of (S58add_calls n d n' d' c0 c1 w _ ?_)
  unfold S58add
  refine wr_box fun x1 w1 X2 h _ _ => ?_
  refine wr_box fun x3 w2 X3 h' _ _ => ?_
  replace h := h.trans h'; replace X2 := X2.up h'; clear h'
  refine wr_alloc (z := fracv 0 0) (by kernel_rfl) fun x5 w3 Y h' hy _ => ?_
  have hne : w.heap.size ≤ x5.block := by rw [hy]; exact h.size
  replace h := h.trans h'; replace X2 := X2.up h'; replace X3 := X3.up h'; clear h'
  have put : ∀ (w4 : World) (cs : List Value) (p q e : Int), cs.length = 2 → bel w w4 → Box w4 x5 cs → (((p, q, ()), e, ()) : FE) = opT n d n' d' (fun r s => r + s) → wu Try.prog (Instr.storeAt 23 (.pointer (some x5)) (.agg #[.int .i64 p, .int .i64 q])) w4 fun w10 =>
      rd Try.prog (loadVar 23 x5) (.agg [.int .i64, .int .i64]) w10 fun y => ∃ x : FE, Value.tuple #[.agg #[.int .i64 y.1, .int .i64 y.2.1], .int .i64 e] = rFE.val x ∧ x = opT n d n' d' (fun r s => r + s) ∧ bel w w10 := by
    intro w4 cs p q e hl h Y he
    refine wu_box Y (by kernel_rfl) (by rw [hl]; exact Nat.le_refl 2) rfl fun w5 Y h' _ => ?_
    have hl' : putAt cs 0 [.int .i64 p, .int .i64 q] = [.int .i64 p, .int .i64 q] := by
      match cs, hl with
      | [_, _], _ => rfl
    have Y2 : Box w5 x5 [.int .i64 p, .int .i64 q] := by rw [← hl']; exact Y
    exact rd_boxV Y2 (by kernel_rfl) rfl ⟨(((p, q, ()), e, ()) : FE), rfl, he, h.grownAt h' hne⟩
  refine rd_boxN X2 (by kernel_rfl) rfl ?_
  refine call_mono (callB (valid10f n d _ a.1 a.2)) ?_
  rintro x w4 ⟨rfl, h'⟩
  replace h := h.trans h'; replace X2 := X2.up h'; replace X3 := X3.up h'; replace Y := Y.up h'; clear h'
  refine br_not (fun e1 => put _ _ _ _ _ rfl h Y (opT_no (.inl e1)).symm) (fun e1 => ?_)
  refine rd_boxN X3 (by kernel_rfl) rfl ?_
  refine call_mono (callB (valid10f n' d' _ b.1 b.2)) ?_
  rintro x w5 ⟨rfl, h'⟩
  replace h := h.trans h'; replace X2 := X2.up h'; replace X3 := X3.up h'; replace Y := Y.up h'; clear h'
  refine br_not (fun e2 => put _ _ _ _ _ rfl h Y (opT_no (.inr e2)).symm) (fun e2 => ?_)
  simp only [decide_eq_true_eq] at e1 e2
  obtain ⟨r1, r2, r3⟩ := ratv_frac e1
  obtain ⟨t1, t2, t3⟩ := ratv_frac e2
  have hT : opT n d n' d' (fun r s => r + s) = fitT (ratv n d + ratv n' d') := by unfold opT; rw [if_pos ⟨e1, e2⟩]
  refine join_mk (fun _ w6 => bel w w6 ∧ Box w6 x1 [.int .i64 n, .int .i64 d] ∧ Box w6 x3 [.int .i64 n', .int .i64 d'] ∧ Box w6 x5 [.int .i64 0, .int .i64 0]) (fun K hK => ?_) ?_
  · refine rd_boxN X2 (by kernel_rfl) rfl ?_
    refine call_mono (callB (smallF n d _)) ?_
    rintro x w6 ⟨rfl, h'⟩
    replace h := h.trans h'; replace X2 := X2.up h'; replace X3 := X3.up h'; replace Y := Y.up h'; clear h'
    refine br_mk (fun e3 => ?_) (fun e3 => hK _ _ ⟨h, X2, X3, Y⟩)
    refine rd_boxN X3 (by kernel_rfl) rfl ?_
    refine call_mono (callB (smallF n' d' _)) ?_
    rintro x w7 ⟨rfl, h'⟩
    replace h := h.trans h'; replace X2 := X2.up h'; replace X3 := X3.up h'; replace Y := Y.up h'; clear h'
    refine br_mk (fun e4 => ?_) (fun e4 => hK _ _ ⟨h, X2, X3, Y⟩)
    simp only [decide_eq_true_eq] at e3 e4
    refine call_mono (nearA c0 c1 n d n' d' w7 (X.up h) (X1.up h) e3 e4 e1.1 e2.1) ?_
    rintro (x : Int × Int × Unit) w8 ⟨hx1, hx2, h'⟩
    replace h := h.trans h'; replace Y := Y.up h'; clear h'
    dsimp only
    rw [hx1, hx2]
    have q1 := small_mul e3.1 e3.2.1 (show -1073741824 < d' by have := e2.1; omega) e4.2.2
    have q2 := small_mul e4.1 e4.2.1 (show -1073741824 < d by have := e1.1; omega) e3.2.2
    have q3 := small_mul (show -1073741824 < d by have := e1.1; omega) e3.2.2 (show -1073741824 < d' by have := e2.1; omega) e4.2.2
    have q4 := small_mul e3.1 e3.2.1 e4.1 e4.2.1
    refine call_mono (ofF (n * d' + n' * d) (d * d') w8 ⟨by omega, by omega⟩ ⟨by omega, by omega⟩) ?_
    rintro (t : FE) w9 ⟨ht, h'⟩
    replace h := h.trans h'; replace Y := Y.up h'; clear h'
    have hdd : d * d' ≠ 0 := Int.mul_ne_zero (by have := e1.1; omega) (by have := e2.1; omega)
    refine put _ _ t.1.1 t.1.2.1 t.2.1 rfl h Y ?_
    show t = _
    rw [ht, hT]; unfold ofT
    rw [if_neg hdd, ratv_div e1, ratv_div e2, add_div e1 e2]
  rintro _ w6 ⟨h, X2, X3, Y⟩ _
  refine drw_mk fun w7 h' _ => ?_
  replace h := h.trans h'; replace X2 := X2.up h'; replace X3 := X3.up h'; replace Y := Y.up h'; clear h'
  refine flEx_mk (fun i _ v w => match i with
    | 2 => ExAt 2 w v (ratv n d) | 4 => ExAt 2 w v (ratv n' d') | 5 => ExAt 5 w v (ratv n d + ratv n' d') | 6 => v = rFB.val (fracT (ratv n d + ratv n' d'))
    | 10 => ∃ ad, v = .pointer (some ad) ∧ Box w ad [.int .i64 0, .int .i64 0] ∧ x5.block < ad.block
    | _ => True) (fun i _ _ _ _ h hb => by
      revert h
      split <;> intro h <;> first | exact ExAt.kept h hb | exact h | (obtain ⟨ad, k1, k2, k3⟩ := h; exact ⟨ad, k1, k2.up hb, k3⟩)) ?_
  refine rd_boxN X2 (by kernel_rfl) rfl ?_
  refine flc_mk (fun w' _ _ => call_mono (callE (fromV n d (ratv n d) w' ⟨r1, r2, r3⟩)) fun x w'' ⟨q, hb⟩ => ⟨hb, q.at⟩) (fun x27 => ?_)
  refine rd_boxN X3 (by kernel_rfl) rfl ?_
  refine flc_mk (fun w' _ _ => call_mono (callE (fromV n' d' (ratv n' d') w' ⟨t1, t2, t3⟩)) fun x w'' ⟨q, hb⟩ => ⟨hb, q.at⟩) (fun x33 => ?_)
  refine flc_mk (fun w' _ hp => call_mono (addE x27 x33 _ _ 2 2 w' (EX.of hp.2.1) (EX.of hp.1) (by omega) (by omega)) fun x w'' ⟨q, _, _, hb⟩ => ⟨hb, q.mono.at⟩) (fun x38 => ?_)
  refine flc_mk (fun w' _ hp => call_mono (fracE x38 _ 5 w' (EX.of hp.1)) fun x w'' ⟨q, hb⟩ => ⟨hb, by rw [← q]; rfl⟩) (fun x43 => ?_)
  refine flc_mk (fun w' hb _ => wr_alloc (z := fracv 0 0) (by kernel_rfl) fun ad w'' Z hb' hz _ => ⟨hb', ad, rfl, Z, by have := Y.lt; have := hb.size; omega⟩) (fun x48 => ?_)
  refine flend_mk fun w8 h' hp => ?_
  obtain ⟨⟨ad, k1, Z, k3⟩, k4, _⟩ := hp
  injection k1 with k1; injection k1 with k1; subst k1
  replace h := h.trans h'; replace Y := Y.up h'; clear h'
  have k5 : x43 = fracT (ratv n d + ratv n' d') := fb_inj k4
  refine wu_box Z (by kernel_rfl) (Nat.le_refl 2) rfl fun w9 Z hg _ => ?_
  replace h := h.grownAt hg (by omega)
  replace Y := Y.grown hg (by intro e; injection e; omega)
  rw [k5]
  rw [k5] at Z
  refine br_not (fun e3 => put _ _ _ _ _ rfl h Y ?_) (fun e3 => ?_)
  · have hf : ¬ Fits (ratv n d + ratv n' d') := by
      intro hf; unfold fracT at e3; rw [if_pos hf] at e3; cases e3
    rw [hT]; unfold fitT; rw [if_neg hf]
  · have hf : Fits (ratv n d + ratv n' d') := by
      rcases Decidable.em (Fits (ratv n d + ratv n' d')) with hf | hf
      · exact hf
      · unfold fracT at e3; rw [if_neg hf] at e3; cases e3
    refine rd_boxN Z (by kernel_rfl) rfl ?_
    refine put _ _ _ _ _ rfl h Y ?_
    rw [hT]; unfold fitT fracT; rw [if_pos hf, if_pos hf]

theorem opA (n d n' d' : Int) (w : World) (a : I64 n ∧ I64 d) (b : I64 n' ∧ I64 d') : call Try.prog 18 [fracv n d, fracv n' d'] rFE w (fun x w' => x = opT n d n' d' (fun r s => r + s) ∧ bel w w') := by
  refine call_of (S18_calls n d n' d' w _ ?_)
  unfold S18
  refine wr_box fun x1 w1 X1 h _ _ => ?_
  refine wr_box fun x3 w2 X3 h' _ _ => ?_
  replace h := h.trans h'; replace X1 := X1.up h'; clear h'
  refine wr_alloc (z := fracv 0 0) (by kernel_rfl) fun x5 w3 Y h' hy _ => ?_
  have hne : w.heap.size ≤ x5.block := by rw [hy]; exact h.size
  replace h := h.trans h'; replace X1 := X1.up h'; replace X3 := X3.up h'; clear h'
  refine rd_boxN X1 (by kernel_rfl) rfl ?_
  refine rd_boxN X3 (by kernel_rfl) rfl ?_
  refine call_mono (operA x1 x3 n d n' d' w3 X1 X3 a b) ?_
  rintro (t : FE) w4 ⟨ht, h'⟩
  replace h := h.trans h'; replace Y := Y.up h'; clear h'
  refine wu_box Y (by kernel_rfl) (Nat.le_refl 2) rfl fun w5 Y h' _ => ?_
  exact rd_boxV Y (by kernel_rfl) rfl ⟨t, rfl, ht, h.grownAt h' hne⟩

set_option maxHeartbeats 400000 in
theorem nearM (c0 c1 : Addr) (n d n' d' : Int) (w : World) (X : Box w c0 [.int .i64 n, .int .i64 d]) (X1 : Box w c1 [.int .i64 n', .int .i64 d']) (s : Small n d) (s' : Small n' d') (hd : 1 ≤ d) (hd' : 1 ≤ d') :
    call Try.prog 67 [.pointer (some c0), .pointer (some c1)] (.many [.one (.int .i64), .one (.int .i64)]) w (fun x w' => x.1 = n * n' ∧ x.2.1 = d * d' ∧ bel w w') := by
  obtain ⟨s1, s2, s3⟩ := s
  obtain ⟨s4, s5, s6⟩ := s'
  have m1 := small_mul s1 s2 (show -1073741824 < d' by omega) s6
  have m2 := small_mul s4 s5 (show -1073741824 < d by omega) s3
  have m3 := small_mul (show -1073741824 < d by omega) s3 (show -1073741824 < d' by omega) s6
  have m4 := small_mul s1 s2 s4 s5
  refine call_of (S67_calls c0 c1 w _ ?_)
  unfold S67
  refine drw_mk fun w1 h _ => ?_
  replace X := X.up h
  replace X1 := X1.up h
  refine rd_box0 (by kernel_rfl) X rfl rfl ?_
  refine rd_box0 (by kernel_rfl) X1 rfl rfl ?_
  refine z_i64 (by omega) ?_
  refine rd_box (by kernel_rfl) X rfl rfl ?_
  refine rd_box (by kernel_rfl) X1 rfl rfl ?_
  refine z_i64 (by omega) ?_
  exact ⟨((n * n', d * d', ()) : Int × Int × Unit), rfl, rfl, rfl, h⟩

set_option maxHeartbeats 1600000 in
theorem operM (c0 c1 : Addr) (n d n' d' : Int) (w : World) (X : Box w c0 [.int .i64 n, .int .i64 d]) (X1 : Box w c1 [.int .i64 n', .int .i64 d']) (a : I64 n ∧ I64 d) (b : I64 n' ∧ I64 d') :
    call Try.prog 58 [fracv n d, fracv n' d', .func (.func 67) #[] #[.pointer (some c0), .pointer (some c1)], .func (.func 68) #[] #[]] rFE w (fun x w' => x = opT n d n' d' (fun r s => r * s) ∧ bel w w') := by
  refine call_of (S58mul_calls n d n' d' c0 c1 w _ ?_)
  unfold S58mul
  refine wr_box fun x1 w1 X2 h _ _ => ?_
  refine wr_box fun x3 w2 X3 h' _ _ => ?_
  replace h := h.trans h'; replace X2 := X2.up h'; clear h'
  refine wr_alloc (z := fracv 0 0) (by kernel_rfl) fun x5 w3 Y h' hy _ => ?_
  have hne : w.heap.size ≤ x5.block := by rw [hy]; exact h.size
  replace h := h.trans h'; replace X2 := X2.up h'; replace X3 := X3.up h'; clear h'
  have put : ∀ (w4 : World) (cs : List Value) (p q e : Int), cs.length = 2 → bel w w4 → Box w4 x5 cs → (((p, q, ()), e, ()) : FE) = opT n d n' d' (fun r s => r * s) → wu Try.prog (Instr.storeAt 23 (.pointer (some x5)) (.agg #[.int .i64 p, .int .i64 q])) w4 fun w10 =>
      rd Try.prog (loadVar 23 x5) (.agg [.int .i64, .int .i64]) w10 fun y => ∃ x : FE, Value.tuple #[.agg #[.int .i64 y.1, .int .i64 y.2.1], .int .i64 e] = rFE.val x ∧ x = opT n d n' d' (fun r s => r * s) ∧ bel w w10 := by
    intro w4 cs p q e hl h Y he
    refine wu_box Y (by kernel_rfl) (by rw [hl]; exact Nat.le_refl 2) rfl fun w5 Y h' _ => ?_
    have hl' : putAt cs 0 [.int .i64 p, .int .i64 q] = [.int .i64 p, .int .i64 q] := by
      match cs, hl with
      | [_, _], _ => rfl
    have Y2 : Box w5 x5 [.int .i64 p, .int .i64 q] := by rw [← hl']; exact Y
    exact rd_boxV Y2 (by kernel_rfl) rfl ⟨(((p, q, ()), e, ()) : FE), rfl, he, h.grownAt h' hne⟩
  refine rd_boxN X2 (by kernel_rfl) rfl ?_
  refine call_mono (callB (valid10f n d _ a.1 a.2)) ?_
  rintro x w4 ⟨rfl, h'⟩
  replace h := h.trans h'; replace X2 := X2.up h'; replace X3 := X3.up h'; replace Y := Y.up h'; clear h'
  refine br_not (fun e1 => put _ _ _ _ _ rfl h Y (opT_no (.inl e1)).symm) (fun e1 => ?_)
  refine rd_boxN X3 (by kernel_rfl) rfl ?_
  refine call_mono (callB (valid10f n' d' _ b.1 b.2)) ?_
  rintro x w5 ⟨rfl, h'⟩
  replace h := h.trans h'; replace X2 := X2.up h'; replace X3 := X3.up h'; replace Y := Y.up h'; clear h'
  refine br_not (fun e2 => put _ _ _ _ _ rfl h Y (opT_no (.inr e2)).symm) (fun e2 => ?_)
  simp only [decide_eq_true_eq] at e1 e2
  obtain ⟨r1, r2, r3⟩ := ratv_frac e1
  obtain ⟨t1, t2, t3⟩ := ratv_frac e2
  have hT : opT n d n' d' (fun r s => r * s) = fitT (ratv n d * ratv n' d') := by unfold opT; rw [if_pos ⟨e1, e2⟩]
  refine join_mk (fun _ w6 => bel w w6 ∧ Box w6 x1 [.int .i64 n, .int .i64 d] ∧ Box w6 x3 [.int .i64 n', .int .i64 d'] ∧ Box w6 x5 [.int .i64 0, .int .i64 0]) (fun K hK => ?_) ?_
  · refine rd_boxN X2 (by kernel_rfl) rfl ?_
    refine call_mono (callB (smallF n d _)) ?_
    rintro x w6 ⟨rfl, h'⟩
    replace h := h.trans h'; replace X2 := X2.up h'; replace X3 := X3.up h'; replace Y := Y.up h'; clear h'
    refine br_mk (fun e3 => ?_) (fun e3 => hK _ _ ⟨h, X2, X3, Y⟩)
    refine rd_boxN X3 (by kernel_rfl) rfl ?_
    refine call_mono (callB (smallF n' d' _)) ?_
    rintro x w7 ⟨rfl, h'⟩
    replace h := h.trans h'; replace X2 := X2.up h'; replace X3 := X3.up h'; replace Y := Y.up h'; clear h'
    refine br_mk (fun e4 => ?_) (fun e4 => hK _ _ ⟨h, X2, X3, Y⟩)
    simp only [decide_eq_true_eq] at e3 e4
    refine call_mono (nearM c0 c1 n d n' d' w7 (X.up h) (X1.up h) e3 e4 e1.1 e2.1) ?_
    rintro (x : Int × Int × Unit) w8 ⟨hx1, hx2, h'⟩
    replace h := h.trans h'; replace Y := Y.up h'; clear h'
    dsimp only
    rw [hx1, hx2]
    have q1 := small_mul e3.1 e3.2.1 (show -1073741824 < d' by have := e2.1; omega) e4.2.2
    have q2 := small_mul e4.1 e4.2.1 (show -1073741824 < d by have := e1.1; omega) e3.2.2
    have q3 := small_mul (show -1073741824 < d by have := e1.1; omega) e3.2.2 (show -1073741824 < d' by have := e2.1; omega) e4.2.2
    have q4 := small_mul e3.1 e3.2.1 e4.1 e4.2.1
    refine call_mono (ofF (n * n') (d * d') w8 ⟨by omega, by omega⟩ ⟨by omega, by omega⟩) ?_
    rintro (t : FE) w9 ⟨ht, h'⟩
    replace h := h.trans h'; replace Y := Y.up h'; clear h'
    have hdd : d * d' ≠ 0 := Int.mul_ne_zero (by have := e1.1; omega) (by have := e2.1; omega)
    refine put _ _ t.1.1 t.1.2.1 t.2.1 rfl h Y ?_
    show t = _
    rw [ht, hT]; unfold ofT
    rw [if_neg hdd, ratv_div e1, ratv_div e2, ← Rat.divInt_mul_divInt]
  rintro _ w6 ⟨h, X2, X3, Y⟩ _
  refine drw_mk fun w7 h' _ => ?_
  replace h := h.trans h'; replace X2 := X2.up h'; replace X3 := X3.up h'; replace Y := Y.up h'; clear h'
  refine flEx_mk (fun i _ v w => match i with
    | 2 => ExAt 2 w v (ratv n d) | 4 => ExAt 2 w v (ratv n' d') | 5 => ExAt 5 w v (ratv n d * ratv n' d') | 6 => v = rFB.val (fracT (ratv n d * ratv n' d'))
    | 10 => ∃ ad, v = .pointer (some ad) ∧ Box w ad [.int .i64 0, .int .i64 0] ∧ x5.block < ad.block
    | _ => True) (fun i _ _ _ _ h hb => by
      revert h
      split <;> intro h <;> first | exact ExAt.kept h hb | exact h | (obtain ⟨ad, k1, k2, k3⟩ := h; exact ⟨ad, k1, k2.up hb, k3⟩)) ?_
  refine rd_boxN X2 (by kernel_rfl) rfl ?_
  refine flc_mk (fun w' _ _ => call_mono (callE (fromV n d (ratv n d) w' ⟨r1, r2, r3⟩)) fun x w'' ⟨q, hb⟩ => ⟨hb, q.at⟩) (fun x27 => ?_)
  refine rd_boxN X3 (by kernel_rfl) rfl ?_
  refine flc_mk (fun w' _ _ => call_mono (callE (fromV n' d' (ratv n' d') w' ⟨t1, t2, t3⟩)) fun x w'' ⟨q, hb⟩ => ⟨hb, q.at⟩) (fun x33 => ?_)
  refine flc_mk (fun w' _ hp => call_mono (mulE x27 x33 _ _ 2 2 w' (EX.of hp.2.1) (EX.of hp.1) (by omega) (by omega)) fun x w'' ⟨q, _, _, hb⟩ => ⟨hb, q.mono.at⟩) (fun x38 => ?_)
  refine flc_mk (fun w' _ hp => call_mono (fracE x38 _ 5 w' (EX.of hp.1)) fun x w'' ⟨q, hb⟩ => ⟨hb, by rw [← q]; rfl⟩) (fun x43 => ?_)
  refine flc_mk (fun w' hb _ => wr_alloc (z := fracv 0 0) (by kernel_rfl) fun ad w'' Z hb' hz _ => ⟨hb', ad, rfl, Z, by have := Y.lt; have := hb.size; omega⟩) (fun x48 => ?_)
  refine flend_mk fun w8 h' hp => ?_
  obtain ⟨⟨ad, k1, Z, k3⟩, k4, _⟩ := hp
  injection k1 with k1; injection k1 with k1; subst k1
  replace h := h.trans h'; replace Y := Y.up h'; clear h'
  have k5 : x43 = fracT (ratv n d * ratv n' d') := fb_inj k4
  refine wu_box Z (by kernel_rfl) (Nat.le_refl 2) rfl fun w9 Z hg _ => ?_
  replace h := h.grownAt hg (by omega)
  replace Y := Y.grown hg (by intro e; injection e; omega)
  rw [k5]
  rw [k5] at Z
  refine br_not (fun e3 => put _ _ _ _ _ rfl h Y ?_) (fun e3 => ?_)
  · have hf : ¬ Fits (ratv n d * ratv n' d') := by
      intro hf; unfold fracT at e3; rw [if_pos hf] at e3; cases e3
    rw [hT]; unfold fitT; rw [if_neg hf]
  · have hf : Fits (ratv n d * ratv n' d') := by
      rcases Decidable.em (Fits (ratv n d * ratv n' d')) with hf | hf
      · exact hf
      · unfold fracT at e3; rw [if_neg hf] at e3; cases e3
    refine rd_boxN Z (by kernel_rfl) rfl ?_
    refine put _ _ _ _ _ rfl h Y ?_
    rw [hT]; unfold fitT fracT; rw [if_pos hf, if_pos hf]

theorem opM (n d n' d' : Int) (w : World) (a : I64 n ∧ I64 d) (b : I64 n' ∧ I64 d') : call Try.prog 23 [fracv n d, fracv n' d'] rFE w (fun x w' => x = opT n d n' d' (fun r s => r * s) ∧ bel w w') := by
  refine call_of (S23_calls n d n' d' w _ ?_)
  unfold S23
  refine wr_box fun x1 w1 X1 h _ _ => ?_
  refine wr_box fun x3 w2 X3 h' _ _ => ?_
  replace h := h.trans h'; replace X1 := X1.up h'; clear h'
  refine wr_alloc (z := fracv 0 0) (by kernel_rfl) fun x5 w3 Y h' hy _ => ?_
  have hne : w.heap.size ≤ x5.block := by rw [hy]; exact h.size
  replace h := h.trans h'; replace X1 := X1.up h'; replace X3 := X3.up h'; clear h'
  refine rd_boxN X1 (by kernel_rfl) rfl ?_
  refine rd_boxN X3 (by kernel_rfl) rfl ?_
  refine call_mono (operM x1 x3 n d n' d' w3 X1 X3 a b) ?_
  rintro (t : FE) w4 ⟨ht, h'⟩
  replace h := h.trans h'; replace Y := Y.up h'; clear h'
  refine wu_box Y (by kernel_rfl) (Nat.le_refl 2) rfl fun w5 Y h' _ => ?_
  exact rd_boxV Y (by kernel_rfl) rfl ⟨t, rfl, ht, h.grownAt h' hne⟩
end Go.Proofs.Ytajpdnphamomjaa

/- Package fraction: Sub, Div. -/

namespace Go.Proofs.Ytajpdnphamomjaa
open Go.RowKit Go.Q Go.Q.Num Go.V

theorem frac_neg {n d : Int} (h : IsFrac n d) : IsFrac (-n) d := ⟨h.1, h.2.1, by have := h.2.2.2.1; omega, by have := h.2.2.1; omega, by rw [Int.natAbs_neg]; exact h.2.2.2.2⟩
theorem ratv_neg {n d : Int} (h : IsFrac n d) : ratv (-n) d = -ratv n d := by
  rw [ratv_div h, ratv_div (frac_neg h), Rat.neg_divInt]

set_option maxHeartbeats 400000 in
theorem opS (n d n' d' : Int) (w : World) (a : I64 n ∧ I64 d) (b : I64 n' ∧ I64 d') : call Try.prog 21 [fracv n d, fracv n' d'] rFE w (fun x w' => x = opT n d n' d' (fun r s => r + -s) ∧ bel w w') := by
  refine call_of (S21_calls n d n' d' w _ ?_)
  unfold S21
  refine wr_box fun x1 w1 X1 h _ _ => ?_
  refine wr_box fun x3 w2 X3 h' hx3 _ => ?_
  have hne3 : w.heap.size ≤ x3.block := by rw [hx3]; exact h.size
  have h13 := X1.lt
  replace h := h.trans h'; replace X1 := X1.up h'; clear h'
  refine wr_alloc (z := fracv 0 0) (by kernel_rfl) fun x5 w3 Y h' hy _ => ?_
  have hne : w.heap.size ≤ x5.block := by rw [hy]; exact h.size
  have h35 := X3.lt
  replace h := h.trans h'; replace X1 := X1.up h'; replace X3 := X3.up h'; clear h'
  refine rd_boxN X3 (by kernel_rfl) rfl ?_
  refine call_mono (callB (valid10f n' d' _ b.1 b.2)) ?_
  rintro x w4 ⟨rfl, h'⟩
  replace h := h.trans h'; replace X1 := X1.up h'; replace X3 := X3.up h'; replace Y := Y.up h'; clear h'
  refine br_not (fun e1 => ?_) (fun e1 => ?_)
  · refine wu_box Y (by kernel_rfl) (Nat.le_refl 2) rfl fun w5 Y h' _ => ?_
    exact rd_boxV Y (by kernel_rfl) rfl ⟨(invT : FE), rfl, (opT_no (.inr e1)).symm, h.grownAt h' hne⟩
  simp only [decide_eq_true_eq] at e1
  refine rd_box0 (by kernel_rfl) X3 rfl rfl ?_
  refine z_i64 (by have := e1.2.2; omega) ?_
  refine wu_box X3 (by kernel_rfl) (show 1 ≤ 2 by omega) rfl fun w5 X3 h' _ => ?_
  replace h := h.grownAt h' hne3
  replace X1 := X1.grown h' (by intro e; injection e; omega)
  replace Y := Y.grown h' (by intro e; injection e; omega)
  clear h'
  refine rd_boxN X1 (by kernel_rfl) rfl ?_
  refine rd_boxN X3 (by kernel_rfl) rfl ?_
  refine call_mono (opA n d (0 - n') d' w5 a ⟨by have := e1.2.2; omega, b.2⟩) ?_
  rintro (t : FE) w6 ⟨ht, h'⟩
  replace h := h.trans h'; replace Y := Y.up h'; clear h'
  refine wu_box Y (by kernel_rfl) (Nat.le_refl 2) rfl fun w7 Y h' _ => ?_
  refine rd_boxV Y (by kernel_rfl) rfl ⟨t, rfl, ?_, h.grownAt h' hne⟩
  rw [ht, Int.zero_sub]
  unfold opT
  have e2 := frac_neg e1
  by_cases e0 : IsFrac n d
  · rw [if_pos ⟨e0, e2⟩, if_pos ⟨e0, e1⟩, ratv_neg e1]
  · rw [if_neg (fun q => e0 q.1), if_neg (fun q => e0 q.1)]

theorem inv_frac {n d : Int} (h : IsFrac n d) (h0 : 0 < n) : IsFrac d n := ⟨by omega, h.2.2.2.1, by have := h.1; omega, h.2.1, by rw [Nat.gcd_comm]; exact h.2.2.2.2⟩
theorem inv_frac' {n d : Int} (h : IsFrac n d) (h0 : n < 0) : IsFrac (-d) (-n) := ⟨by omega, by have := h.2.2.1; omega, by have := h.2.1; omega, by have := h.1; omega, by rw [Int.natAbs_neg, Int.natAbs_neg, Nat.gcd_comm]; exact h.2.2.2.2⟩
theorem ratv_inv {n d : Int} (h : IsFrac n d) (h0 : 0 < n) : ratv d n = (ratv n d)⁻¹ := by
  rw [ratv_div h, ratv_div (inv_frac h h0), Rat.inv_divInt]
theorem ratv_inv' {n d : Int} (h : IsFrac n d) (h0 : n < 0) : ratv (-d) (-n) = (ratv n d)⁻¹ := by
  rw [ratv_div h, ratv_div (inv_frac' h h0), Rat.inv_divInt, Rat.divInt_eq_divInt_iff (by omega) (by omega), Int.neg_mul, Int.mul_neg]

set_option maxHeartbeats 400000 in
theorem opD (n d n' d' : Int) (w : World) (a : I64 n ∧ I64 d) (b : I64 n' ∧ I64 d') : call Try.prog 25 [fracv n d, fracv n' d'] rFE w (fun x w' => x = divT n d n' d' ∧ bel w w') := by
  refine call_of (S25_calls n d n' d' w _ ?_)
  unfold S25
  refine wr_box fun x1 w1 X1 h _ _ => ?_
  refine wr_box fun x3 w2 X3 h' hx3 _ => ?_
  replace h := h.trans h'; replace X1 := X1.up h'; clear h'
  refine wr_alloc (z := fracv 0 0) (by kernel_rfl) fun x5 w3 Y h' hy _ => ?_
  have hne : w.heap.size ≤ x5.block := by rw [hy]; exact h.size
  replace h := h.trans h'; replace X1 := X1.up h'; replace X3 := X3.up h'; clear h'
  refine rd_boxN X3 (by kernel_rfl) rfl ?_
  refine call_mono (callB (valid10f n' d' _ b.1 b.2)) ?_
  rintro x w4 ⟨rfl, h'⟩
  replace h := h.trans h'; replace X1 := X1.up h'; replace X3 := X3.up h'; replace Y := Y.up h'; clear h'
  refine br_not (fun e1 => ?_) (fun e1 => ?_)
  · refine wu_box Y (by kernel_rfl) (Nat.le_refl 2) rfl fun w5 Y h' _ => ?_
    exact rd_boxV Y (by kernel_rfl) rfl ⟨(invT : FE), rfl, by unfold divT; rw [if_neg]; rintro ⟨_, q, _⟩; simp [q] at e1, h.grownAt h' hne⟩
  simp only [decide_eq_true_eq] at e1
  refine rd_box0 (by kernel_rfl) X3 rfl rfl ?_
  refine br_eq (fun e2 => ?_) (fun e2 => ?_)
  · refine wu_box Y (by kernel_rfl) (Nat.le_refl 2) rfl fun w5 Y h' _ => ?_
    exact rd_boxV Y (by kernel_rfl) rfl ⟨(invT : FE), rfl, by unfold divT; rw [if_neg]; rintro ⟨_, _, q⟩; exact q e2, h.grownAt h' hne⟩
  refine rd_box (by kernel_rfl) X3 rfl rfl ?_
  refine rd_box0 (by kernel_rfl) X3 rfl rfl ?_
  refine wr_alloc (z := fracv 0 0) (by kernel_rfl) fun x17 w5 Z h' hz _ => ?_
  have hne2 : w.heap.size ≤ x17.block := by rw [hz]; exact h.size
  have l1 := X1.lt
  have l3 := X3.lt
  have l5 := Y.lt
  replace h := h.trans h'; replace X1 := X1.up h'; replace X3 := X3.up h'; replace Y := Y.up h'; clear h'
  refine wu_box Z (by kernel_rfl) (Nat.le_refl 2) rfl fun w6 Z h' _ => ?_
  replace h := h.grownAt h' hne2
  replace X1 := X1.grown h' (by intro e; injection e; omega)
  replace Y := Y.grown h' (by intro e; injection e; omega)
  clear h' X3
  refine join_mk (fun _ w7 => ∃ p q : Int, IsFrac p q ∧ ratv p q = (ratv n' d')⁻¹ ∧ Box w7 x17 [.int .i64 p, .int .i64 q] ∧ bel w w7 ∧ Box w7 x1 [.int .i64 n, .int .i64 d] ∧ Box w7 x5 [.int .i64 0, .int .i64 0]) (fun K hK => ?_) ?_
  · refine rd_box (by kernel_rfl) Z rfl rfl ?_
    refine br_dec (fun e3 => ?_) (fun e3 => ?_)
    · refine rd_box0 (by kernel_rfl) Z rfl rfl ?_
      refine z_i64 (by have := e1.1; have := e1.2.1; omega) ?_
      refine rd_box (by kernel_rfl) Z rfl rfl ?_
      refine z_i64 (by have := e1.2.2; omega) ?_
      refine wu_box Z (by kernel_rfl) (Nat.le_refl 2) rfl fun w7 Z h' _ => ?_
      refine hK _ _ ⟨-d', -n', inv_frac' e1 e3, ratv_inv' e1 e3, ?_, h.grownAt h' hne2, X1.grown h' (by intro e; injection e; omega), Y.grown h' (by intro e; injection e; omega)⟩
      rw [← Int.zero_sub, ← Int.zero_sub n']; exact Z
    · exact hK _ _ ⟨d', n', inv_frac e1 (by omega), ratv_inv e1 (by omega), Z, h, X1, Y⟩
  rintro _ w7 ⟨p, q, f1, f2, Z, h, X1, Y⟩ _
  refine rd_boxN X1 (by kernel_rfl) rfl ?_
  refine rd_boxN Z (by kernel_rfl) rfl ?_
  refine call_mono (opM n d p q w7 a ⟨⟨by have := f1.2.2; omega, by have := f1.2.2; omega⟩, ⟨by have := f1.1; omega, by have := f1.2.1; omega⟩⟩) ?_
  rintro (t : FE) w8 ⟨ht, h'⟩
  replace h := h.trans h'; replace Y := Y.up h'; clear h'
  refine wu_box Y (by kernel_rfl) (Nat.le_refl 2) rfl fun w9 Y h' _ => ?_
  refine rd_boxV Y (by kernel_rfl) rfl ⟨t, rfl, ?_, h.grownAt h' hne⟩
  rw [ht]
  unfold opT divT
  by_cases e0 : IsFrac n d
  · rw [if_pos ⟨e0, f1⟩, if_pos ⟨e0, e1, e2⟩, f2, Rat.div_def]
  · rw [if_neg (fun q => e0 q.1), if_neg (fun q => e0 q.1)]
end Go.Proofs.Ytajpdnphamomjaa

/- The conditions of functions, printed by our tool; each is checked against the code by the kernel. -/



namespace Go.Proofs
open Go Go.V Go.RowKit
/-- querylab/querylablaw10.FractionExact -/
def S4 (a_0 : Int) (a_1 : Int) (b_0 : Int) (b_1 : Int) (w0 : World) (R : Value → World → Prop) : Prop :=
 wr Try.prog (Instr.box 23 (.agg #[(.int .i64 a_0), (.int .i64 a_1)])) (.one .addr) w0 fun (x1 : Addr) (w2 : World) =>
 wr Try.prog (Instr.box 23 (.agg #[(.int .i64 b_0), (.int .i64 b_1)])) (.one .addr) w2 fun (x3 : Addr) (w4 : World) =>
 rd Try.prog (Instr.loadAt 23 (.pointer (some x1))) (.agg [(.int .i64), (.int .i64)]) w4 fun (x5 : (Int × Int × Unit)) =>
 rd Try.prog (Instr.loadAt 23 (.pointer (some x3))) (.agg [(.int .i64), (.int .i64)]) w4 fun (x6 : (Int × Int × Unit)) =>
 call Try.prog 18 [(.agg #[(.int .i64 x5.1), (.int .i64 x5.2.1)]), (.agg #[(.int .i64 x6.1), (.int .i64 x6.2.1)])] (.many [(.agg [(.int .i64), (.int .i64)]), (.one (.int .i64))]) w4 fun (x7 : ((Int × Int × Unit) × Int × Unit)) (w8 : World) =>
 wr Try.prog (Instr.alloc 23 true (.tuple #[])) (.one .addr) w8 fun (x9 : Addr) (w10 : World) =>
 wu Try.prog (Instr.storeAt 23 (.pointer (some x9)) (.agg #[(.int .i64 x7.1.1), (.int .i64 x7.1.2.1)])) w10 fun (w11 : World) =>
 rd Try.prog (Instr.loadAt 23 (.pointer (some x1))) (.agg [(.int .i64), (.int .i64)]) w11 fun (x12 : (Int × Int × Unit)) =>
 rd Try.prog (Instr.loadAt 23 (.pointer (some x3))) (.agg [(.int .i64), (.int .i64)]) w11 fun (x13 : (Int × Int × Unit)) =>
 call Try.prog 19 [(.agg #[(.int .i64 x12.1), (.int .i64 x12.2.1)]), (.agg #[(.int .i64 x13.1), (.int .i64 x13.2.1)])] (.many [(.agg [(.int .i64), (.int .i64)]), (.one (.int .i64))]) w11 fun (x14 : ((Int × Int × Unit) × Int × Unit)) (w15 : World) =>
 wr Try.prog (Instr.alloc 23 true (.tuple #[])) (.one .addr) w15 fun (x16 : Addr) (w17 : World) =>
 wu Try.prog (Instr.storeAt 23 (.pointer (some x16)) (.agg #[(.int .i64 x14.1.1), (.int .i64 x14.1.2.1)])) w17 fun (w18 : World) =>
 drw w18 fun w19 => flEx fun F20 =>
 rd Try.prog (Instr.loadAt 23 (.pointer (some x9))) (.agg [(.int .i64), (.int .i64)]) w19 fun (x21 : (Int × Int × Unit)) =>
 rd Try.prog (Instr.loadAt 23 (.pointer (some x16))) (.agg [(.int .i64), (.int .i64)]) w19 fun (x22 : (Int × Int × Unit)) =>
 rd Try.prog (cmpS .neq 23 (.tmp 21) (.tmp 22) (.agg #[(.int .i64 x21.1), (.int .i64 x21.2.1)]) (.agg #[(.int .i64 x22.1), (.int .i64 x22.2.1)])) (.one .bool) w19 fun (x23 : Bool) =>
 br x23 (R (.bool false) w19)
 (br (x7.2.1 != x14.2.1) (R (.bool false) w19)
 (rd Try.prog (Instr.loadAt 23 (.pointer (some x1))) (.agg [(.int .i64), (.int .i64)]) w19 fun (x24 : (Int × Int × Unit)) =>
 flc bel w19 (fun _w26 => True) (fun (w25 : World) =>
   call Try.prog 20 [(.agg #[(.int .i64 x24.1), (.int .i64 x24.2.1)])] (.one (.one .bool)) w25 fun (x27 : Bool) (w28 : World) =>
 (bel w25 w28 ∧ F20 10 [(.agg #[(.int .i64 x24.1), (.int .i64 x24.2.1)])] (.bool x27) w28))
  fun (x29 : Bool) =>
 rd Try.prog (Instr.loadAt 23 (.pointer (some x1))) (.agg [(.int .i64), (.int .i64)]) w19 fun (x30 : (Int × Int × Unit)) =>
 flend bel w19 (fun w32 => F20 10 [(.agg #[(.int .i64 x24.1), (.int .i64 x24.2.1)])] (.bool x29) w32 ∧ True) fun w31 =>
 call Try.prog 15 [(.agg #[(.int .i64 x30.1), (.int .i64 x30.2.1)])] (.one (.one .bool)) w31 fun (x33 : Bool) (w34 : World) =>
 br (!(x29 == x33)) (R (.bool false) w34)
 (rd Try.prog (Instr.loadAt 23 (.pointer (some x1))) (.agg [(.int .i64), (.int .i64)]) w34 fun (x35 : (Int × Int × Unit)) =>
 rd Try.prog (Instr.loadAt 23 (.pointer (some x3))) (.agg [(.int .i64), (.int .i64)]) w34 fun (x36 : (Int × Int × Unit)) =>
 call Try.prog 21 [(.agg #[(.int .i64 x35.1), (.int .i64 x35.2.1)]), (.agg #[(.int .i64 x36.1), (.int .i64 x36.2.1)])] (.many [(.agg [(.int .i64), (.int .i64)]), (.one (.int .i64))]) w34 fun (x37 : ((Int × Int × Unit) × Int × Unit)) (w38 : World) =>
 wu Try.prog (Instr.storeAt 23 (.pointer (some x9)) (.agg #[(.int .i64 x37.1.1), (.int .i64 x37.1.2.1)])) w38 fun (w39 : World) =>
 rd Try.prog (Instr.loadAt 23 (.pointer (some x1))) (.agg [(.int .i64), (.int .i64)]) w39 fun (x40 : (Int × Int × Unit)) =>
 rd Try.prog (Instr.loadAt 23 (.pointer (some x3))) (.agg [(.int .i64), (.int .i64)]) w39 fun (x41 : (Int × Int × Unit)) =>
 call Try.prog 22 [(.agg #[(.int .i64 x40.1), (.int .i64 x40.2.1)]), (.agg #[(.int .i64 x41.1), (.int .i64 x41.2.1)])] (.many [(.agg [(.int .i64), (.int .i64)]), (.one (.int .i64))]) w39 fun (x42 : ((Int × Int × Unit) × Int × Unit)) (w43 : World) =>
 wu Try.prog (Instr.storeAt 23 (.pointer (some x16)) (.agg #[(.int .i64 x42.1.1), (.int .i64 x42.1.2.1)])) w43 fun (w44 : World) =>
 rd Try.prog (Instr.loadAt 23 (.pointer (some x9))) (.agg [(.int .i64), (.int .i64)]) w44 fun (x45 : (Int × Int × Unit)) =>
 rd Try.prog (Instr.loadAt 23 (.pointer (some x16))) (.agg [(.int .i64), (.int .i64)]) w44 fun (x46 : (Int × Int × Unit)) =>
 rd Try.prog (cmpS .neq 23 (.tmp 48) (.tmp 49) (.agg #[(.int .i64 x45.1), (.int .i64 x45.2.1)]) (.agg #[(.int .i64 x46.1), (.int .i64 x46.2.1)])) (.one .bool) w44 fun (x47 : Bool) =>
 br x47 (R (.bool false) w44)
 (br (x37.2.1 != x42.2.1) (R (.bool false) w44)
 (rd Try.prog (Instr.loadAt 23 (.pointer (some x1))) (.agg [(.int .i64), (.int .i64)]) w44 fun (x48 : (Int × Int × Unit)) =>
 rd Try.prog (Instr.loadAt 23 (.pointer (some x3))) (.agg [(.int .i64), (.int .i64)]) w44 fun (x49 : (Int × Int × Unit)) =>
 call Try.prog 23 [(.agg #[(.int .i64 x48.1), (.int .i64 x48.2.1)]), (.agg #[(.int .i64 x49.1), (.int .i64 x49.2.1)])] (.many [(.agg [(.int .i64), (.int .i64)]), (.one (.int .i64))]) w44 fun (x50 : ((Int × Int × Unit) × Int × Unit)) (w51 : World) =>
 wu Try.prog (Instr.storeAt 23 (.pointer (some x9)) (.agg #[(.int .i64 x50.1.1), (.int .i64 x50.1.2.1)])) w51 fun (w52 : World) =>
 rd Try.prog (Instr.loadAt 23 (.pointer (some x1))) (.agg [(.int .i64), (.int .i64)]) w52 fun (x53 : (Int × Int × Unit)) =>
 rd Try.prog (Instr.loadAt 23 (.pointer (some x3))) (.agg [(.int .i64), (.int .i64)]) w52 fun (x54 : (Int × Int × Unit)) =>
 call Try.prog 24 [(.agg #[(.int .i64 x53.1), (.int .i64 x53.2.1)]), (.agg #[(.int .i64 x54.1), (.int .i64 x54.2.1)])] (.many [(.agg [(.int .i64), (.int .i64)]), (.one (.int .i64))]) w52 fun (x55 : ((Int × Int × Unit) × Int × Unit)) (w56 : World) =>
 wu Try.prog (Instr.storeAt 23 (.pointer (some x16)) (.agg #[(.int .i64 x55.1.1), (.int .i64 x55.1.2.1)])) w56 fun (w57 : World) =>
 rd Try.prog (Instr.loadAt 23 (.pointer (some x9))) (.agg [(.int .i64), (.int .i64)]) w57 fun (x58 : (Int × Int × Unit)) =>
 rd Try.prog (Instr.loadAt 23 (.pointer (some x16))) (.agg [(.int .i64), (.int .i64)]) w57 fun (x59 : (Int × Int × Unit)) =>
 rd Try.prog (cmpS .neq 23 (.tmp 68) (.tmp 69) (.agg #[(.int .i64 x58.1), (.int .i64 x58.2.1)]) (.agg #[(.int .i64 x59.1), (.int .i64 x59.2.1)])) (.one .bool) w57 fun (x60 : Bool) =>
 br x60 (R (.bool false) w57)
 (br (x50.2.1 != x55.2.1) (R (.bool false) w57)
 (rd Try.prog (Instr.loadAt 23 (.pointer (some x1))) (.agg [(.int .i64), (.int .i64)]) w57 fun (x61 : (Int × Int × Unit)) =>
 rd Try.prog (Instr.loadAt 23 (.pointer (some x3))) (.agg [(.int .i64), (.int .i64)]) w57 fun (x62 : (Int × Int × Unit)) =>
 call Try.prog 25 [(.agg #[(.int .i64 x61.1), (.int .i64 x61.2.1)]), (.agg #[(.int .i64 x62.1), (.int .i64 x62.2.1)])] (.many [(.agg [(.int .i64), (.int .i64)]), (.one (.int .i64))]) w57 fun (x63 : ((Int × Int × Unit) × Int × Unit)) (w64 : World) =>
 wu Try.prog (Instr.storeAt 23 (.pointer (some x9)) (.agg #[(.int .i64 x63.1.1), (.int .i64 x63.1.2.1)])) w64 fun (w65 : World) =>
 rd Try.prog (Instr.loadAt 23 (.pointer (some x1))) (.agg [(.int .i64), (.int .i64)]) w65 fun (x66 : (Int × Int × Unit)) =>
 rd Try.prog (Instr.loadAt 23 (.pointer (some x3))) (.agg [(.int .i64), (.int .i64)]) w65 fun (x67 : (Int × Int × Unit)) =>
 call Try.prog 26 [(.agg #[(.int .i64 x66.1), (.int .i64 x66.2.1)]), (.agg #[(.int .i64 x67.1), (.int .i64 x67.2.1)])] (.many [(.agg [(.int .i64), (.int .i64)]), (.one (.int .i64))]) w65 fun (x68 : ((Int × Int × Unit) × Int × Unit)) (w69 : World) =>
 wu Try.prog (Instr.storeAt 23 (.pointer (some x16)) (.agg #[(.int .i64 x68.1.1), (.int .i64 x68.1.2.1)])) w69 fun (w70 : World) =>
 rd Try.prog (Instr.loadAt 23 (.pointer (some x9))) (.agg [(.int .i64), (.int .i64)]) w70 fun (x71 : (Int × Int × Unit)) =>
 rd Try.prog (Instr.loadAt 23 (.pointer (some x16))) (.agg [(.int .i64), (.int .i64)]) w70 fun (x72 : (Int × Int × Unit)) =>
 rd Try.prog (cmpS .eql 23 (.tmp 88) (.tmp 89) (.agg #[(.int .i64 x71.1), (.int .i64 x71.2.1)]) (.agg #[(.int .i64 x72.1), (.int .i64 x72.2.1)])) (.one .bool) w70 fun (x73 : Bool) =>
 br x73 (R (.bool (x63.2.1 == x68.2.1)) w70)
 (R (.bool false) w70))))))))
def H4 : Hints := ⟨[], [(3, 12)], [], []⟩
set_option maxRecDepth 100000 in
theorem S4_eq (a_0 : Int) (a_1 : Int) (b_0 : Int) (b_1 : Int) (w0 : World) (R : Value → World → Prop) : vcFn Try.prog H4 Try.f4 [(.agg #[(.int .i64 a_0), (.int .i64 a_1)]), (.agg #[(.int .i64 b_0), (.int .i64 b_1)])] w0 R = S4 a_0 a_1 b_0 b_1 w0 R := by kernel_rfl
set_option maxRecDepth 100000 in
theorem S4_calls (a_0 : Int) (a_1 : Int) (b_0 : Int) (b_1 : Int) (w0 : World) (R : Value → World → Prop) (h : S4 a_0 a_1 b_0 b_1 w0 R) : Calls Try.prog 4 #[(.agg #[(.int .i64 a_0), (.int .i64 a_1)]), (.agg #[(.int .i64 b_0), (.int .i64 b_1)])] w0 (ret R) := by
  rw [← S4_eq] at h; exact vcFn_sound follows_ Try.func4 h

/-- querylab/querylablaw10.FractionLimits -/
def S5 (n_ : Int) (m_ : Int) (w0 : World) (R : Value → World → Prop) : Prop :=
 z (IntKind.wrap .i64 n_) fun (z1 : Int) =>
 z (IntKind.wrap .i64 (100000000000000000 - z1)) fun (z2 : Int) =>
 wr Try.prog (Instr.alloc 23 true (.tuple #[])) (.one .addr) w0 fun (x3 : Addr) (w4 : World) =>
 wu Try.prog (Instr.storeAt 23 (.pointer (some x3)) (.agg #[(.int .i64 z2), (.int .i64 1)])) w4 fun (w5 : World) =>
 z (IntKind.wrap .i64 m_) fun (z6 : Int) =>
 z (IntKind.wrap .i64 (100000000000000000 - z6)) fun (z7 : Int) =>
 wr Try.prog (Instr.alloc 23 true (.tuple #[])) (.one .addr) w5 fun (x8 : Addr) (w9 : World) =>
 wu Try.prog (Instr.storeAt 23 (.pointer (some x8)) (.agg #[(.int .i64 1), (.int .i64 z7)])) w9 fun (w10 : World) =>
 rd Try.prog (Instr.loadAt 23 (.pointer (some x3))) (.agg [(.int .i64), (.int .i64)]) w10 fun (x11 : (Int × Int × Unit)) =>
 rd Try.prog (Instr.loadAt 23 (.pointer (some x8))) (.agg [(.int .i64), (.int .i64)]) w10 fun (x12 : (Int × Int × Unit)) =>
 rd Try.prog (Instr.loadAt 2 (.pointer (some x3))) (.one (.int .i64)) w10 fun (x13 : Int) =>
 z (IntKind.wrap .i64 (0 - x13)) fun (z14 : Int) =>
 rd Try.prog (Instr.loadAt 2 (.pointer (some x3))) (.one (.int .i64)) w10 fun (x15 : Int) =>
 wr Try.prog (Instr.buildSlice 33 4 #[(0, (.agg #[(.int .i64 x11.1), (.int .i64 x11.2.1)])), (1, (.agg #[(.int .i64 x12.1), (.int .i64 x12.2.1)])), (2, (.agg #[(.int .i64 z14), (.int .i64 1)])), (3, (.agg #[(.int .i64 1), (.int .i64 x15)]))]) (.one .slice) w10 fun (x16 : (Option Addr × Nat × Nat)) (w17 : World) =>
 loop (T := (Int × Unit)) (0, ()) w17 fun (again18 : (Int × Unit) → World → Prop) (s19 : (Int × Unit)) w20 => ∀ _ : Nat → Value,
 br (decide (s19.1 < ((x16.2.1 : Nat) : Int))) (loop (T := (Int × Unit)) (0, ()) w20 fun (again21 : (Int × Unit) → World → Prop) (s22 : (Int × Unit)) w23 => ∀ _ : Nat → Value,
 br (decide (s22.1 < ((x16.2.1 : Nat) : Int))) (drw w23 fun w24 => flEx fun F25 =>
 rdp Try.prog (Instr.indexAt 33 (.slice x16.1 x16.2.1 x16.2.2) (.int .i64 s19.1)) (.one .addr) fun (x26 : Addr) =>
 rd Try.prog (Instr.loadAt 23 (.pointer (some x26))) (.agg [(.int .i64), (.int .i64)]) w24 fun (x27 : (Int × Int × Unit)) =>
 rdp Try.prog (Instr.indexAt 33 (.slice x16.1 x16.2.1 x16.2.2) (.int .i64 s22.1)) (.one .addr) fun (x28 : Addr) =>
 rd Try.prog (Instr.loadAt 23 (.pointer (some x28))) (.agg [(.int .i64), (.int .i64)]) w24 fun (x29 : (Int × Int × Unit)) =>
 flc bel w24 (fun _w31 => True) (fun (w30 : World) =>
   call Try.prog 23 [(.agg #[(.int .i64 x27.1), (.int .i64 x27.2.1)]), (.agg #[(.int .i64 x29.1), (.int .i64 x29.2.1)])] (.many [(.agg [(.int .i64), (.int .i64)]), (.one (.int .i64))]) w30 fun (x32 : ((Int × Int × Unit) × Int × Unit)) (w33 : World) =>
 (bel w30 w33 ∧ F25 8 [(.agg #[(.int .i64 x27.1), (.int .i64 x27.2.1)]), (.agg #[(.int .i64 x29.1), (.int .i64 x29.2.1)])] (.tuple #[(.agg #[(.int .i64 x32.1.1), (.int .i64 x32.1.2.1)]), (.int .i64 x32.2.1)]) w33))
  fun (x34 : ((Int × Int × Unit) × Int × Unit)) =>
 flc bel w24 (fun _w36 => True) (fun (w35 : World) =>
   wr Try.prog (Instr.alloc 23 true (.tuple #[])) (.one .addr) w35 fun (x37 : Addr) (w38 : World) =>
 (bel w35 w38 ∧ F25 12 [] (.pointer (some x37)) w38))
  fun (x39 : Addr) =>
 flend bel w24 (fun w41 => F25 12 [] (.pointer (some x39)) w41 ∧ F25 8 [(.agg #[(.int .i64 x27.1), (.int .i64 x27.2.1)]), (.agg #[(.int .i64 x29.1), (.int .i64 x29.2.1)])] (.tuple #[(.agg #[(.int .i64 x34.1.1), (.int .i64 x34.1.2.1)]), (.int .i64 x34.2.1)]) w41 ∧ True) fun w40 =>
 wu Try.prog (Instr.storeAt 23 (.pointer (some x39)) (.agg #[(.int .i64 x34.1.1), (.int .i64 x34.1.2.1)])) w40 fun (w42 : World) =>
 drw w42 fun w43 => flEx fun F44 =>
 rdp Try.prog (Instr.indexAt 33 (.slice x16.1 x16.2.1 x16.2.2) (.int .i64 s19.1)) (.one .addr) fun (x45 : Addr) =>
 rd Try.prog (Instr.loadAt 23 (.pointer (some x45))) (.agg [(.int .i64), (.int .i64)]) w43 fun (x46 : (Int × Int × Unit)) =>
 rdp Try.prog (Instr.indexAt 33 (.slice x16.1 x16.2.1 x16.2.2) (.int .i64 s22.1)) (.one .addr) fun (x47 : Addr) =>
 rd Try.prog (Instr.loadAt 23 (.pointer (some x47))) (.agg [(.int .i64), (.int .i64)]) w43 fun (x48 : (Int × Int × Unit)) =>
 flc bel w43 (fun _w50 => True) (fun (w49 : World) =>
   call Try.prog 24 [(.agg #[(.int .i64 x46.1), (.int .i64 x46.2.1)]), (.agg #[(.int .i64 x48.1), (.int .i64 x48.2.1)])] (.many [(.agg [(.int .i64), (.int .i64)]), (.one (.int .i64))]) w49 fun (x51 : ((Int × Int × Unit) × Int × Unit)) (w52 : World) =>
 (bel w49 w52 ∧ F44 8 [(.agg #[(.int .i64 x46.1), (.int .i64 x46.2.1)]), (.agg #[(.int .i64 x48.1), (.int .i64 x48.2.1)])] (.tuple #[(.agg #[(.int .i64 x51.1.1), (.int .i64 x51.1.2.1)]), (.int .i64 x51.2.1)]) w52))
  fun (x53 : ((Int × Int × Unit) × Int × Unit)) =>
 flc bel w43 (fun _w55 => True) (fun (w54 : World) =>
   wr Try.prog (Instr.alloc 23 true (.tuple #[])) (.one .addr) w54 fun (x56 : Addr) (w57 : World) =>
 (bel w54 w57 ∧ F44 12 [] (.pointer (some x56)) w57))
  fun (x58 : Addr) =>
 flend bel w43 (fun w60 => F44 12 [] (.pointer (some x58)) w60 ∧ F44 8 [(.agg #[(.int .i64 x46.1), (.int .i64 x46.2.1)]), (.agg #[(.int .i64 x48.1), (.int .i64 x48.2.1)])] (.tuple #[(.agg #[(.int .i64 x53.1.1), (.int .i64 x53.1.2.1)]), (.int .i64 x53.2.1)]) w60 ∧ True) fun w59 =>
 wu Try.prog (Instr.storeAt 23 (.pointer (some x58)) (.agg #[(.int .i64 x53.1.1), (.int .i64 x53.1.2.1)])) w59 fun (w61 : World) =>
 drw w61 fun w62 => flEx fun F63 =>
 rdp Try.prog (Instr.indexAt 33 (.slice x16.1 x16.2.1 x16.2.2) (.int .i64 s19.1)) (.one .addr) fun (x64 : Addr) =>
 rd Try.prog (Instr.loadAt 23 (.pointer (some x64))) (.agg [(.int .i64), (.int .i64)]) w62 fun (x65 : (Int × Int × Unit)) =>
 rdp Try.prog (Instr.indexAt 33 (.slice x16.1 x16.2.1 x16.2.2) (.int .i64 s22.1)) (.one .addr) fun (x66 : Addr) =>
 rd Try.prog (Instr.loadAt 23 (.pointer (some x66))) (.agg [(.int .i64), (.int .i64)]) w62 fun (x67 : (Int × Int × Unit)) =>
 flc bel w62 (fun _w69 => True) (fun (w68 : World) =>
   call Try.prog 18 [(.agg #[(.int .i64 x65.1), (.int .i64 x65.2.1)]), (.agg #[(.int .i64 x67.1), (.int .i64 x67.2.1)])] (.many [(.agg [(.int .i64), (.int .i64)]), (.one (.int .i64))]) w68 fun (x70 : ((Int × Int × Unit) × Int × Unit)) (w71 : World) =>
 (bel w68 w71 ∧ F63 8 [(.agg #[(.int .i64 x65.1), (.int .i64 x65.2.1)]), (.agg #[(.int .i64 x67.1), (.int .i64 x67.2.1)])] (.tuple #[(.agg #[(.int .i64 x70.1.1), (.int .i64 x70.1.2.1)]), (.int .i64 x70.2.1)]) w71))
  fun (x72 : ((Int × Int × Unit) × Int × Unit)) =>
 flc bel w62 (fun _w74 => True) (fun (w73 : World) =>
   wr Try.prog (Instr.alloc 23 true (.tuple #[])) (.one .addr) w73 fun (x75 : Addr) (w76 : World) =>
 (bel w73 w76 ∧ F63 12 [] (.pointer (some x75)) w76))
  fun (x77 : Addr) =>
 flend bel w62 (fun w79 => F63 12 [] (.pointer (some x77)) w79 ∧ F63 8 [(.agg #[(.int .i64 x65.1), (.int .i64 x65.2.1)]), (.agg #[(.int .i64 x67.1), (.int .i64 x67.2.1)])] (.tuple #[(.agg #[(.int .i64 x72.1.1), (.int .i64 x72.1.2.1)]), (.int .i64 x72.2.1)]) w79 ∧ True) fun w78 =>
 wu Try.prog (Instr.storeAt 23 (.pointer (some x77)) (.agg #[(.int .i64 x72.1.1), (.int .i64 x72.1.2.1)])) w78 fun (w80 : World) =>
 drw w80 fun w81 => flEx fun F82 =>
 rdp Try.prog (Instr.indexAt 33 (.slice x16.1 x16.2.1 x16.2.2) (.int .i64 s19.1)) (.one .addr) fun (x83 : Addr) =>
 rd Try.prog (Instr.loadAt 23 (.pointer (some x83))) (.agg [(.int .i64), (.int .i64)]) w81 fun (x84 : (Int × Int × Unit)) =>
 rdp Try.prog (Instr.indexAt 33 (.slice x16.1 x16.2.1 x16.2.2) (.int .i64 s22.1)) (.one .addr) fun (x85 : Addr) =>
 rd Try.prog (Instr.loadAt 23 (.pointer (some x85))) (.agg [(.int .i64), (.int .i64)]) w81 fun (x86 : (Int × Int × Unit)) =>
 flc bel w81 (fun _w88 => True) (fun (w87 : World) =>
   call Try.prog 19 [(.agg #[(.int .i64 x84.1), (.int .i64 x84.2.1)]), (.agg #[(.int .i64 x86.1), (.int .i64 x86.2.1)])] (.many [(.agg [(.int .i64), (.int .i64)]), (.one (.int .i64))]) w87 fun (x89 : ((Int × Int × Unit) × Int × Unit)) (w90 : World) =>
 (bel w87 w90 ∧ F82 8 [(.agg #[(.int .i64 x84.1), (.int .i64 x84.2.1)]), (.agg #[(.int .i64 x86.1), (.int .i64 x86.2.1)])] (.tuple #[(.agg #[(.int .i64 x89.1.1), (.int .i64 x89.1.2.1)]), (.int .i64 x89.2.1)]) w90))
  fun (x91 : ((Int × Int × Unit) × Int × Unit)) =>
 flc bel w81 (fun _w93 => True) (fun (w92 : World) =>
   wr Try.prog (Instr.alloc 23 true (.tuple #[])) (.one .addr) w92 fun (x94 : Addr) (w95 : World) =>
 (bel w92 w95 ∧ F82 12 [] (.pointer (some x94)) w95))
  fun (x96 : Addr) =>
 flend bel w81 (fun w98 => F82 12 [] (.pointer (some x96)) w98 ∧ F82 8 [(.agg #[(.int .i64 x84.1), (.int .i64 x84.2.1)]), (.agg #[(.int .i64 x86.1), (.int .i64 x86.2.1)])] (.tuple #[(.agg #[(.int .i64 x91.1.1), (.int .i64 x91.1.2.1)]), (.int .i64 x91.2.1)]) w98 ∧ True) fun w97 =>
 wu Try.prog (Instr.storeAt 23 (.pointer (some x96)) (.agg #[(.int .i64 x91.1.1), (.int .i64 x91.1.2.1)])) w97 fun (w99 : World) =>
 drw w99 fun w100 => flEx fun F101 =>
 rd Try.prog (Instr.loadAt 23 (.pointer (some x39))) (.agg [(.int .i64), (.int .i64)]) w100 fun (x102 : (Int × Int × Unit)) =>
 rd Try.prog (Instr.loadAt 23 (.pointer (some x58))) (.agg [(.int .i64), (.int .i64)]) w100 fun (x103 : (Int × Int × Unit)) =>
 rd Try.prog (cmpS .neq 23 (.tmp 96) (.tmp 97) (.agg #[(.int .i64 x102.1), (.int .i64 x102.2.1)]) (.agg #[(.int .i64 x103.1), (.int .i64 x103.2.1)])) (.one .bool) w100 fun (x104 : Bool) =>
 br x104 (R (.bool false) w100)
 (br (x34.2.1 != x53.2.1) (R (.bool false) w100)
 (rd Try.prog (Instr.loadAt 23 (.pointer (some x77))) (.agg [(.int .i64), (.int .i64)]) w100 fun (x105 : (Int × Int × Unit)) =>
 rd Try.prog (Instr.loadAt 23 (.pointer (some x96))) (.agg [(.int .i64), (.int .i64)]) w100 fun (x106 : (Int × Int × Unit)) =>
 rd Try.prog (cmpS .neq 23 (.tmp 105) (.tmp 106) (.agg #[(.int .i64 x105.1), (.int .i64 x105.2.1)]) (.agg #[(.int .i64 x106.1), (.int .i64 x106.2.1)])) (.one .bool) w100 fun (x107 : Bool) =>
 br x107 (R (.bool false) w100)
 (br (x72.2.1 != x91.2.1) (R (.bool false) w100)
 (rdp Try.prog (Instr.indexAt 33 (.slice x16.1 x16.2.1 x16.2.2) (.int .i64 s19.1)) (.one .addr) fun (x108 : Addr) =>
 rd Try.prog (Instr.loadAt 23 (.pointer (some x108))) (.agg [(.int .i64), (.int .i64)]) w100 fun (x109 : (Int × Int × Unit)) =>
 rdp Try.prog (Instr.indexAt 33 (.slice x16.1 x16.2.1 x16.2.2) (.int .i64 s22.1)) (.one .addr) fun (x110 : Addr) =>
 rd Try.prog (Instr.loadAt 23 (.pointer (some x110))) (.agg [(.int .i64), (.int .i64)]) w100 fun (x111 : (Int × Int × Unit)) =>
 flc bel w100 (fun _w113 => True) (fun (w112 : World) =>
   call Try.prog 16 [(.agg #[(.int .i64 x109.1), (.int .i64 x109.2.1)]), (.agg #[(.int .i64 x111.1), (.int .i64 x111.2.1)])] (.one (.one (.int .i64))) w112 fun (x114 : Int) (w115 : World) =>
 (bel w112 w115 ∧ F101 27 [(.agg #[(.int .i64 x109.1), (.int .i64 x109.2.1)]), (.agg #[(.int .i64 x111.1), (.int .i64 x111.2.1)])] (.int .i64 x114) w115))
  fun (x116 : Int) =>
 rdp Try.prog (Instr.indexAt 33 (.slice x16.1 x16.2.1 x16.2.2) (.int .i64 s19.1)) (.one .addr) fun (x117 : Addr) =>
 rd Try.prog (Instr.loadAt 23 (.pointer (some x117))) (.agg [(.int .i64), (.int .i64)]) w100 fun (x118 : (Int × Int × Unit)) =>
 rdp Try.prog (Instr.indexAt 33 (.slice x16.1 x16.2.1 x16.2.2) (.int .i64 s22.1)) (.one .addr) fun (x119 : Addr) =>
 rd Try.prog (Instr.loadAt 23 (.pointer (some x119))) (.agg [(.int .i64), (.int .i64)]) w100 fun (x120 : (Int × Int × Unit)) =>
 flend bel w100 (fun w122 => F101 27 [(.agg #[(.int .i64 x109.1), (.int .i64 x109.2.1)]), (.agg #[(.int .i64 x111.1), (.int .i64 x111.2.1)])] (.int .i64 x116) w122 ∧ True) fun w121 =>
 call Try.prog 27 [(.agg #[(.int .i64 x118.1), (.int .i64 x118.2.1)]), (.agg #[(.int .i64 x120.1), (.int .i64 x120.2.1)])] (.one (.one (.int .i64))) w121 fun (x123 : Int) (w124 : World) =>
 br (x116 != x123) (R (.bool false) w124)
 (z (IntKind.wrap .i64 (s22.1 + 1)) fun (z125 : Int) =>
 again21 (z125, ()) w124))))))
 (z (IntKind.wrap .i64 (s19.1 + 1)) fun (z126 : Int) =>
 again18 (z126, ()) w23))
 (R (.bool true) w20)
def H5 : Hints := ⟨[(2, 0, [(8, (.one (.int .i64)))]), (2, 2, [(9, (.one (.int .i64)))])], [(10, 13), (11, 13), (12, 13), (13, 13), (14, 36)], [], []⟩
set_option maxRecDepth 100000 in
theorem S5_eq (n_ : Int) (m_ : Int) (w0 : World) (R : Value → World → Prop) : vcFn Try.prog H5 Try.f5 [(.int .u32 n_), (.int .u32 m_)] w0 R = S5 n_ m_ w0 R := by kernel_rfl
set_option maxRecDepth 100000 in
theorem S5_calls (n_ : Int) (m_ : Int) (w0 : World) (R : Value → World → Prop) (h : S5 n_ m_ w0 R) : Calls Try.prog 5 #[(.int .u32 n_), (.int .u32 m_)] w0 (ret R) := by
  rw [← S5_eq] at h; exact vcFn_sound follows_ Try.func5 h

end Go.Proofs

/- The walk of FractionExact. -/


namespace Go.Proofs.Ytajpdnphamomjaa
open Go.RowKit Go.Q Go.Q.Num Go.V

theorem rd_ne_same {n d : Int} {x y : Operand} {w : World} {K : Bool → Prop} (hk : K false) : rd Try.prog (cmpS .neq 23 x y (.agg #[.int .i64 n, .int .i64 d]) (.agg #[.int .i64 n, .int .i64 d])) (.one .bool) w K := by
  refine ⟨false, fun w' _ => ?_, hk⟩
  have := run_neStruct (P := Try.prog) (t := 23) (k := .i64) (a := x) (b := y) (xs := [n, d]) (ys := [n, d]) (w := w') (by kernel_rfl) (by kernel_rfl) (by kernel_rfl) (by kernel_rfl) (by kernel_rfl) (by kernel_rfl)
  simp [eqInts] at this
  exact this
theorem rd_eq_same {n d : Int} {x y : Operand} {w : World} {K : Bool → Prop} (hk : K true) : rd Try.prog (cmpS .eql 23 x y (.agg #[.int .i64 n, .int .i64 d]) (.agg #[.int .i64 n, .int .i64 d])) (.one .bool) w K := by
  refine ⟨true, fun w' _ => ?_, hk⟩
  have := run_eqStruct (P := Try.prog) (t := 23) (k := .i64) (a := x) (b := y) (xs := [n, d]) (ys := [n, d]) (w := w') (by kernel_rfl) (by kernel_rfl) (by kernel_rfl) (by kernel_rfl) (by kernel_rfl) (by kernel_rfl)
  simp [eqInts] at this
  exact this
theorem br_no {a : Int} {A B : Prop} (h : B) : br (a != a) A B := br_ne (fun q => absurd rfl q) (fun _ => h)

set_option maxHeartbeats 1600000 in
theorem exact' (n d n' d' : Int) (w : World) (a : I64 n ∧ I64 d) (b : I64 n' ∧ I64 d') :
    Calls Try.prog 4 #[fracv n d, fracv n' d'] w (fun e w' => e = .returned (.bool true) ∧ Below w.heap.size w w') := by
  refine Calls.mono (S4_calls n d n' d' w (fun v w' => v = .bool true ∧ bel w w') ?_) (by rintro e w' ⟨v, rfl, rfl, hb⟩; exact ⟨rfl, hb⟩)
  unfold S4
  refine wr_box fun x1 w1 X1 h _ _ => ?_
  refine wr_box fun x3 w2 X3 h' _ _ => ?_
  replace h := h.trans h'; replace X1 := X1.up h'; clear h'
  refine rd_boxN X1 (by kernel_rfl) rfl ?_
  refine rd_boxN X3 (by kernel_rfl) rfl ?_
  refine call_mono (opA n d n' d' _ a b) ?_
  rintro (s : FE) w3 ⟨hs, h'⟩
  replace h := h.trans h'; replace X1 := X1.up h'; replace X3 := X3.up h'; clear h'
  refine wr_alloc (z := fracv 0 0) (by kernel_rfl) fun x9 w4 Y h' hy _ => ?_
  have hne : w.heap.size ≤ x9.block := by rw [hy]; exact h.size
  have l1 := X1.lt
  have l3 := X3.lt
  have n1 : some x1.block ≠ some x9.block := by intro e; injection e; omega
  have n3 : some x3.block ≠ some x9.block := by intro e; injection e; omega
  replace h := h.trans h'; replace X1 := X1.up h'; replace X3 := X3.up h'; clear h'
  refine wu_box Y (by kernel_rfl) (Nat.le_refl 2) rfl fun w5 Y h' _ => ?_
  replace h := h.grownAt h' hne
  replace X1 := X1.grown h' n1
  replace X3 := X3.grown h' n3
  clear h'
  refine rd_boxN X1 (by kernel_rfl) rfl ?_
  refine rd_boxN X3 (by kernel_rfl) rfl ?_
  refine call_mono (add10 n d n' d' _ a b) ?_
  rintro (t : FE) w6 ⟨ht, h'⟩
  have e : t = s := by rw [ht, hs]
  subst e
  replace h := h.trans h'; replace X1 := X1.up h'; replace X3 := X3.up h'; replace Y := Y.up h'; clear h'
  refine wr_alloc (z := fracv 0 0) (by kernel_rfl) fun x16 w7 Z h' hz _ => ?_
  have hne2 : w.heap.size ≤ x16.block := by rw [hz]; exact h.size
  have l1' := X1.lt
  have l3' := X3.lt
  have l9' := Y.lt
  have m1 : some x1.block ≠ some x16.block := by intro e; injection e; omega
  have m3 : some x3.block ≠ some x16.block := by intro e; injection e; omega
  have m9 : some x9.block ≠ some x16.block := by intro e; injection e; omega
  have m16 : some x16.block ≠ some x9.block := fun e => m9 e.symm
  replace h := h.trans h'; replace X1 := X1.up h'; replace X3 := X3.up h'; replace Y := Y.up h'; clear h'
  refine wu_box Z (by kernel_rfl) (Nat.le_refl 2) rfl fun w8 Z h' _ => ?_
  replace h := h.grownAt h' hne2
  replace X1 := X1.grown h' m1
  replace X3 := X3.grown h' m3
  replace Y := Y.grown h' m9
  clear h'
  refine drw_mk fun w9 h' _ => ?_
  replace h := h.trans h'; replace X1 := X1.up h'; replace X3 := X3.up h'; replace Y := Y.up h'; replace Z := Z.up h'; clear h'
  refine flEx_mk (fun _ _ v _ => v = .bool (decide (IsFrac n d))) (fun _ _ _ _ _ h _ => h) ?_
  refine rd_boxN Y (by kernel_rfl) rfl ?_
  refine rd_boxN Z (by kernel_rfl) rfl ?_
  refine rd_ne_same (br_f rfl (br_no ?_))
  refine rd_boxN X1 (by kernel_rfl) rfl ?_
  refine flc_mk (fun w' _ _ => call_mono (callB (valid10f n d w' a.1 a.2)) fun x w'' ⟨q, hb⟩ => ⟨hb, by rw [q]⟩) (fun x29 => ?_)
  refine rd_boxN X1 (by kernel_rfl) rfl ?_
  refine flend_mk fun w10 h' hp => ?_
  have hx : x29 = decide (IsFrac n d) := by have := hp.1; injection this
  replace h := h.trans h'; replace X1 := X1.up h'; replace X3 := X3.up h'; replace Y := Y.up h'; replace Z := Z.up h'; clear h'
  refine call_mono (callB (valid10 n d w10 a.1.1 a.1.2 a.2.1 a.2.2)) ?_
  rintro x w11 ⟨hx', h'⟩
  replace h := h.trans h'; replace X1 := X1.up h'; replace X3 := X3.up h'; replace Y := Y.up h'; replace Z := Z.up h'; clear h'
  refine br_f (by rw [hx, hx']; simp) ?_
  refine rd_boxN X1 (by kernel_rfl) rfl ?_
  refine rd_boxN X3 (by kernel_rfl) rfl ?_
  refine call_mono (opS n d n' d' _ a b) ?_
  rintro (s : FE) w12 ⟨hs, h'⟩
  replace h := h.trans h'; replace X1 := X1.up h'; replace X3 := X3.up h'; replace Y := Y.up h'; replace Z := Z.up h'; clear h'
  refine wu_box Y (by kernel_rfl) (Nat.le_refl 2) rfl fun w13 Y h' _ => ?_
  replace h := h.grownAt h' hne
  replace X1 := X1.grown h' n1
  replace X3 := X3.grown h' n3
  replace Z := Z.grown h' m16
  clear h'
  refine rd_boxN X1 (by kernel_rfl) rfl ?_
  refine rd_boxN X3 (by kernel_rfl) rfl ?_
  refine call_mono (sub10 n d n' d' _ a b) ?_
  rintro (t : FE) w14 ⟨ht, h'⟩
  have e : t = s := by rw [ht, hs]
  subst e
  replace h := h.trans h'; replace X1 := X1.up h'; replace X3 := X3.up h'; replace Y := Y.up h'; replace Z := Z.up h'; clear h'
  refine wu_box Z (by kernel_rfl) (Nat.le_refl 2) rfl fun w15 Z h' _ => ?_
  replace h := h.grownAt h' hne2
  replace X1 := X1.grown h' m1
  replace X3 := X3.grown h' m3
  replace Y := Y.grown h' m9
  clear h'
  refine rd_boxN Y (by kernel_rfl) rfl ?_
  refine rd_boxN Z (by kernel_rfl) rfl ?_
  refine rd_ne_same (br_f rfl (br_no ?_))
  refine rd_boxN X1 (by kernel_rfl) rfl ?_
  refine rd_boxN X3 (by kernel_rfl) rfl ?_
  refine call_mono (opM n d n' d' _ a b) ?_
  rintro (s : FE) w16 ⟨hs, h'⟩
  replace h := h.trans h'; replace X1 := X1.up h'; replace X3 := X3.up h'; replace Y := Y.up h'; replace Z := Z.up h'; clear h'
  refine wu_box Y (by kernel_rfl) (Nat.le_refl 2) rfl fun w17 Y h' _ => ?_
  replace h := h.grownAt h' hne
  replace X1 := X1.grown h' n1
  replace X3 := X3.grown h' n3
  replace Z := Z.grown h' m16
  clear h'
  refine rd_boxN X1 (by kernel_rfl) rfl ?_
  refine rd_boxN X3 (by kernel_rfl) rfl ?_
  refine call_mono (mul10f n d n' d' _ a b) ?_
  rintro (t : FE) w18 ⟨ht, h'⟩
  have e : t = s := by rw [ht, hs]
  subst e
  replace h := h.trans h'; replace X1 := X1.up h'; replace X3 := X3.up h'; replace Y := Y.up h'; replace Z := Z.up h'; clear h'
  refine wu_box Z (by kernel_rfl) (Nat.le_refl 2) rfl fun w19 Z h' _ => ?_
  replace h := h.grownAt h' hne2
  replace X1 := X1.grown h' m1
  replace X3 := X3.grown h' m3
  replace Y := Y.grown h' m9
  clear h'
  refine rd_boxN Y (by kernel_rfl) rfl ?_
  refine rd_boxN Z (by kernel_rfl) rfl ?_
  refine rd_ne_same (br_f rfl (br_no ?_))
  refine rd_boxN X1 (by kernel_rfl) rfl ?_
  refine rd_boxN X3 (by kernel_rfl) rfl ?_
  refine call_mono (opD n d n' d' _ a b) ?_
  rintro (s : FE) w20 ⟨hs, h'⟩
  replace h := h.trans h'; replace X1 := X1.up h'; replace X3 := X3.up h'; replace Y := Y.up h'; replace Z := Z.up h'; clear h'
  refine wu_box Y (by kernel_rfl) (Nat.le_refl 2) rfl fun w21 Y h' _ => ?_
  replace h := h.grownAt h' hne
  replace X1 := X1.grown h' n1
  replace X3 := X3.grown h' n3
  replace Z := Z.grown h' m16
  clear h'
  refine rd_boxN X1 (by kernel_rfl) rfl ?_
  refine rd_boxN X3 (by kernel_rfl) rfl ?_
  refine call_mono (div10f n d n' d' _ a b) ?_
  rintro (t : FE) w22 ⟨ht, h'⟩
  have e : t = s := by rw [ht, hs]
  subst e
  replace h := h.trans h'; replace X1 := X1.up h'; replace X3 := X3.up h'; replace Y := Y.up h'; replace Z := Z.up h'; clear h'
  refine wu_box Z (by kernel_rfl) (Nat.le_refl 2) rfl fun w23 Z h' _ => ?_
  replace h := h.grownAt h' hne2
  replace X1 := X1.grown h' m1
  replace X3 := X3.grown h' m3
  replace Y := Y.grown h' m9
  clear h'
  refine rd_boxN Y (by kernel_rfl) rfl ?_
  refine rd_boxN Z (by kernel_rfl) rfl ?_
  refine rd_eq_same (br_t rfl ?_)
  exact ⟨by simp, h⟩
end Go.Proofs.Ytajpdnphamomjaa

/- The walk of FractionLimits. -/

namespace Go.Proofs.Ytajpdnphamomjaa
open Go.RowKit Go.Q Go.Q.Num Go.V

theorem tyFracs : TyS Try.prog 33 23 (fracv 0 0) 2 16 := ⟨by kernel_rfl, by kernel_rfl⟩
theorem agFrac : aggOf Try.prog 23 2 = true := by kernel_rfl
abbrev encF (p : Int × Int) : List Value := [.int .i64 p.1, .int .i64 p.2]
theorem encF_len (p : Int × Int) : (encF p).length = 2 := rfl
theorem rsign_norm (r : Rat) (n d : Int) (h0 : d ≠ 0) (hr : r = Rat.divInt n d) (hd : 0 < d) : rsign r = cmpi n 0 := by
  obtain ⟨hq, h1⟩ := of_norm (n := n) h0
  obtain ⟨m1, m2, m3⟩ := low_num (decide (n < 0) != decide (d < 0)) n.natAbs d.natAbs hq
  rw [h1, ← hr] at m1 m3
  have hdd : decide (d < 0) = false := decide_eq_false (by omega)
  rw [hdd] at m3
  have hg : 0 < Nat.gcd n.natAbs d.natAbs := Nat.gcd_pos_of_pos_right _ (by omega)
  unfold rsign cmpi
  rcases Int.lt_trichotomy n 0 with q | q | q
  · have : decide (r.num < 0) = true := by
      rw [m3, decide_eq_true q, decide_eq_true (show n.natAbs ≠ 0 by omega)]; rfl
    rw [if_pos (of_decide_eq_true this), if_pos q]
  · subst q
    have e : r.num = 0 := by
      have : (0 : Int).natAbs = 0 := rfl
      rw [this, Nat.zero_div] at m1; omega
    have e' : r = 0 := Rat.num_eq_zero.1 e
    rw [e']; rfl
  · have : decide (r.num < 0) = false := by
      rw [m3, decide_eq_false (show ¬ n < 0 by omega)]; rfl
    have hn := of_decide_eq_false this
    have : 0 < n.natAbs / Nat.gcd n.natAbs d.natAbs := Nat.div_pos (Nat.gcd_le_left _ (by omega)) hg
    have e' : r ≠ 0 := by
      rintro rfl
      have : (0 : Rat).num.natAbs = 0 := rfl
      omega
    rw [if_neg hn, if_neg (fun h => e' (Rat.num_eq_zero.1 h)), if_neg (show ¬ n < 0 by omega), if_pos q]
theorem cmp_same (n d n' d' : Int) : (if IsFrac n d ∧ IsFrac n' d' then rsign (ratv n d + -ratv n' d') else 0) = compv n d n' d' := by
  unfold compv
  by_cases h : IsFrac n d ∧ IsFrac n' d'
  · rw [if_pos h, if_pos h]
    obtain ⟨h1, h2⟩ := h
    have hdd : 0 < d * d' := Int.mul_pos (by have := h1.1; omega) (by have := h2.1; omega)
    have e : ratv n d + -ratv n' d' = Rat.divInt (n * d' + -n' * d) (d * d') := by
      rw [← ratv_neg h2, ratv_div h1, ratv_div (frac_neg h2), add_div h1 (frac_neg h2)]
    rw [rsign_norm _ _ _ (by omega) e hdd, Int.neg_mul]
    unfold cmpi
    split <;> split <;> (try split) <;> (try split) <;> omega
  · rw [if_neg h, if_neg h]
theorem compF' (n d n' d' : Int) (w : World) (a : I64 n ∧ I64 d) (b : I64 n' ∧ I64 d') : call Try.prog 16 [fracv n d, fracv n' d'] (.one (.one (.int .i64))) w (fun x w' => x = compv n d n' d' ∧ bel w w') :=
  callI (compF n d n' d' w a.1.1 a.1.2 a.2.1 a.2.2 b.1.1 b.1.2 b.2.1 b.2.2)
theorem cmp10' (n d n' d' : Int) (w : World) (a : I64 n ∧ I64 d) (b : I64 n' ∧ I64 d') : call Try.prog 27 [fracv n d, fracv n' d'] (.one (.one (.int .i64))) w (fun x w' => x = compv n d n' d' ∧ bel w w') :=
  call_mono (cmp10 n d n' d' w a b) fun x w' ⟨h, hb⟩ => ⟨by rw [h]; exact cmp_same n d n' d', hb⟩
theorem fe_inj {x : (Int × Int × Unit) × Int × Unit} {y : FE} (h : Value.tuple #[.agg #[.int .i64 x.1.1, .int .i64 x.1.2.1], .int .i64 x.2.1] = rFE.val y) : x = y := by
  obtain ⟨⟨a, b, _⟩, c, _⟩ := x
  obtain ⟨⟨a', b', _⟩, c', _⟩ := y
  have h : Value.tuple #[.agg #[.int .i64 a, .int .i64 b], .int .i64 c] = Value.tuple #[.agg #[.int .i64 a', .int .i64 b'], .int .i64 c'] := h
  simp at h
  obtain ⟨⟨rfl, rfl⟩, rfl⟩ := h
  rfl

/-- 'a, e := op(l[i], l[k])' -/
theorem pairOp {f : FuncId} {T : FE} {sa : Option Addr} {sn sc i k : Nat} {I K : Int} {L : List (Int × Int)} {p q : Int × Int} {w : World} {k' : FE → Addr → World → Prop} (hf : ∀ w', call Try.prog f [fracv p.1 p.2, fracv q.1 q.2] rFE w' (fun x w'' => x = T ∧ bel w' w''))
    (H : Sl w sa sn sc 2 (L.flatMap encF)) (hI : I = (i : Int)) (hK : K = (k : Int)) (hi : L[i]? = some p) (hk : L[k]? = some q)
    (hg : ∀ ad w', bel w w' → Box w' ad [.int .i64 T.1.1, .int .i64 T.1.2.1] → k' T ad w') :
    drw w fun w24 => flEx fun F25 =>
      rdp Try.prog (Instr.indexAt 33 (.slice sa sn sc) (.int .i64 I)) (.one .addr) fun (x26 : Addr) =>
      rd Try.prog (Instr.loadAt 23 (.pointer (some x26))) (.agg [(.int .i64), (.int .i64)]) w24 fun (x27 : (Int × Int × Unit)) =>
      rdp Try.prog (Instr.indexAt 33 (.slice sa sn sc) (.int .i64 K)) (.one .addr) fun (x28 : Addr) =>
      rd Try.prog (Instr.loadAt 23 (.pointer (some x28))) (.agg [(.int .i64), (.int .i64)]) w24 fun (x29 : (Int × Int × Unit)) =>
      flc bel w24 (fun _w31 => True) (fun (w30 : World) =>
        call Try.prog f [(.agg #[(.int .i64 x27.1), (.int .i64 x27.2.1)]), (.agg #[(.int .i64 x29.1), (.int .i64 x29.2.1)])] (.many [(.agg [(.int .i64), (.int .i64)]), (.one (.int .i64))]) w30 fun (x32 : ((Int × Int × Unit) × Int × Unit)) (w33 : World) =>
        (bel w30 w33 ∧ F25 8 [(.agg #[(.int .i64 x27.1), (.int .i64 x27.2.1)]), (.agg #[(.int .i64 x29.1), (.int .i64 x29.2.1)])] (.tuple #[(.agg #[(.int .i64 x32.1.1), (.int .i64 x32.1.2.1)]), (.int .i64 x32.2.1)]) w33))
      fun (x34 : ((Int × Int × Unit) × Int × Unit)) =>
      flc bel w24 (fun _w36 => True) (fun (w35 : World) =>
        wr Try.prog (Instr.alloc 23 true (.tuple #[])) (.one .addr) w35 fun (x37 : Addr) (w38 : World) =>
        (bel w35 w38 ∧ F25 12 [] (.pointer (some x37)) w38))
      fun (x39 : Addr) =>
      flend bel w24 (fun w41 => F25 12 [] (.pointer (some x39)) w41 ∧ F25 8 [(.agg #[(.int .i64 x27.1), (.int .i64 x27.2.1)]), (.agg #[(.int .i64 x29.1), (.int .i64 x29.2.1)])] (.tuple #[(.agg #[(.int .i64 x34.1.1), (.int .i64 x34.1.2.1)]), (.int .i64 x34.2.1)]) w41 ∧ True) fun w40 =>
      wu Try.prog (Instr.storeAt 23 (.pointer (some x39)) (.agg #[(.int .i64 x34.1.1), (.int .i64 x34.1.2.1)])) w40 fun (w42 : World) => k' x34 x39 w42 := by
  refine drw_mk fun w1 h _ => ?_
  have H1 := H.kept h
  refine flEx_mk (fun i _ v w' => match i with
    | 8 => v = rFE.val T
    | 12 => ∃ ad, v = .pointer (some ad) ∧ Box w' ad [.int .i64 0, .int .i64 0] ∧ w.heap.size ≤ ad.block
    | _ => True) (fun i _ _ _ _ h hb => by
      revert h
      split <;> intro h <;> first | exact h | (obtain ⟨ad, k1, k2, k3⟩ := h; exact ⟨ad, k1, k2.up hb, k3⟩)) ?_
  refine at_agg tyFracs agFrac encF_len (by omega) H1 hI hi rfl ?_
  refine at_agg tyFracs agFrac encF_len (by omega) H1 hK hk rfl ?_
  refine flc_mk (fun w' _ _ => call_mono (hf w') fun x w'' ⟨q, hb⟩ => ⟨hb, by rw [q]; rfl⟩) (fun x34 => ?_)
  refine flc_mk (fun w' hb _ => wr_alloc (z := fracv 0 0) (by kernel_rfl) fun ad w'' Z hb' hz _ => ⟨hb', ad, rfl, Z, by rw [hz]; exact (h.trans hb).size⟩) (fun x39 => ?_)
  refine flend_mk fun w2 h' hp => ?_
  obtain ⟨⟨ad, k1, Z, k3⟩, k4, _⟩ := hp
  injection k1 with k1; injection k1 with k1; subst k1
  have e := fe_inj k4
  subst e
  refine wu_box Z (by kernel_rfl) (Nat.le_refl 2) rfl fun w3 Z hg3 _ => ?_
  exact hg _ _ ((h.trans h').grownAt hg3 k3) Z

theorem i64f {n : Int} (h1 : -100000000000000000 ≤ n) (h2 : n ≤ 100000000000000000) : I64 n := ⟨by omega, by omega⟩
set_option maxHeartbeats 1600000 in
theorem limits (n m : Int) (w : World) (hn : 0 ≤ n ∧ n ≤ 4294967295) (hm : 0 ≤ m ∧ m ≤ 4294967295) :
    Calls Try.prog 5 #[.int .u32 n, .int .u32 m] w (fun e w' => e = .returned (.bool true) ∧ Below w.heap.size w w') := by
  refine Calls.mono (S5_calls n m w (fun v w' => v = .bool true ∧ bel w w') ?_) (by rintro e w' ⟨v, rfl, rfl, hb⟩; exact ⟨rfl, hb⟩)
  unfold S5
  refine z_i64 (by omega) (z_i64 (by omega) ?_)
  obtain ⟨b, hb⟩ : ∃ b, b = 100000000000000000 - n := ⟨_, rfl⟩
  obtain ⟨s, hs⟩ : ∃ s, s = 100000000000000000 - m := ⟨_, rfl⟩
  rw [← hb]
  refine wr_alloc (z := fracv 0 0) (by kernel_rfl) fun x3 w1 X h hx3 _ => ?_
  refine wu_box X (by kernel_rfl) (Nat.le_refl 2) rfl fun w2 X h' _ => ?_
  replace h := h.grownAt h' (by omega)
  clear h'
  refine z_i64 (by omega) (z_i64 (by omega) ?_)
  rw [← hs]
  refine wr_alloc (z := fracv 0 0) (by kernel_rfl) fun x8 w3 Y h' hx8 _ => ?_
  have hne : w.heap.size ≤ x8.block := by rw [hx8]; exact h.size
  have l3 := X.lt
  replace h := h.trans h'; replace X := X.up h'; clear h'
  refine wu_box Y (by kernel_rfl) (Nat.le_refl 2) rfl fun w4 Y h' _ => ?_
  replace h := h.grownAt h' hne
  replace X := X.grown h' (by intro e; injection e; omega)
  clear h'
  refine rd_boxN X (by kernel_rfl) rfl ?_
  refine rd_boxN Y (by kernel_rfl) rfl ?_
  refine rd_box0 (by kernel_rfl) X rfl rfl ?_
  refine z_i64 (by omega) ?_
  refine rd_box0 (by kernel_rfl) X rfl rfl ?_
  obtain ⟨L, hL⟩ : ∃ L : List (Int × Int), L = [(b, 1), (1, s), (0 - b, 1), (1, b)] := ⟨_, rfl⟩
  refine wr_lit tyFracs (L.flatMap encF).toArray (by rw [hL]; kernel_rfl) (by omega) (by omega) (by rw [hL]; rfl) (by unfold maxLen; omega) fun ad w5 O h' had _ => ?_
  have H : Sl w5 (some ad) 4 4 2 (L.flatMap encF) := (O _ (Nat.le_refl _)).sl
  replace h := h.trans h'; clear h'
  have hlen : L.length = 4 := by rw [hL]; rfl
  have hb64 : ∀ (j : Nat) (p : Int × Int), L[j]? = some p → I64 p.1 ∧ I64 p.2 := by
    intro j p hp
    have hj := (List.getElem?_eq_some_iff.1 hp).1
    rw [hL] at hp
    match j, hp with
    | 0, hp => simp at hp; subst hp; exact ⟨⟨by dsimp only; omega, by dsimp only; omega⟩, ⟨by dsimp only; omega, by dsimp only; omega⟩⟩
    | 1, hp => simp at hp; subst hp; exact ⟨⟨by dsimp only; omega, by dsimp only; omega⟩, ⟨by dsimp only; omega, by dsimp only; omega⟩⟩
    | 2, hp => simp at hp; subst hp; exact ⟨⟨by dsimp only; omega, by dsimp only; omega⟩, ⟨by dsimp only; omega, by dsimp only; omega⟩⟩
    | 3, hp => simp at hp; subst hp; exact ⟨⟨by dsimp only; omega, by dsimp only; omega⟩, ⟨by dsimp only; omega, by dsimp only; omega⟩⟩
    | j + 4, hp => simp at hp
  clear hL O
  refine loop_gh (G := Nat) (fun i s w' => s.1 = (i : Int) ∧ i ≤ 4 ∧ bel w w' ∧ Sl w' (some ad) 4 4 2 (L.flatMap encF)) (fun i => 4 - i) 0 ⟨rfl, by omega, h, H⟩ ?_
  rintro i ⟨s1, _⟩ w6 ⟨hi, hi4, h, H⟩ again hag _
  have hi' : s1 = (i : Int) := hi
  subst hi'
  refine br_dec (fun e1 => ?_) (fun e1 => ⟨rfl, h⟩)
  dsimp only at e1
  obtain ⟨p, hp⟩ : ∃ p, L[i]? = some p := ⟨_, List.getElem?_eq_getElem (by omega)⟩
  have ap := hb64 i p hp
  refine loop_gh (G := Nat) (fun k s w' => s.1 = (k : Int) ∧ k ≤ 4 ∧ bel w w' ∧ Sl w' (some ad) 4 4 2 (L.flatMap encF)) (fun k => 4 - k) 0 ⟨rfl, by omega, h, H⟩ ?_
  rintro k ⟨s2, _⟩ w7 ⟨hk, hk4, h, H⟩ again2 hag2 _
  have hk' : s2 = (k : Int) := hk
  subst hk'
  refine br_dec (fun e2 => ?_) (fun e2 => ?_)
  · dsimp only at e2
    obtain ⟨q, hq⟩ : ∃ q, L[k]? = some q := ⟨_, List.getElem?_eq_getElem (by omega)⟩
    have aq := hb64 k q hq
    refine pairOp (fun w' => opM p.1 p.2 q.1 q.2 w' ap aq) H rfl rfl hp hq fun x39 w8 h' A => ?_
    replace H := H.kept h'
    replace h := h.trans h'; clear h'
    refine pairOp (fun w' => mul10f p.1 p.2 q.1 q.2 w' ap aq) H rfl rfl hp hq fun x58 w9 h' A' => ?_
    replace H := H.kept h'
    replace h := h.trans h'; replace A := A.up h'; clear h'
    refine pairOp (fun w' => opA p.1 p.2 q.1 q.2 w' ap aq) H rfl rfl hp hq fun x77 w10 h' C => ?_
    replace H := H.kept h'
    replace h := h.trans h'; replace A := A.up h'; replace A' := A'.up h'; clear h'
    refine pairOp (fun w' => add10 p.1 p.2 q.1 q.2 w' ap aq) H rfl rfl hp hq fun x96 w11 h' C' => ?_
    replace H := H.kept h'
    replace h := h.trans h'; replace A := A.up h'; replace A' := A'.up h'; replace C := C.up h'; clear h'
    refine drw_mk fun w12 h' _ => ?_
    replace H := H.kept h'
    replace h := h.trans h'; replace A := A.up h'; replace A' := A'.up h'; replace C := C.up h'; replace C' := C'.up h'; clear h'
    refine flEx_mk (fun _ _ v _ => v = .int .i64 (compv p.1 p.2 q.1 q.2)) (fun _ _ _ _ _ h _ => h) ?_
    refine rd_boxN A (by kernel_rfl) rfl ?_
    refine rd_boxN A' (by kernel_rfl) rfl ?_
    refine rd_ne_same (br_f rfl (br_no ?_))
    refine rd_boxN C (by kernel_rfl) rfl ?_
    refine rd_boxN C' (by kernel_rfl) rfl ?_
    refine rd_ne_same (br_f rfl (br_no ?_))
    refine at_agg tyFracs agFrac encF_len (by omega) H rfl hp rfl ?_
    refine at_agg tyFracs agFrac encF_len (by omega) H rfl hq rfl ?_
    refine flc_mk (fun w' _ _ => call_mono (compF' p.1 p.2 q.1 q.2 w' ap aq) fun x w'' ⟨e, hb⟩ => ⟨hb, by rw [e]⟩) (fun x116 => ?_)
    refine at_agg tyFracs agFrac encF_len (by omega) H rfl hp rfl ?_
    refine at_agg tyFracs agFrac encF_len (by omega) H rfl hq rfl ?_
    refine flend_mk fun w13 h' hpp => ?_
    have e3 : x116 = compv p.1 p.2 q.1 q.2 := by have := hpp.1; injection this
    replace H := H.kept h'
    replace h := h.trans h'; clear h'
    refine call_mono (cmp10' p.1 p.2 q.1 q.2 w13 ap aq) ?_
    rintro x w14 ⟨e4, h'⟩
    replace H := H.kept h'
    replace h := h.trans h'; clear h'
    refine br_f (by rw [e3, e4]; simp) ?_
    refine z_i64 (by dsimp only; omega) ?_
    exact hag2 (k + 1) _ _ ⟨by dsimp only; omega, by omega, h, H⟩ (by omega)
  · refine z_i64 (by dsimp only; omega) ?_
    exact hag (i + 1) _ _ ⟨by dsimp only; omega, by omega, h, H⟩ (by omega)
end Go.Proofs.Ytajpdnphamomjaa

/- The calculus, eleventh part: arrays, cells inside a block. -/

namespace Go.V
open Go Go.RowKit Go.Q

/-- an array type: its elements' type, how many, their cells -/
structure TyA (P : Program) (t e : TypeId) (n sz : Nat) : Prop where
  ht : P.underlying t = some (.array n e)
  hs : sizeIs P e sz = true
theorem idx_arr {P : Program} {t e : TypeId} {n sz : Nat} (T : TyA P t e n sz) {ad : Addr} {j : Nat} {k : IntKind} {i : Int} {K : Addr → Prop} (hj : i = (j : Int)) (h : j < n) (hk : K (ad.add (j * sz))) :
    rdp P (Instr.indexAt t (.pointer (some ad)) (.int k i)) (.one .addr) K := by
  subst hj
  refine ⟨ad.add (j * sz), fun w => ?_, hk⟩
  unfold Instr.indexAt asIntOf Instr.sureAddr
  simp only [Sem.run_bind, Sem.run_pure, Result.andThen_ok, run_underlying T.ht]
  rw [if_pos ⟨by omega, by omega⟩]
  simp only [Sem.run_bind, run_sizeOf T.hs, Result.andThen_ok, Int.toNat_natCast]
  rfl
theorem storeCells_add {P : Program} {a : Addr} (m : Nat) : ∀ (vs : List Value) (i : Nat) (w : World), (storeCells (a.add m) vs i).run P w = (storeCells a vs (m + i)).run P w
  | [], _, _ => rfl
  | v :: vs, i, w => by
    simp only [storeCells, Sem.run_bind, add_add]
    congr 1
    funext u w'
    exact storeCells_add m vs (i + 1) w'
/-- several cells inside a block are written -/
theorem wu_boxm {P : Program} {w : World} {t : TypeId} {a : Addr} {m : Nat} {v : Value} {cs : List Value} {k : World → Prop} (hb : Box w a cs) (ht : sizeIs P t v.cells.size = true) (hl : m + v.cells.size ≤ cs.length) (hp : plainV v.cells.toList = true)
    (hk : ∀ w', Box w' a (putAt cs m v.cells.toList) → w.grownBy w' (some a.block) → w'.heap.size = w.heap.size → k w') : wu P (Instr.storeAt t (.pointer (some (a.add m))) v) w k := by
  obtain ⟨w', h1, h2, h3, h4⟩ := run_storeCells (P := P) v.cells.toList m w cs hb (by simpa using hl) hp
  refine ⟨w', ?_, hk w' h2 h3 h4⟩
  unfold Instr.storeAt Instr.sureAddr storeVar
  simp only [Sem.run_bind, Sem.run_pure, Result.andThen_ok, run_sizeOf ht]
  simp only [ne_eq, not_true_eq_false, if_false]
  rw [storeCells_add]; exact h1
/-- several cells inside a block are read -/
theorem rd_boxm {P : Program} {t : TypeId} {l : List Sh} {w : World} {a : Addr} {m : Nat} {cs vs : List Value} {x : LT l} {k : LT l → Prop} (h : Box w a cs) (ht : aggOf P t vs.length = true) (hv : ∀ j v, vs[j]? = some v → cs[m + j]? = some v) (hx : Lget l vs = some x) (hk : k x) :
    rd P (Instr.loadAt t (.pointer (some (a.add m)))) (.agg l) w k := rd_cells ht (fun j v hj => by rw [add_add]; exact h.cell (hv j v hj)) hx hk
end Go.V

/- The conditions of functions, printed by our tool; each is checked against the code by the kernel. -/



namespace Go.Proofs
open Go Go.V Go.RowKit
/-- querylab/querylablaw10.FractionField -/
def S6 (l_0 : Int) (l_1 : Int) (l_2 : Int) (l_3 : Int) (l_4 : Int) (l_5 : Int) (w0 : World) (R : Value → World → Prop) : Prop :=
 wr Try.prog (Instr.box 36 (.agg #[(.int .i16 l_0), (.int .i16 l_1), (.int .i16 l_2), (.int .i16 l_3), (.int .i16 l_4), (.int .i16 l_5)])) (.one .addr) w0 fun (x1 : Addr) (w2 : World) =>
 wr Try.prog (Instr.alloc 37 true (.tuple #[])) (.one .addr) w2 fun (x3 : Addr) (w4 : World) =>
 loop (T := (Int × Unit)) (0, ()) w4 fun (again5 : (Int × Unit) → World → Prop) (s6 : (Int × Unit)) w7 => ∀ _ : Nat → Value,
 br (decide (s6.1 < 3)) (join (T := (Unit)) (fun (_s9 : (Unit)) w10 => ∀ _ : Nat → Value,
 z (IntKind.wrap .i64 (s6.1 + 1)) fun (z11 : Int) =>
 again5 (z11, ()) w10)
  fun (K8 : (Unit) → World → Prop) =>
 z (IntKind.wrap .i64 (2 * s6.1)) fun (z12 : Int) =>
 z (IntKind.wrap .i64 (z12 + 1)) fun (z13 : Int) =>
 rdp Try.prog (Instr.indexAt 36 (.pointer (some x1)) (.int .i64 z13)) (.one .addr) fun (x14 : Addr) =>
 rd Try.prog (Instr.loadAt 35 (.pointer (some x14))) (.one (.int .i16)) w7 fun (x15 : Int) =>
 z (IntKind.wrap .i64 x15) fun (z16 : Int) =>
 join (T := (Int × Unit)) (fun (s18 : (Int × Unit)) w19 => ∀ _ : Nat → Value,
 z (IntKind.wrap .i64 (2 * s6.1)) fun (z20 : Int) =>
 rdp Try.prog (Instr.indexAt 36 (.pointer (some x1)) (.int .i64 z20)) (.one .addr) fun (x21 : Addr) =>
 rd Try.prog (Instr.loadAt 35 (.pointer (some x21))) (.one (.int .i16)) w19 fun (x22 : Int) =>
 z (IntKind.wrap .i64 x22) fun (z23 : Int) =>
 call Try.prog 28 [(.int .i64 z23), (.int .i64 s18.1)] (.many [(.agg [(.int .i64), (.int .i64)]), (.one (.int .i64))]) w19 fun (x24 : ((Int × Int × Unit) × Int × Unit)) (w25 : World) =>
 wr Try.prog (Instr.alloc 23 true (.tuple #[])) (.one .addr) w25 fun (x26 : Addr) (w27 : World) =>
 wu Try.prog (Instr.storeAt 23 (.pointer (some x26)) (.agg #[(.int .i64 x24.1.1), (.int .i64 x24.1.2.1)])) w27 fun (w28 : World) =>
 br (x24.2.1 != 0) (R (.bool false) w28)
 (rd Try.prog (Instr.loadAt 23 (.pointer (some x26))) (.agg [(.int .i64), (.int .i64)]) w28 fun (x29 : (Int × Int × Unit)) =>
 call Try.prog 15 [(.agg #[(.int .i64 x29.1), (.int .i64 x29.2.1)])] (.one (.one .bool)) w28 fun (x30 : Bool) (w31 : World) =>
 br (!x30) (R (.bool false) w31)
 (rd Try.prog (Instr.loadAt 23 (.pointer (some x26))) (.agg [(.int .i64), (.int .i64)]) w31 fun (x32 : (Int × Int × Unit)) =>
 rdp Try.prog (Instr.indexAt 37 (.pointer (some x3)) (.int .i64 s6.1)) (.one .addr) fun (x33 : Addr) =>
 wu Try.prog (Instr.storeAt 23 (.pointer (some x33)) (.agg #[(.int .i64 x32.1), (.int .i64 x32.2.1)])) w31 fun (w34 : World) =>
 K8 (()) w34)))
  fun (K17 : (Int × Unit) → World → Prop) =>
 br (z16 == 0) (K17 (1, ()) w7)
 (K17 (z16, ()) w7))
 (rdp Try.prog (Instr.indexAt 37 (.pointer (some x3)) (.int .i64 0)) (.one .addr) fun (x35 : Addr) =>
 rd Try.prog (Instr.loadAt 23 (.pointer (some x35))) (.agg [(.int .i64), (.int .i64)]) w7 fun (x36 : (Int × Int × Unit)) =>
 rdp Try.prog (Instr.indexAt 37 (.pointer (some x3)) (.int .i64 1)) (.one .addr) fun (x37 : Addr) =>
 rd Try.prog (Instr.loadAt 23 (.pointer (some x37))) (.agg [(.int .i64), (.int .i64)]) w7 fun (x38 : (Int × Int × Unit)) =>
 call Try.prog 18 [(.agg #[(.int .i64 x36.1), (.int .i64 x36.2.1)]), (.agg #[(.int .i64 x38.1), (.int .i64 x38.2.1)])] (.many [(.agg [(.int .i64), (.int .i64)]), (.one (.int .i64))]) w7 fun (x39 : ((Int × Int × Unit) × Int × Unit)) (w40 : World) =>
 wr Try.prog (Instr.alloc 23 true (.tuple #[])) (.one .addr) w40 fun (x41 : Addr) (w42 : World) =>
 wu Try.prog (Instr.storeAt 23 (.pointer (some x41)) (.agg #[(.int .i64 x39.1.1), (.int .i64 x39.1.2.1)])) w42 fun (w43 : World) =>
 rd Try.prog (Instr.loadAt 23 (.pointer (some x41))) (.agg [(.int .i64), (.int .i64)]) w43 fun (x44 : (Int × Int × Unit)) =>
 rdp Try.prog (Instr.indexAt 37 (.pointer (some x3)) (.int .i64 2)) (.one .addr) fun (x45 : Addr) =>
 rd Try.prog (Instr.loadAt 23 (.pointer (some x45))) (.agg [(.int .i64), (.int .i64)]) w43 fun (x46 : (Int × Int × Unit)) =>
 call Try.prog 23 [(.agg #[(.int .i64 x44.1), (.int .i64 x44.2.1)]), (.agg #[(.int .i64 x46.1), (.int .i64 x46.2.1)])] (.many [(.agg [(.int .i64), (.int .i64)]), (.one (.int .i64))]) w43 fun (x47 : ((Int × Int × Unit) × Int × Unit)) (w48 : World) =>
 wr Try.prog (Instr.alloc 23 true (.tuple #[])) (.one .addr) w48 fun (x49 : Addr) (w50 : World) =>
 wu Try.prog (Instr.storeAt 23 (.pointer (some x49)) (.agg #[(.int .i64 x47.1.1), (.int .i64 x47.1.2.1)])) w50 fun (w51 : World) =>
 rdp Try.prog (Instr.indexAt 37 (.pointer (some x3)) (.int .i64 0)) (.one .addr) fun (x52 : Addr) =>
 rd Try.prog (Instr.loadAt 23 (.pointer (some x52))) (.agg [(.int .i64), (.int .i64)]) w51 fun (x53 : (Int × Int × Unit)) =>
 rdp Try.prog (Instr.indexAt 37 (.pointer (some x3)) (.int .i64 2)) (.one .addr) fun (x54 : Addr) =>
 rd Try.prog (Instr.loadAt 23 (.pointer (some x54))) (.agg [(.int .i64), (.int .i64)]) w51 fun (x55 : (Int × Int × Unit)) =>
 call Try.prog 23 [(.agg #[(.int .i64 x53.1), (.int .i64 x53.2.1)]), (.agg #[(.int .i64 x55.1), (.int .i64 x55.2.1)])] (.many [(.agg [(.int .i64), (.int .i64)]), (.one (.int .i64))]) w51 fun (x56 : ((Int × Int × Unit) × Int × Unit)) (w57 : World) =>
 wr Try.prog (Instr.alloc 23 true (.tuple #[])) (.one .addr) w57 fun (x58 : Addr) (w59 : World) =>
 wu Try.prog (Instr.storeAt 23 (.pointer (some x58)) (.agg #[(.int .i64 x56.1.1), (.int .i64 x56.1.2.1)])) w59 fun (w60 : World) =>
 rdp Try.prog (Instr.indexAt 37 (.pointer (some x3)) (.int .i64 1)) (.one .addr) fun (x61 : Addr) =>
 rd Try.prog (Instr.loadAt 23 (.pointer (some x61))) (.agg [(.int .i64), (.int .i64)]) w60 fun (x62 : (Int × Int × Unit)) =>
 rdp Try.prog (Instr.indexAt 37 (.pointer (some x3)) (.int .i64 2)) (.one .addr) fun (x63 : Addr) =>
 rd Try.prog (Instr.loadAt 23 (.pointer (some x63))) (.agg [(.int .i64), (.int .i64)]) w60 fun (x64 : (Int × Int × Unit)) =>
 call Try.prog 23 [(.agg #[(.int .i64 x62.1), (.int .i64 x62.2.1)]), (.agg #[(.int .i64 x64.1), (.int .i64 x64.2.1)])] (.many [(.agg [(.int .i64), (.int .i64)]), (.one (.int .i64))]) w60 fun (x65 : ((Int × Int × Unit) × Int × Unit)) (w66 : World) =>
 wr Try.prog (Instr.alloc 23 true (.tuple #[])) (.one .addr) w66 fun (x67 : Addr) (w68 : World) =>
 wu Try.prog (Instr.storeAt 23 (.pointer (some x67)) (.agg #[(.int .i64 x65.1.1), (.int .i64 x65.1.2.1)])) w68 fun (w69 : World) =>
 rd Try.prog (Instr.loadAt 23 (.pointer (some x58))) (.agg [(.int .i64), (.int .i64)]) w69 fun (x70 : (Int × Int × Unit)) =>
 rd Try.prog (Instr.loadAt 23 (.pointer (some x67))) (.agg [(.int .i64), (.int .i64)]) w69 fun (x71 : (Int × Int × Unit)) =>
 call Try.prog 18 [(.agg #[(.int .i64 x70.1), (.int .i64 x70.2.1)]), (.agg #[(.int .i64 x71.1), (.int .i64 x71.2.1)])] (.many [(.agg [(.int .i64), (.int .i64)]), (.one (.int .i64))]) w69 fun (x72 : ((Int × Int × Unit) × Int × Unit)) (w73 : World) =>
 wr Try.prog (Instr.alloc 23 true (.tuple #[])) (.one .addr) w73 fun (x74 : Addr) (w75 : World) =>
 wu Try.prog (Instr.storeAt 23 (.pointer (some x74)) (.agg #[(.int .i64 x72.1.1), (.int .i64 x72.1.2.1)])) w75 fun (w76 : World) =>
 join (T := (Unit)) (fun (_s78 : (Unit)) w79 => ∀ _ : Nat → Value,
 rd Try.prog (Instr.loadAt 23 (.pointer (some x41))) (.agg [(.int .i64), (.int .i64)]) w79 fun (x80 : (Int × Int × Unit)) =>
 rdp Try.prog (Instr.indexAt 37 (.pointer (some x3)) (.int .i64 1)) (.one .addr) fun (x81 : Addr) =>
 rd Try.prog (Instr.loadAt 23 (.pointer (some x81))) (.agg [(.int .i64), (.int .i64)]) w79 fun (x82 : (Int × Int × Unit)) =>
 call Try.prog 21 [(.agg #[(.int .i64 x80.1), (.int .i64 x80.2.1)]), (.agg #[(.int .i64 x82.1), (.int .i64 x82.2.1)])] (.many [(.agg [(.int .i64), (.int .i64)]), (.one (.int .i64))]) w79 fun (x83 : ((Int × Int × Unit) × Int × Unit)) (w84 : World) =>
 wr Try.prog (Instr.alloc 23 true (.tuple #[])) (.one .addr) w84 fun (x85 : Addr) (w86 : World) =>
 wu Try.prog (Instr.storeAt 23 (.pointer (some x85)) (.agg #[(.int .i64 x83.1.1), (.int .i64 x83.1.2.1)])) w86 fun (w87 : World) =>
 br (x83.2.1 != 0) (R (.bool false) w87)
 (rd Try.prog (Instr.loadAt 23 (.pointer (some x85))) (.agg [(.int .i64), (.int .i64)]) w87 fun (x88 : (Int × Int × Unit)) =>
 rdp Try.prog (Instr.indexAt 37 (.pointer (some x3)) (.int .i64 0)) (.one .addr) fun (x89 : Addr) =>
 rd Try.prog (Instr.loadAt 23 (.pointer (some x89))) (.agg [(.int .i64), (.int .i64)]) w87 fun (x90 : (Int × Int × Unit)) =>
 rd Try.prog (cmpS .neq 23 (.tmp 116) (.tmp 118) (.agg #[(.int .i64 x88.1), (.int .i64 x88.2.1)]) (.agg #[(.int .i64 x90.1), (.int .i64 x90.2.1)])) (.one .bool) w87 fun (x91 : Bool) =>
 br x91 (R (.bool false) w87)
 (rdp Try.prog (Instr.indexAt 37 (.pointer (some x3)) (.int .i64 0)) (.one .addr) fun (x92 : Addr) =>
 rd Try.prog (Instr.loadAt 23 (.pointer (some x92))) (.agg [(.int .i64), (.int .i64)]) w87 fun (x93 : (Int × Int × Unit)) =>
 rdp Try.prog (Instr.indexAt 37 (.pointer (some x3)) (.int .i64 1)) (.one .addr) fun (x94 : Addr) =>
 rd Try.prog (Instr.loadAt 23 (.pointer (some x94))) (.agg [(.int .i64), (.int .i64)]) w87 fun (x95 : (Int × Int × Unit)) =>
 call Try.prog 25 [(.agg #[(.int .i64 x93.1), (.int .i64 x93.2.1)]), (.agg #[(.int .i64 x95.1), (.int .i64 x95.2.1)])] (.many [(.agg [(.int .i64), (.int .i64)]), (.one (.int .i64))]) w87 fun (x96 : ((Int × Int × Unit) × Int × Unit)) (w97 : World) =>
 wr Try.prog (Instr.alloc 23 true (.tuple #[])) (.one .addr) w97 fun (x98 : Addr) (w99 : World) =>
 wu Try.prog (Instr.storeAt 23 (.pointer (some x98)) (.agg #[(.int .i64 x96.1.1), (.int .i64 x96.1.2.1)])) w99 fun (w100 : World) =>
 rdp Try.prog (Instr.indexAt 37 (.pointer (some x3)) (.int .i64 1)) (.one .addr) fun (x101 : Addr) =>
 rd Try.prog (Instr.loadAt 2 (.pointer (some x101))) (.one (.int .i64)) w100 fun (x102 : Int) =>
 br (x102 == 0) (R (.bool (x96.2.1 == 1)) w100)
 (rd Try.prog (Instr.loadAt 23 (.pointer (some x98))) (.agg [(.int .i64), (.int .i64)]) w100 fun (x103 : (Int × Int × Unit)) =>
 rdp Try.prog (Instr.indexAt 37 (.pointer (some x3)) (.int .i64 1)) (.one .addr) fun (x104 : Addr) =>
 rd Try.prog (Instr.loadAt 23 (.pointer (some x104))) (.agg [(.int .i64), (.int .i64)]) w100 fun (x105 : (Int × Int × Unit)) =>
 call Try.prog 23 [(.agg #[(.int .i64 x103.1), (.int .i64 x103.2.1)]), (.agg #[(.int .i64 x105.1), (.int .i64 x105.2.1)])] (.many [(.agg [(.int .i64), (.int .i64)]), (.one (.int .i64))]) w100 fun (x106 : ((Int × Int × Unit) × Int × Unit)) (w107 : World) =>
 wr Try.prog (Instr.alloc 23 true (.tuple #[])) (.one .addr) w107 fun (x108 : Addr) (w109 : World) =>
 wu Try.prog (Instr.storeAt 23 (.pointer (some x108)) (.agg #[(.int .i64 x106.1.1), (.int .i64 x106.1.2.1)])) w109 fun (w110 : World) =>
 br (x96.2.1 == 0) (br (x106.2.1 == 0) (rd Try.prog (Instr.loadAt 23 (.pointer (some x108))) (.agg [(.int .i64), (.int .i64)]) w110 fun (x111 : (Int × Int × Unit)) =>
 rdp Try.prog (Instr.indexAt 37 (.pointer (some x3)) (.int .i64 0)) (.one .addr) fun (x112 : Addr) =>
 rd Try.prog (Instr.loadAt 23 (.pointer (some x112))) (.agg [(.int .i64), (.int .i64)]) w110 fun (x113 : (Int × Int × Unit)) =>
 rd Try.prog (cmpS .eql 23 (.tmp 149) (.tmp 151) (.agg #[(.int .i64 x111.1), (.int .i64 x111.2.1)]) (.agg #[(.int .i64 x113.1), (.int .i64 x113.2.1)])) (.one .bool) w110 fun (x114 : Bool) =>
 R (.bool x114) w110)
 (R (.bool false) w110))
 (R (.bool false) w110)))))
  fun (K77 : (Unit) → World → Prop) =>
 br (x72.2.1 == 0) (rd Try.prog (Instr.loadAt 23 (.pointer (some x49))) (.agg [(.int .i64), (.int .i64)]) w76 fun (x115 : (Int × Int × Unit)) =>
 rd Try.prog (Instr.loadAt 23 (.pointer (some x74))) (.agg [(.int .i64), (.int .i64)]) w76 fun (x116 : (Int × Int × Unit)) =>
 rd Try.prog (cmpS .neq 23 (.tmp 96) (.tmp 97) (.agg #[(.int .i64 x115.1), (.int .i64 x115.2.1)]) (.agg #[(.int .i64 x116.1), (.int .i64 x116.2.1)])) (.one .bool) w76 fun (x117 : Bool) =>
 br x117 (rd Try.prog (Instr.loadAt 23 (.pointer (some x49))) (.agg [(.int .i64), (.int .i64)]) w76 fun (x118 : (Int × Int × Unit)) =>
 rd Try.prog (Instr.loadAt 23 (.pointer (some x74))) (.agg [(.int .i64), (.int .i64)]) w76 fun (x119 : (Int × Int × Unit)) =>
 call Try.prog 16 [(.agg #[(.int .i64 x118.1), (.int .i64 x118.2.1)]), (.agg #[(.int .i64 x119.1), (.int .i64 x119.2.1)])] (.one (.one (.int .i64))) w76 fun (x120 : Int) (w121 : World) =>
 br (x120 != 0) (R (.bool false) w121)
 (K77 (()) w121))
 (K77 (()) w76))
 (K77 (()) w76))
def H6 : Hints := ⟨[(2, 0, [(4, (.one (.int .i64)))]), (0, 35, [(5, (.one (.int .i64)))]), (1, 1, []), (0, 105, [])], [], [], []⟩
set_option maxRecDepth 100000 in
theorem S6_eq (l_0 : Int) (l_1 : Int) (l_2 : Int) (l_3 : Int) (l_4 : Int) (l_5 : Int) (w0 : World) (R : Value → World → Prop) : vcFn Try.prog H6 Try.f6 [(.agg #[(.int .i16 l_0), (.int .i16 l_1), (.int .i16 l_2), (.int .i16 l_3), (.int .i16 l_4), (.int .i16 l_5)])] w0 R = S6 l_0 l_1 l_2 l_3 l_4 l_5 w0 R := by kernel_rfl
set_option maxRecDepth 100000 in
theorem S6_calls (l_0 : Int) (l_1 : Int) (l_2 : Int) (l_3 : Int) (l_4 : Int) (l_5 : Int) (w0 : World) (R : Value → World → Prop) (h : S6 l_0 l_1 l_2 l_3 l_4 l_5 w0 R) : Calls Try.prog 6 #[(.agg #[(.int .i16 l_0), (.int .i16 l_1), (.int .i16 l_2), (.int .i16 l_3), (.int .i16 l_4), (.int .i16 l_5)])] w0 (ret R) := by
  rw [← S6_eq] at h; exact vcFn_sound follows_ Try.func6 h

end Go.Proofs

/- Bounds of rational numbers; the operations of small fractions are exact. -/



namespace Go.Proofs.Ytajpdnphamomjaa
open Go.RowKit Go.Q Go.Q.Num Go.V

/-- numerator and denominator are small -/
structure Bd (N D : Nat) (r : Rat) : Prop where
  n : r.num.natAbs ≤ N
  d : r.den ≤ D
theorem Bd.div {n d : Int} {N D : Nat} (h0 : d ≠ 0) (hn : n.natAbs ≤ N) (hd : d.natAbs ≤ D) : Bd N D (Rat.divInt n d) := by
  obtain ⟨hq, hr⟩ := of_norm (n := n) h0
  obtain ⟨m1, m2, _⟩ := low_num (decide (n < 0) != decide (d < 0)) n.natAbs d.natAbs hq
  rw [hr] at m1 m2
  exact ⟨by rw [m1]; exact Nat.le_trans (Nat.div_le_self _ _) hn, by rw [m2]; exact Nat.le_trans (Nat.div_le_self _ _) hd⟩
theorem self_div (r : Rat) : r = Rat.divInt r.num (r.den : Int) := by rw [Rat.divInt_ofNat, Rat.mkRat_self]
theorem Bd.add {N D M E : Nat} {r s : Rat} (h : Bd N D r) (h' : Bd M E s) : Bd (N * E + M * D) (D * E) (r + s) := by
  have hr := r.den_nz
  have hs := s.den_nz
  have e : r + s = Rat.divInt (r.num * s.den + s.num * r.den) ((r.den : Int) * s.den) := by
    conv => lhs; rw [self_div r, self_div s]
    rw [Rat.divInt_add_divInt _ _ (by omega) (by omega)]
  rw [e]
  refine Bd.div (Int.mul_ne_zero (by omega) (by omega)) ?_ ?_
  · refine Nat.le_trans (Int.natAbs_add_le _ _) (Nat.add_le_add ?_ ?_)
    · rw [Int.natAbs_mul, Int.natAbs_natCast]; exact Nat.mul_le_mul h.n h'.d
    · rw [Int.natAbs_mul, Int.natAbs_natCast]; exact Nat.mul_le_mul h'.n h.d
  · rw [Int.natAbs_mul, Int.natAbs_natCast, Int.natAbs_natCast]; exact Nat.mul_le_mul h.d h'.d
theorem Bd.mul {N D M E : Nat} {r s : Rat} (h : Bd N D r) (h' : Bd M E s) : Bd (N * M) (D * E) (r * s) := by
  have hr := r.den_nz
  have hs := s.den_nz
  have e : r * s = Rat.divInt (r.num * s.num) ((r.den : Int) * s.den) := by
    conv => lhs; rw [self_div r, self_div s]
    rw [Rat.divInt_mul_divInt]
  rw [e]
  refine Bd.div (Int.mul_ne_zero (by omega) (by omega)) ?_ ?_
  · rw [Int.natAbs_mul]; exact Nat.mul_le_mul h.n h'.n
  · rw [Int.natAbs_mul, Int.natAbs_natCast, Int.natAbs_natCast]; exact Nat.mul_le_mul h.d h'.d
theorem Bd.quo {N D M E : Nat} {r s : Rat} (h : Bd N D r) (h' : Bd M E s) (h0 : s.num ≠ 0) : Bd (N * E) (D * M) (r / s) := by
  have hr := r.den_nz
  have e : r / s = Rat.divInt (r.num * s.den) ((r.den : Int) * s.num) := by
    conv => lhs; rw [self_div r, self_div s]
    rw [Rat.div_def, Rat.inv_divInt, Rat.divInt_mul_divInt]
  rw [e]
  refine Bd.div (Int.mul_ne_zero (by omega) h0) ?_ ?_
  · rw [Int.natAbs_mul, Int.natAbs_natCast]; exact Nat.mul_le_mul h.n h'.d
  · rw [Int.natAbs_mul, Int.natAbs_natCast]; exact Nat.mul_le_mul h.d h'.n
theorem Bd.fits {N D : Nat} {r : Rat} (h : Bd N D r) (hN : N ≤ 100000000000000000) (hD : D ≤ 100000000000000000) : Fits r := ⟨by have := h.n; omega, by have := h.n; omega, by have := h.d; omega⟩
theorem Bd.of {n d : Int} {N D : Nat} (h0 : d ≠ 0) (hn : -(N : Int) ≤ n ∧ n ≤ N) (hd : -(D : Int) ≤ d ∧ d ≤ D) : Bd N D (Rat.divInt n d) := Bd.div h0 (by omega) (by omega)

def fv (r : Rat) : FE := ((r.num, ((r.den : Nat) : Int), ()), 0, ())
theorem fit_fv {r : Rat} (h : Fits r) : fitT r = fv r := by unfold fitT fv; rw [if_pos h]
theorem frac_fits {r : Rat} (h : Fits r) : IsFrac r.num ((r.den : Nat) : Int) := by
  have h0 := r.den_nz
  obtain ⟨h1, h2, h3⟩ := h
  exact ⟨by omega, by omega, h1, h2, by rw [Int.natAbs_natCast]; exact r.reduced⟩
theorem ratv_fits (r : Rat) : ratv r.num ((r.den : Nat) : Int) = r := by
  unfold ratv; rw [Int.toNat_natCast, Rat.mkRat_self]
theorem opT_fv {r s : Rat} {f : Rat → Rat → Rat} (h : Fits r) (h' : Fits s) (hf : Fits (f r s)) : opT r.num r.den s.num s.den f = fv (f r s) := by
  unfold opT; rw [if_pos ⟨frac_fits h, frac_fits h'⟩, ratv_fits, ratv_fits, fit_fv hf]
theorem i64_fits {r : Rat} (h : Fits r) : I64 r.num ∧ I64 ((r.den : Nat) : Int) := by
  obtain ⟨h1, h2, h3⟩ := h
  exact ⟨⟨by omega, by omega⟩, ⟨by omega, by omega⟩⟩
theorem addQ {r s : Rat} (w : World) (h : Fits r) (h' : Fits s) (hf : Fits (r + s)) : call Try.prog 18 [fracv r.num r.den, fracv s.num s.den] rFE w (fun x w' => x = fv (r + s) ∧ bel w w') :=
  call_mono (opA _ _ _ _ w (i64_fits h) (i64_fits h')) fun x w' ⟨e, hb⟩ => ⟨by rw [e]; exact opT_fv (f := fun r s => r + s) h h' hf, hb⟩
theorem subQ {r s : Rat} (w : World) (h : Fits r) (h' : Fits s) (hf : Fits (r + -s)) : call Try.prog 21 [fracv r.num r.den, fracv s.num s.den] rFE w (fun x w' => x = fv (r + -s) ∧ bel w w') :=
  call_mono (opS _ _ _ _ w (i64_fits h) (i64_fits h')) fun x w' ⟨e, hb⟩ => ⟨by rw [e]; exact opT_fv (f := fun r s => r + -s) h h' hf, hb⟩
theorem mulQ {r s : Rat} (w : World) (h : Fits r) (h' : Fits s) (hf : Fits (r * s)) : call Try.prog 23 [fracv r.num r.den, fracv s.num s.den] rFE w (fun x w' => x = fv (r * s) ∧ bel w w') :=
  call_mono (opM _ _ _ _ w (i64_fits h) (i64_fits h')) fun x w' ⟨e, hb⟩ => ⟨by rw [e]; exact opT_fv (f := fun r s => r * s) h h' hf, hb⟩
theorem divQ {r s : Rat} (w : World) (h : Fits r) (h' : Fits s) (h0 : s.num ≠ 0) (hf : Fits (r / s)) : call Try.prog 25 [fracv r.num r.den, fracv s.num s.den] rFE w (fun x w' => x = fv (r / s) ∧ bel w w') :=
  call_mono (opD _ _ _ _ w (i64_fits h) (i64_fits h')) fun x w' ⟨e, hb⟩ => ⟨by rw [e]; unfold divT; rw [if_pos ⟨frac_fits h, frac_fits h', h0⟩, ratv_fits, ratv_fits, fit_fv hf], hb⟩
theorem divQ0 {r s : Rat} (w : World) (h : Fits r) (h' : Fits s) (h0 : s.num = 0) : call Try.prog 25 [fracv r.num r.den, fracv s.num s.den] rFE w (fun x w' => x = invT ∧ bel w w') :=
  call_mono (opD _ _ _ _ w (i64_fits h) (i64_fits h')) fun x w' ⟨e, hb⟩ => ⟨by rw [e]; unfold divT; rw [if_neg]; rintro ⟨_, _, q⟩; exact q h0, hb⟩
theorem ofQ {n d : Int} (w : World) (hn : I64 n) (hd : I64 d) (h0 : d ≠ 0) (hf : Fits (Rat.divInt n d)) : call Try.prog 28 [.int .i64 n, .int .i64 d] rFE w (fun x w' => x = fv (Rat.divInt n d) ∧ bel w w') :=
  call_mono (ofF n d w hn hd) fun x w' ⟨e, hb⟩ => ⟨by rw [e]; unfold ofT; rw [if_neg h0, fit_fv hf], hb⟩
/-- a variable is made and written -/
theorem boxF {n d : Int} {w : World} {k : Addr → World → Prop} (hk : ∀ ad w', bel w w' → Box w' ad [.int .i64 n, .int .i64 d] → w.heap.size ≤ ad.block → k ad w') :
    wr Try.prog (Instr.alloc 23 true (.tuple #[])) (.one .addr) w fun x26 w27 => wu Try.prog (Instr.storeAt 23 (.pointer (some x26)) (.agg #[.int .i64 n, .int .i64 d])) w27 fun w28 => k x26 w28 := by
  refine wr_alloc (z := fracv 0 0) (by kernel_rfl) fun ad w1 Z h hz _ => ?_
  refine wu_box Z (by kernel_rfl) (Nat.le_refl 2) rfl fun w2 Z hg _ => ?_
  exact hk _ _ (h.grownAt hg (by omega)) Z (by omega)
theorem tyAF : TyA Try.prog 37 23 3 2 := ⟨by kernel_rfl, by kernel_rfl⟩
theorem tyAI : TyA Try.prog 36 35 6 1 := ⟨by kernel_rfl, by kernel_rfl⟩
theorem rd_el {w : World} {a : Addr} {cs : List Value} {j : Nat} {n d : Int} {k : (Int × Int × Unit) → Prop} (X : Box w a cs) (h0 : cs[2 * j]? = some (.int .i64 n)) (h1 : cs[2 * j + 1]? = some (.int .i64 d)) (hj : j < 3) {i : Int} (hi : i = (j : Int)) (hk : k (n, d, ())) :
    rdp Try.prog (Instr.indexAt 37 (.pointer (some a)) (.int .i64 i)) (.one .addr) fun ad => rd Try.prog (Instr.loadAt 23 (.pointer (some ad))) (.agg [.int .i64, .int .i64]) w k := by
  refine idx_arr tyAF hi hj ?_
  rw [Nat.mul_comm]
  refine rd_boxm X (vs := [.int .i64 n, .int .i64 d]) (by kernel_rfl) ?_ rfl hk
  intro o v ho
  match o, ho with
  | 0, ho => simp at ho; subst ho; exact h0
  | 1, ho => simp at ho; subst ho; exact h1
  | o + 2, ho => simp at ho
end Go.Proofs.Ytajpdnphamomjaa

/- The conditions of functions, printed by our tool; each is checked against the code by the kernel. -/



namespace Go.Proofs
open Go Go.V Go.RowKit
/-- querylab/querylablaw11.Few -/
def S29 (s_0a : Option Addr) (s_0n : Nat) (s_0c : Nat) (s_1a : Option Addr) (s_1n : Nat) (s_1c : Nat) (s_2a : Option Addr) (s_2n : Nat) (s_2c : Nat) (w0 : World) (R : Value → World → Prop) : Prop :=
 wr Try.prog (Instr.box 43 (.agg #[(.slice s_0a s_0n s_0c), (.slice s_1a s_1n s_1c), (.slice s_2a s_2n s_2c)])) (.one .addr) w0 fun (x1 : Addr) (w2 : World) =>
 rd Try.prog (Instr.loadAt 40 (.pointer (some x1))) (.one .slice) w2 fun (x3 : (Option Addr × Nat × Nat)) =>
 br (decide (((x3.2.1 : Nat) : Int) > 12)) (R (.bool false) w2)
 (rd Try.prog (Instr.loadAt 41 (.pointer (some (Addr.add x1 1)))) (.one .slice) w2 fun (x4 : (Option Addr × Nat × Nat)) =>
 br (decide (((x4.2.1 : Nat) : Int) > 8)) (R (.bool false) w2)
 (rd Try.prog (Instr.loadAt 40 (.pointer (some (Addr.add x1 2)))) (.one .slice) w2 fun (x5 : (Option Addr × Nat × Nat)) =>
 br (decide (((x5.2.1 : Nat) : Int) > 12)) (R (.bool false) w2)
 (loop (T := (Int × Unit)) (0, ()) w2 fun (again6 : (Int × Unit) → World → Prop) (s7 : (Int × Unit)) w8 => ∀ _ : Nat → Value,
 rd Try.prog (Instr.loadAt 41 (.pointer (some (Addr.add x1 1)))) (.one .slice) w8 fun (x9 : (Option Addr × Nat × Nat)) =>
 br (decide (s7.1 < ((x9.2.1 : Nat) : Int))) (rd Try.prog (Instr.loadAt 41 (.pointer (some (Addr.add x1 1)))) (.one .slice) w8 fun (x10 : (Option Addr × Nat × Nat)) =>
 rdp Try.prog (Instr.indexAt 41 (.slice x10.1 x10.2.1 x10.2.2) (.int .i64 s7.1)) (.one .addr) fun (x11 : Addr) =>
 rd Try.prog (Instr.loadAt 40 (.pointer (some x11))) (.one .slice) w8 fun (x12 : (Option Addr × Nat × Nat)) =>
 br (decide (((x12.2.1 : Nat) : Int) > 12)) (R (.bool false) w8)
 (z (IntKind.wrap .i64 (s7.1 + 1)) fun (z13 : Int) =>
 again6 (z13, ()) w8))
 (R (.bool true) w8))))
def H29 : Hints := ⟨[(2, 0, [(3, (.one (.int .i64)))])], [], [], []⟩
set_option maxRecDepth 100000 in
theorem S29_eq (s_0a : Option Addr) (s_0n : Nat) (s_0c : Nat) (s_1a : Option Addr) (s_1n : Nat) (s_1c : Nat) (s_2a : Option Addr) (s_2n : Nat) (s_2c : Nat) (w0 : World) (R : Value → World → Prop) : vcFn Try.prog H29 Try.f29 [(.agg #[(.slice s_0a s_0n s_0c), (.slice s_1a s_1n s_1c), (.slice s_2a s_2n s_2c)])] w0 R = S29 s_0a s_0n s_0c s_1a s_1n s_1c s_2a s_2n s_2c w0 R := by kernel_rfl
set_option maxRecDepth 100000 in
theorem S29_calls (s_0a : Option Addr) (s_0n : Nat) (s_0c : Nat) (s_1a : Option Addr) (s_1n : Nat) (s_1c : Nat) (s_2a : Option Addr) (s_2n : Nat) (s_2c : Nat) (w0 : World) (R : Value → World → Prop) (h : S29 s_0a s_0n s_0c s_1a s_1n s_1c s_2a s_2n s_2c w0 R) : Calls Try.prog 29 #[(.agg #[(.slice s_0a s_0n s_0c), (.slice s_1a s_1n s_1c), (.slice s_2a s_2n s_2c)])] w0 (ret R) := by
  rw [← S29_eq] at h; exact vcFn_sound follows_ Try.func29 h

/-- querylab/querylabref11.within -/
def S80 (n_ : Int) (most_ : Int) (w0 : World) (R : Value → World → Prop) : Prop :=
 z (IntKind.wrap .i64 (0 - most_)) fun (z1 : Int) =>
 br (decide (n_ ≥ z1)) (R (.bool (decide (n_ ≤ most_))) w0)
 (R (.bool false) w0)
def H80 : Hints := ⟨[], [], [], []⟩
set_option maxRecDepth 100000 in
theorem S80_eq (n_ : Int) (most_ : Int) (w0 : World) (R : Value → World → Prop) : vcFn Try.prog H80 Try.f80 [(.int .i64 n_), (.int .i64 most_)] w0 R = S80 n_ most_ w0 R := by kernel_rfl
set_option maxRecDepth 100000 in
theorem S80_calls (n_ : Int) (most_ : Int) (w0 : World) (R : Value → World → Prop) (h : S80 n_ most_ w0 R) : Calls Try.prog 80 #[(.int .i64 n_), (.int .i64 most_)] w0 (ret R) := by
  rw [← S80_eq] at h; exact vcFn_sound follows_ Try.func80 h

/-- querylab/querylabref11.Valid -/
def S31 (s_0a : Option Addr) (s_0n : Nat) (s_0c : Nat) (s_1a : Option Addr) (s_1n : Nat) (s_1c : Nat) (s_2a : Option Addr) (s_2n : Nat) (s_2c : Nat) (w0 : World) (R : Value → World → Prop) : Prop :=
 wr Try.prog (Instr.box 43 (.agg #[(.slice s_0a s_0n s_0c), (.slice s_1a s_1n s_1c), (.slice s_2a s_2n s_2c)])) (.one .addr) w0 fun (x1 : Addr) (w2 : World) =>
 rd Try.prog (Instr.loadAt 40 (.pointer (some x1))) (.one .slice) w2 fun (x3 : (Option Addr × Nat × Nat)) =>
 br (decide (((x3.2.1 : Nat) : Int) > 200)) (R (.int .i64 8) w2)
 (rd Try.prog (Instr.loadAt 41 (.pointer (some (Addr.add x1 1)))) (.one .slice) w2 fun (x4 : (Option Addr × Nat × Nat)) =>
 br (decide (((x4.2.1 : Nat) : Int) > 100)) (R (.int .i64 8) w2)
 (loop (T := (Int × Unit)) (0, ()) w2 fun (again5 : (Int × Unit) → World → Prop) (s6 : (Int × Unit)) w7 => ∀ _ : Nat → Value,
 rd Try.prog (Instr.loadAt 40 (.pointer (some x1))) (.one .slice) w7 fun (x8 : (Option Addr × Nat × Nat)) =>
 br (decide (s6.1 < ((x8.2.1 : Nat) : Int))) (rd Try.prog (Instr.loadAt 40 (.pointer (some x1))) (.one .slice) w7 fun (x9 : (Option Addr × Nat × Nat)) =>
 rdp Try.prog (Instr.indexAt 40 (.slice x9.1 x9.2.1 x9.2.2) (.int .i64 s6.1)) (.one .addr) fun (x10 : Addr) =>
 rd Try.prog (Instr.loadAt 2 (.pointer (some x10))) (.one (.int .i64)) w7 fun (x11 : Int) =>
 br (decide (x11 < 0)) (R (.int .i64 8) w7)
 (rd Try.prog (Instr.loadAt 40 (.pointer (some x1))) (.one .slice) w7 fun (x12 : (Option Addr × Nat × Nat)) =>
 rdp Try.prog (Instr.indexAt 40 (.slice x12.1 x12.2.1 x12.2.2) (.int .i64 s6.1)) (.one .addr) fun (x13 : Addr) =>
 rd Try.prog (Instr.loadAt 2 (.pointer (some x13))) (.one (.int .i64)) w7 fun (x14 : Int) =>
 br (decide (x14 > 1000000000)) (R (.int .i64 8) w7)
 (z (IntKind.wrap .i64 (s6.1 + 1)) fun (z15 : Int) =>
 again5 (z15, ()) w7)))
 (loop (T := (Int × Unit)) (0, ()) w7 fun (again16 : (Int × Unit) → World → Prop) (s17 : (Int × Unit)) w18 => ∀ _ : Nat → Value,
 rd Try.prog (Instr.loadAt 40 (.pointer (some (Addr.add x1 2)))) (.one .slice) w18 fun (x19 : (Option Addr × Nat × Nat)) =>
 br (decide (s17.1 < ((x19.2.1 : Nat) : Int))) (rd Try.prog (Instr.loadAt 40 (.pointer (some (Addr.add x1 2)))) (.one .slice) w18 fun (x20 : (Option Addr × Nat × Nat)) =>
 rdp Try.prog (Instr.indexAt 40 (.slice x20.1 x20.2.1 x20.2.2) (.int .i64 s17.1)) (.one .addr) fun (x21 : Addr) =>
 rd Try.prog (Instr.loadAt 2 (.pointer (some x21))) (.one (.int .i64)) w18 fun (x22 : Int) =>
 call Try.prog 80 [(.int .i64 x22), (.int .i64 1000000000)] (.one (.one .bool)) w18 fun (x23 : Bool) (w24 : World) =>
 br (!x23) (R (.int .i64 8) w24)
 (z (IntKind.wrap .i64 (s17.1 + 1)) fun (z25 : Int) =>
 again16 (z25, ()) w24))
 (loop (T := (Int × Unit)) (0, ()) w18 fun (again26 : (Int × Unit) → World → Prop) (s27 : (Int × Unit)) w28 => ∀ _ : Nat → Value,
 rd Try.prog (Instr.loadAt 41 (.pointer (some (Addr.add x1 1)))) (.one .slice) w28 fun (x29 : (Option Addr × Nat × Nat)) =>
 br (decide (s27.1 < ((x29.2.1 : Nat) : Int))) (loop (T := (Int × Unit)) (0, ()) w28 fun (again30 : (Int × Unit) → World → Prop) (s31 : (Int × Unit)) w32 => ∀ _ : Nat → Value,
 rd Try.prog (Instr.loadAt 41 (.pointer (some (Addr.add x1 1)))) (.one .slice) w32 fun (x33 : (Option Addr × Nat × Nat)) =>
 rdp Try.prog (Instr.indexAt 41 (.slice x33.1 x33.2.1 x33.2.2) (.int .i64 s27.1)) (.one .addr) fun (x34 : Addr) =>
 rd Try.prog (Instr.loadAt 40 (.pointer (some x34))) (.one .slice) w32 fun (x35 : (Option Addr × Nat × Nat)) =>
 br (decide (s31.1 < ((x35.2.1 : Nat) : Int))) (rd Try.prog (Instr.loadAt 41 (.pointer (some (Addr.add x1 1)))) (.one .slice) w32 fun (x36 : (Option Addr × Nat × Nat)) =>
 rdp Try.prog (Instr.indexAt 41 (.slice x36.1 x36.2.1 x36.2.2) (.int .i64 s27.1)) (.one .addr) fun (x37 : Addr) =>
 rd Try.prog (Instr.loadAt 40 (.pointer (some x37))) (.one .slice) w32 fun (x38 : (Option Addr × Nat × Nat)) =>
 rdp Try.prog (Instr.indexAt 40 (.slice x38.1 x38.2.1 x38.2.2) (.int .i64 s31.1)) (.one .addr) fun (x39 : Addr) =>
 rd Try.prog (Instr.loadAt 2 (.pointer (some x39))) (.one (.int .i64)) w32 fun (x40 : Int) =>
 call Try.prog 80 [(.int .i64 x40), (.int .i64 1000000)] (.one (.one .bool)) w32 fun (x41 : Bool) (w42 : World) =>
 br (!x41) (R (.int .i64 8) w42)
 (z (IntKind.wrap .i64 (s31.1 + 1)) fun (z43 : Int) =>
 again30 (z43, ()) w42))
 (z (IntKind.wrap .i64 (s27.1 + 1)) fun (z44 : Int) =>
 again26 (z44, ()) w32))
 (rd Try.prog (Instr.loadAt 40 (.pointer (some (Addr.add x1 2)))) (.one .slice) w28 fun (x45 : (Option Addr × Nat × Nat)) =>
 rd Try.prog (Instr.loadAt 41 (.pointer (some (Addr.add x1 1)))) (.one .slice) w28 fun (x46 : (Option Addr × Nat × Nat)) =>
 br (((x45.2.1 : Nat) : Int) != ((x46.2.1 : Nat) : Int)) (R (.int .i64 9) w28)
 (loop (T := (Int × Unit)) (0, ()) w28 fun (again47 : (Int × Unit) → World → Prop) (s48 : (Int × Unit)) w49 => ∀ _ : Nat → Value,
 rd Try.prog (Instr.loadAt 41 (.pointer (some (Addr.add x1 1)))) (.one .slice) w49 fun (x50 : (Option Addr × Nat × Nat)) =>
 br (decide (s48.1 < ((x50.2.1 : Nat) : Int))) (drw w49 fun w51 =>
 rd Try.prog (Instr.loadAt 41 (.pointer (some (Addr.add x1 1)))) (.one .slice) w51 fun (x52 : (Option Addr × Nat × Nat)) =>
 rdp Try.prog (Instr.indexAt 41 (.slice x52.1 x52.2.1 x52.2.2) (.int .i64 s48.1)) (.one .addr) fun (x53 : Addr) =>
 rd Try.prog (Instr.loadAt 40 (.pointer (some x53))) (.one .slice) w51 fun (x54 : (Option Addr × Nat × Nat)) =>
 rd Try.prog (Instr.loadAt 40 (.pointer (some x1))) (.one .slice) w51 fun (x55 : (Option Addr × Nat × Nat)) =>
 br (((x54.2.1 : Nat) : Int) != ((x55.2.1 : Nat) : Int)) (R (.int .i64 9) w51)
 (z (IntKind.wrap .i64 (s48.1 + 1)) fun (z56 : Int) =>
 again47 (z56, ()) w51))
 (R (.int .i64 0) w49)))))))
def H31 : Hints := ⟨[(2, 0, [(3, (.one (.int .i64)))]), (2, 2, [(4, (.one (.int .i64)))]), (2, 4, [(5, (.one (.int .i64)))]), (2, 6, [(6, (.one (.int .i64)))]), (2, 8, [(7, (.one (.int .i64)))])], [(26, 9)], [], []⟩
set_option maxRecDepth 100000 in
theorem S31_eq (s_0a : Option Addr) (s_0n : Nat) (s_0c : Nat) (s_1a : Option Addr) (s_1n : Nat) (s_1c : Nat) (s_2a : Option Addr) (s_2n : Nat) (s_2c : Nat) (w0 : World) (R : Value → World → Prop) : vcFn Try.prog H31 Try.f31 [(.agg #[(.slice s_0a s_0n s_0c), (.slice s_1a s_1n s_1c), (.slice s_2a s_2n s_2c)])] w0 R = S31 s_0a s_0n s_0c s_1a s_1n s_1c s_2a s_2n s_2c w0 R := by kernel_rfl
set_option maxRecDepth 100000 in
theorem S31_calls (s_0a : Option Addr) (s_0n : Nat) (s_0c : Nat) (s_1a : Option Addr) (s_1n : Nat) (s_1c : Nat) (s_2a : Option Addr) (s_2n : Nat) (s_2c : Nat) (w0 : World) (R : Value → World → Prop) (h : S31 s_0a s_0n s_0c s_1a s_1n s_1c s_2a s_2n s_2c w0 R) : Calls Try.prog 31 #[(.agg #[(.slice s_0a s_0n s_0c), (.slice s_1a s_1n s_1c), (.slice s_2a s_2n s_2c)])] w0 (ret R) := by
  rw [← S31_eq] at h; exact vcFn_sound follows_ Try.func31 h

/-- querylab/linear.outside -/
def S76 (n_ : Int) (low_ : Int) (high_ : Int) (w0 : World) (R : Value → World → Prop) : Prop :=
 br (decide (n_ < low_)) (R (.bool true) w0)
 (R (.bool (decide (n_ > high_))) w0)
def H76 : Hints := ⟨[], [], [], []⟩
set_option maxRecDepth 100000 in
theorem S76_eq (n_ : Int) (low_ : Int) (high_ : Int) (w0 : World) (R : Value → World → Prop) : vcFn Try.prog H76 Try.f76 [(.int .i64 n_), (.int .i64 low_), (.int .i64 high_)] w0 R = S76 n_ low_ high_ w0 R := by kernel_rfl
set_option maxRecDepth 100000 in
theorem S76_calls (n_ : Int) (low_ : Int) (high_ : Int) (w0 : World) (R : Value → World → Prop) (h : S76 n_ low_ high_ w0 R) : Calls Try.prog 76 #[(.int .i64 n_), (.int .i64 low_), (.int .i64 high_)] w0 (ret R) := by
  rw [← S76_eq] at h; exact vcFn_sound follows_ Try.func76 h

/-- querylab/linear.Valid$1$1 -/
def S75 (n_ : Int) (cap0 : Addr) (cap1 : Addr) (w0 : World) (R : Value → World → Prop) : Prop :=
 rd Try.prog (Instr.loadAt 2 (.pointer (some cap0))) (.one (.int .i64)) w0 fun (x1 : Int) =>
 rd Try.prog (Instr.loadAt 2 (.pointer (some cap1))) (.one (.int .i64)) w0 fun (x2 : Int) =>
 call Try.prog 76 [(.int .i64 n_), (.int .i64 x1), (.int .i64 x2)] (.one (.one .bool)) w0 fun (x3 : Bool) (w4 : World) =>
 R (.bool x3) w4
def H75 : Hints := ⟨[], [], [], []⟩
set_option maxRecDepth 100000 in
theorem S75_eq (n_ : Int) (cap0 : Addr) (cap1 : Addr) (w0 : World) (R : Value → World → Prop) : vcFn Try.prog H75 Try.f75 [(.int .i64 n_), (.pointer (some cap0)), (.pointer (some cap1))] w0 R = S75 n_ cap0 cap1 w0 R := by kernel_rfl
set_option maxRecDepth 100000 in
theorem S75_calls (n_ : Int) (cap0 : Addr) (cap1 : Addr) (w0 : World) (R : Value → World → Prop) (h : S75 n_ cap0 cap1 w0 R) : Calls Try.prog 75 #[(.int .i64 n_), (.pointer (some cap0)), (.pointer (some cap1))] w0 (ret R) := by
  rw [← S75_eq] at h; exact vcFn_sound follows_ Try.func75 h

/-- slices.IndexFunc[[]int64,int64] -/
def S112a (s_a : Option Addr) (s_n : Nat) (s_c : Nat) (cap1_0 : Addr) (cap1_1 : Addr) (w0 : World) (R : Value → World → Prop) : Prop :=
 loop (T := (Int × Unit)) (0, ()) w0 fun (again1 : (Int × Unit) → World → Prop) (s2 : (Int × Unit)) w3 => ∀ _ : Nat → Value,
 br (decide (s2.1 < ((s_n : Nat) : Int))) (rdp Try.prog (Instr.indexAt 40 (.slice s_a s_n s_c) (.int .i64 s2.1)) (.one .addr) fun (x4 : Addr) =>
 rd Try.prog (Instr.loadAt 2 (.pointer (some x4))) (.one (.int .i64)) w3 fun (x5 : Int) =>
 call Try.prog 75 [(.int .i64 x5), (.pointer (some cap1_0)), (.pointer (some cap1_1))] (.one (.one .bool)) w3 fun (x6 : Bool) (w7 : World) =>
 br x6 (R (.int .i64 s2.1) w7)
 (z (IntKind.wrap .i64 (s2.1 + 1)) fun (z8 : Int) =>
 again1 (z8, ()) w7))
 (R (.int .i64 (-1)) w3)
def H112a : Hints := ⟨[(2, 0, [(8, (.one (.int .i64)))])], [], [], []⟩
set_option maxRecDepth 100000 in
theorem S112a_eq (s_a : Option Addr) (s_n : Nat) (s_c : Nat) (cap1_0 : Addr) (cap1_1 : Addr) (w0 : World) (R : Value → World → Prop) : vcFn Try.prog H112a Try.f112 [(.slice s_a s_n s_c), (.func (.func 75) #[] #[(.pointer (some cap1_0)), (.pointer (some cap1_1))])] w0 R = S112a s_a s_n s_c cap1_0 cap1_1 w0 R := by kernel_rfl
set_option maxRecDepth 100000 in
theorem S112a_calls (s_a : Option Addr) (s_n : Nat) (s_c : Nat) (cap1_0 : Addr) (cap1_1 : Addr) (w0 : World) (R : Value → World → Prop) (h : S112a s_a s_n s_c cap1_0 cap1_1 w0 R) : Calls Try.prog 112 #[(.slice s_a s_n s_c), (.func (.func 75) #[] #[(.pointer (some cap1_0)), (.pointer (some cap1_1))])] w0 (ret R) := by
  rw [← S112a_eq] at h; exact vcFn_sound follows_ Try.func112 h

/-- slices.ContainsFunc[[]int64,int64] -/
def S74a (s_a : Option Addr) (s_n : Nat) (s_c : Nat) (cap1_0 : Addr) (cap1_1 : Addr) (w0 : World) (R : Value → World → Prop) : Prop :=
 call Try.prog 112 [(.slice s_a s_n s_c), (.func (.func 75) #[] #[(.pointer (some cap1_0)), (.pointer (some cap1_1))])] (.one (.one (.int .i64))) w0 fun (x1 : Int) (w2 : World) =>
 R (.bool (decide (x1 ≥ 0))) w2
def H74a : Hints := ⟨[], [], [], []⟩
set_option maxRecDepth 100000 in
theorem S74a_eq (s_a : Option Addr) (s_n : Nat) (s_c : Nat) (cap1_0 : Addr) (cap1_1 : Addr) (w0 : World) (R : Value → World → Prop) : vcFn Try.prog H74a Try.f74 [(.slice s_a s_n s_c), (.func (.func 75) #[] #[(.pointer (some cap1_0)), (.pointer (some cap1_1))])] w0 R = S74a s_a s_n s_c cap1_0 cap1_1 w0 R := by kernel_rfl
set_option maxRecDepth 100000 in
theorem S74a_calls (s_a : Option Addr) (s_n : Nat) (s_c : Nat) (cap1_0 : Addr) (cap1_1 : Addr) (w0 : World) (R : Value → World → Prop) (h : S74a s_a s_n s_c cap1_0 cap1_1 w0 R) : Calls Try.prog 74 #[(.slice s_a s_n s_c), (.func (.func 75) #[] #[(.pointer (some cap1_0)), (.pointer (some cap1_1))])] w0 (ret R) := by
  rw [← S74a_eq] at h; exact vcFn_sound follows_ Try.func74 h

/-- querylab/linear.Valid$1 -/
def S73 (l_a : Option Addr) (l_n : Nat) (l_c : Nat) (low_ : Int) (high_ : Int) (w0 : World) (R : Value → World → Prop) : Prop :=
 wr Try.prog (Instr.box 2 (.int .i64 low_)) (.one .addr) w0 fun (x1 : Addr) (w2 : World) =>
 wr Try.prog (Instr.box 2 (.int .i64 high_)) (.one .addr) w2 fun (x3 : Addr) (w4 : World) =>
 call Try.prog 74 [(.slice l_a l_n l_c), (.func (.func 75) #[] #[(.pointer (some x1)), (.pointer (some x3))])] (.one (.one .bool)) w4 fun (x5 : Bool) (w6 : World) =>
 R (.bool x5) w6
def H73 : Hints := ⟨[], [], [], []⟩
set_option maxRecDepth 100000 in
theorem S73_eq (l_a : Option Addr) (l_n : Nat) (l_c : Nat) (low_ : Int) (high_ : Int) (w0 : World) (R : Value → World → Prop) : vcFn Try.prog H73 Try.f73 [(.slice l_a l_n l_c), (.int .i64 low_), (.int .i64 high_)] w0 R = S73 l_a l_n l_c low_ high_ w0 R := by kernel_rfl
set_option maxRecDepth 100000 in
theorem S73_calls (l_a : Option Addr) (l_n : Nat) (l_c : Nat) (low_ : Int) (high_ : Int) (w0 : World) (R : Value → World → Prop) (h : S73 l_a l_n l_c low_ high_ w0 R) : Calls Try.prog 73 #[(.slice l_a l_n l_c), (.int .i64 low_), (.int .i64 high_)] w0 (ret R) := by
  rw [← S73_eq] at h; exact vcFn_sound follows_ Try.func73 h

/-- querylab/linear.Valid$2 -/
def S78 (r_a : Option Addr) (r_n : Nat) (r_c : Nat) (cap0 : Addr) (w0 : World) (R : Value → World → Prop) : Prop :=
 rdF Try.prog bel (Instr.loadAt 100 (.pointer (some cap0))) w0 fun (h1 : Nat) (h1f h1c : Array Value) =>
 callX Try.prog h1 (h1f ++ (#[(.slice r_a r_n r_c), (.int .i64 (-1000000)), (.int .i64 1000000)] : Array Value) ++ h1c).toList (.one (.one .bool)) w0 fun (x2 : Bool) (w3 : World) =>
 R (.bool x2) w3
def H78 : Hints := ⟨[], [], [], []⟩
set_option maxRecDepth 100000 in
theorem S78_eq (r_a : Option Addr) (r_n : Nat) (r_c : Nat) (cap0 : Addr) (w0 : World) (R : Value → World → Prop) : vcFn Try.prog H78 Try.f78 [(.slice r_a r_n r_c), (.pointer (some cap0))] w0 R = S78 r_a r_n r_c cap0 w0 R := by kernel_rfl
set_option maxRecDepth 100000 in
theorem S78_calls (r_a : Option Addr) (r_n : Nat) (r_c : Nat) (cap0 : Addr) (w0 : World) (R : Value → World → Prop) (h : S78 r_a r_n r_c cap0 w0 R) : Calls Try.prog 78 #[(.slice r_a r_n r_c), (.pointer (some cap0))] w0 (ret R) := by
  rw [← S78_eq] at h; exact vcFn_sound follows_ Try.func78 h

/-- querylab/linear.Valid$3 -/
def S79 (_r_a : Option Addr) (r_n : Nat) (_r_c : Nat) (cap0 : Addr) (w0 : World) (R : Value → World → Prop) : Prop :=
 rd Try.prog (Instr.loadAt 40 (.pointer (some cap0))) (.one .slice) w0 fun (x1 : (Option Addr × Nat × Nat)) =>
 R (.bool (((r_n : Nat) : Int) != ((x1.2.1 : Nat) : Int))) w0
def H79 : Hints := ⟨[], [], [], []⟩
set_option maxRecDepth 100000 in
theorem S79_eq (r_a : Option Addr) (r_n : Nat) (r_c : Nat) (cap0 : Addr) (w0 : World) (R : Value → World → Prop) : vcFn Try.prog H79 Try.f79 [(.slice r_a r_n r_c), (.pointer (some cap0))] w0 R = S79 r_a r_n r_c cap0 w0 R := by kernel_rfl
set_option maxRecDepth 100000 in
theorem S79_calls (r_a : Option Addr) (r_n : Nat) (r_c : Nat) (cap0 : Addr) (w0 : World) (R : Value → World → Prop) (h : S79 r_a r_n r_c cap0 w0 R) : Calls Try.prog 79 #[(.slice r_a r_n r_c), (.pointer (some cap0))] w0 (ret R) := by
  rw [← S79_eq] at h; exact vcFn_sound follows_ Try.func79 h

/-- slices.IndexFunc[[][]int64,[]int64] -/
def S113b (s_a : Option Addr) (s_n : Nat) (s_c : Nat) (cap1_0 : Addr) (w0 : World) (R : Value → World → Prop) : Prop :=
 loop (T := (Int × Unit)) (0, ()) w0 fun (again1 : (Int × Unit) → World → Prop) (s2 : (Int × Unit)) w3 => ∀ _ : Nat → Value,
 br (decide (s2.1 < ((s_n : Nat) : Int))) (rdp Try.prog (Instr.indexAt 41 (.slice s_a s_n s_c) (.int .i64 s2.1)) (.one .addr) fun (x4 : Addr) =>
 rd Try.prog (Instr.loadAt 40 (.pointer (some x4))) (.one .slice) w3 fun (x5 : (Option Addr × Nat × Nat)) =>
 call Try.prog 78 [(.slice x5.1 x5.2.1 x5.2.2), (.pointer (some cap1_0))] (.one (.one .bool)) w3 fun (x6 : Bool) (w7 : World) =>
 br x6 (R (.int .i64 s2.1) w7)
 (z (IntKind.wrap .i64 (s2.1 + 1)) fun (z8 : Int) =>
 again1 (z8, ()) w7))
 (R (.int .i64 (-1)) w3)
def H113b : Hints := ⟨[(2, 0, [(8, (.one (.int .i64)))])], [], [], []⟩
set_option maxRecDepth 100000 in
theorem S113b_eq (s_a : Option Addr) (s_n : Nat) (s_c : Nat) (cap1_0 : Addr) (w0 : World) (R : Value → World → Prop) : vcFn Try.prog H113b Try.f113 [(.slice s_a s_n s_c), (.func (.func 78) #[] #[(.pointer (some cap1_0))])] w0 R = S113b s_a s_n s_c cap1_0 w0 R := by kernel_rfl
set_option maxRecDepth 100000 in
theorem S113b_calls (s_a : Option Addr) (s_n : Nat) (s_c : Nat) (cap1_0 : Addr) (w0 : World) (R : Value → World → Prop) (h : S113b s_a s_n s_c cap1_0 w0 R) : Calls Try.prog 113 #[(.slice s_a s_n s_c), (.func (.func 78) #[] #[(.pointer (some cap1_0))])] w0 (ret R) := by
  rw [← S113b_eq] at h; exact vcFn_sound follows_ Try.func113 h

/-- slices.ContainsFunc[[][]int64,[]int64] -/
def S77b (s_a : Option Addr) (s_n : Nat) (s_c : Nat) (cap1_0 : Addr) (w0 : World) (R : Value → World → Prop) : Prop :=
 call Try.prog 113 [(.slice s_a s_n s_c), (.func (.func 78) #[] #[(.pointer (some cap1_0))])] (.one (.one (.int .i64))) w0 fun (x1 : Int) (w2 : World) =>
 R (.bool (decide (x1 ≥ 0))) w2
def H77b : Hints := ⟨[], [], [], []⟩
set_option maxRecDepth 100000 in
theorem S77b_eq (s_a : Option Addr) (s_n : Nat) (s_c : Nat) (cap1_0 : Addr) (w0 : World) (R : Value → World → Prop) : vcFn Try.prog H77b Try.f77 [(.slice s_a s_n s_c), (.func (.func 78) #[] #[(.pointer (some cap1_0))])] w0 R = S77b s_a s_n s_c cap1_0 w0 R := by kernel_rfl
set_option maxRecDepth 100000 in
theorem S77b_calls (s_a : Option Addr) (s_n : Nat) (s_c : Nat) (cap1_0 : Addr) (w0 : World) (R : Value → World → Prop) (h : S77b s_a s_n s_c cap1_0 w0 R) : Calls Try.prog 77 #[(.slice s_a s_n s_c), (.func (.func 78) #[] #[(.pointer (some cap1_0))])] w0 (ret R) := by
  rw [← S77b_eq] at h; exact vcFn_sound follows_ Try.func77 h

/-- slices.IndexFunc[[][]int64,[]int64] -/
def S113c (s_a : Option Addr) (s_n : Nat) (s_c : Nat) (cap1_0 : Addr) (w0 : World) (R : Value → World → Prop) : Prop :=
 loop (T := (Int × Unit)) (0, ()) w0 fun (again1 : (Int × Unit) → World → Prop) (s2 : (Int × Unit)) w3 => ∀ _ : Nat → Value,
 br (decide (s2.1 < ((s_n : Nat) : Int))) (rdp Try.prog (Instr.indexAt 41 (.slice s_a s_n s_c) (.int .i64 s2.1)) (.one .addr) fun (x4 : Addr) =>
 rd Try.prog (Instr.loadAt 40 (.pointer (some x4))) (.one .slice) w3 fun (x5 : (Option Addr × Nat × Nat)) =>
 call Try.prog 79 [(.slice x5.1 x5.2.1 x5.2.2), (.pointer (some cap1_0))] (.one (.one .bool)) w3 fun (x6 : Bool) (w7 : World) =>
 br x6 (R (.int .i64 s2.1) w7)
 (z (IntKind.wrap .i64 (s2.1 + 1)) fun (z8 : Int) =>
 again1 (z8, ()) w7))
 (R (.int .i64 (-1)) w3)
def H113c : Hints := ⟨[(2, 0, [(8, (.one (.int .i64)))])], [], [], []⟩
set_option maxRecDepth 100000 in
theorem S113c_eq (s_a : Option Addr) (s_n : Nat) (s_c : Nat) (cap1_0 : Addr) (w0 : World) (R : Value → World → Prop) : vcFn Try.prog H113c Try.f113 [(.slice s_a s_n s_c), (.func (.func 79) #[] #[(.pointer (some cap1_0))])] w0 R = S113c s_a s_n s_c cap1_0 w0 R := by kernel_rfl
set_option maxRecDepth 100000 in
theorem S113c_calls (s_a : Option Addr) (s_n : Nat) (s_c : Nat) (cap1_0 : Addr) (w0 : World) (R : Value → World → Prop) (h : S113c s_a s_n s_c cap1_0 w0 R) : Calls Try.prog 113 #[(.slice s_a s_n s_c), (.func (.func 79) #[] #[(.pointer (some cap1_0))])] w0 (ret R) := by
  rw [← S113c_eq] at h; exact vcFn_sound follows_ Try.func113 h

/-- slices.ContainsFunc[[][]int64,[]int64] -/
def S77c (s_a : Option Addr) (s_n : Nat) (s_c : Nat) (cap1_0 : Addr) (w0 : World) (R : Value → World → Prop) : Prop :=
 call Try.prog 113 [(.slice s_a s_n s_c), (.func (.func 79) #[] #[(.pointer (some cap1_0))])] (.one (.one (.int .i64))) w0 fun (x1 : Int) (w2 : World) =>
 R (.bool (decide (x1 ≥ 0))) w2
def H77c : Hints := ⟨[], [], [], []⟩
set_option maxRecDepth 100000 in
theorem S77c_eq (s_a : Option Addr) (s_n : Nat) (s_c : Nat) (cap1_0 : Addr) (w0 : World) (R : Value → World → Prop) : vcFn Try.prog H77c Try.f77 [(.slice s_a s_n s_c), (.func (.func 79) #[] #[(.pointer (some cap1_0))])] w0 R = S77c s_a s_n s_c cap1_0 w0 R := by kernel_rfl
set_option maxRecDepth 100000 in
theorem S77c_calls (s_a : Option Addr) (s_n : Nat) (s_c : Nat) (cap1_0 : Addr) (w0 : World) (R : Value → World → Prop) (h : S77c s_a s_n s_c cap1_0 w0 R) : Calls Try.prog 77 #[(.slice s_a s_n s_c), (.func (.func 79) #[] #[(.pointer (some cap1_0))])] w0 (ret R) := by
  rw [← S77c_eq] at h; exact vcFn_sound follows_ Try.func77 h

/-- querylab/linear.Valid -/
def S30 (s_0a : Option Addr) (s_0n : Nat) (s_0c : Nat) (s_1a : Option Addr) (s_1n : Nat) (s_1c : Nat) (s_2a : Option Addr) (s_2n : Nat) (s_2c : Nat) (w0 : World) (R : Value → World → Prop) : Prop :=
 wr Try.prog (Instr.box 43 (.agg #[(.slice s_0a s_0n s_0c), (.slice s_1a s_1n s_1c), (.slice s_2a s_2n s_2c)])) (.one .addr) w0 fun (x1 : Addr) (w2 : World) =>
 rd Try.prog (Instr.loadAt 40 (.pointer (some x1))) (.one .slice) w2 fun (x3 : (Option Addr × Nat × Nat)) =>
 br (decide (((x3.2.1 : Nat) : Int) > 200)) (R (.int .i64 8) w2)
 (rd Try.prog (Instr.loadAt 41 (.pointer (some (Addr.add x1 1)))) (.one .slice) w2 fun (x4 : (Option Addr × Nat × Nat)) =>
 br (decide (((x4.2.1 : Nat) : Int) > 100)) (R (.int .i64 8) w2)
 (wr Try.prog (Instr.alloc 100 true (.tuple #[])) (.one .addr) w2 fun (x5 : Addr) (w6 : World) =>
 wu Try.prog (Instr.storeAt 100 (.pointer (some x5)) (.func (.func 73) #[] #[])) w6 fun (w7 : World) =>
 rdF Try.prog bel (Instr.loadAt 100 (.pointer (some x5))) w7 fun (h8 : Nat) (h8f h8c : Array Value) =>
 rd Try.prog (Instr.loadAt 40 (.pointer (some x1))) (.one .slice) w7 fun (x9 : (Option Addr × Nat × Nat)) =>
 callX Try.prog h8 (h8f ++ (#[(.slice x9.1 x9.2.1 x9.2.2), (.int .i64 0), (.int .i64 1000000000)] : Array Value) ++ h8c).toList (.one (.one .bool)) w7 fun (x10 : Bool) (w11 : World) =>
 br x10 (R (.int .i64 8) w11)
 (rdF Try.prog bel (Instr.loadAt 100 (.pointer (some x5))) w11 fun (h12 : Nat) (h12f h12c : Array Value) =>
 rd Try.prog (Instr.loadAt 40 (.pointer (some (Addr.add x1 2)))) (.one .slice) w11 fun (x13 : (Option Addr × Nat × Nat)) =>
 callX Try.prog h12 (h12f ++ (#[(.slice x13.1 x13.2.1 x13.2.2), (.int .i64 (-1000000000)), (.int .i64 1000000000)] : Array Value) ++ h12c).toList (.one (.one .bool)) w11 fun (x14 : Bool) (w15 : World) =>
 br x14 (R (.int .i64 8) w15)
 (rd Try.prog (Instr.loadAt 41 (.pointer (some (Addr.add x1 1)))) (.one .slice) w15 fun (x16 : (Option Addr × Nat × Nat)) =>
 call Try.prog 77 [(.slice x16.1 x16.2.1 x16.2.2), (.func (.func 78) #[] #[(.pointer (some x5))])] (.one (.one .bool)) w15 fun (x17 : Bool) (w18 : World) =>
 br x17 (R (.int .i64 8) w18)
 (rd Try.prog (Instr.loadAt 40 (.pointer (some (Addr.add x1 2)))) (.one .slice) w18 fun (x19 : (Option Addr × Nat × Nat)) =>
 rd Try.prog (Instr.loadAt 41 (.pointer (some (Addr.add x1 1)))) (.one .slice) w18 fun (x20 : (Option Addr × Nat × Nat)) =>
 br (((x19.2.1 : Nat) : Int) != ((x20.2.1 : Nat) : Int)) (R (.int .i64 9) w18)
 (rd Try.prog (Instr.loadAt 41 (.pointer (some (Addr.add x1 1)))) (.one .slice) w18 fun (x21 : (Option Addr × Nat × Nat)) =>
 call Try.prog 77 [(.slice x21.1 x21.2.1 x21.2.2), (.func (.func 79) #[] #[(.pointer (some x1))])] (.one (.one .bool)) w18 fun (x22 : Bool) (w23 : World) =>
 br x22 (R (.int .i64 9) w23)
 (R (.int .i64 0) w23)))))))
def H30 : Hints := ⟨[], [], [], []⟩
set_option maxRecDepth 100000 in
theorem S30_eq (s_0a : Option Addr) (s_0n : Nat) (s_0c : Nat) (s_1a : Option Addr) (s_1n : Nat) (s_1c : Nat) (s_2a : Option Addr) (s_2n : Nat) (s_2c : Nat) (w0 : World) (R : Value → World → Prop) : vcFn Try.prog H30 Try.f30 [(.agg #[(.slice s_0a s_0n s_0c), (.slice s_1a s_1n s_1c), (.slice s_2a s_2n s_2c)])] w0 R = S30 s_0a s_0n s_0c s_1a s_1n s_1c s_2a s_2n s_2c w0 R := by kernel_rfl
set_option maxRecDepth 100000 in
theorem S30_calls (s_0a : Option Addr) (s_0n : Nat) (s_0c : Nat) (s_1a : Option Addr) (s_1n : Nat) (s_1c : Nat) (s_2a : Option Addr) (s_2n : Nat) (s_2c : Nat) (w0 : World) (R : Value → World → Prop) (h : S30 s_0a s_0n s_0c s_1a s_1n s_1c s_2a s_2n s_2c w0 R) : Calls Try.prog 30 #[(.agg #[(.slice s_0a s_0n s_0c), (.slice s_1a s_1n s_1c), (.slice s_2a s_2n s_2c)])] w0 (ret R) := by
  rw [← S30_eq] at h; exact vcFn_sound follows_ Try.func30 h

/-- querylab/integral.Check -/
def S44 (s_0a : Option Addr) (s_0n : Nat) (s_0c : Nat) (s_1a : Option Addr) (s_1n : Nat) (s_1c : Nat) (s_2a : Option Addr) (s_2n : Nat) (s_2c : Nat) (x_a : Option Addr) (x_n : Nat) (x_c : Nat) (w0 : World) (R : Value → World → Prop) : Prop :=
 wr Try.prog (Instr.box 43 (.agg #[(.slice s_0a s_0n s_0c), (.slice s_1a s_1n s_1c), (.slice s_2a s_2n s_2c)])) (.one .addr) w0 fun (x1 : Addr) (w2 : World) =>
 rd Try.prog (Instr.loadAt 43 (.pointer (some x1))) (.agg [.slice, .slice, .slice]) w2 fun (x3 : ((Option Addr × Nat × Nat) × (Option Addr × Nat × Nat) × (Option Addr × Nat × Nat) × Unit)) =>
 call Try.prog 30 [(.agg #[(.slice x3.1.1 x3.1.2.1 x3.1.2.2), (.slice x3.2.1.1 x3.2.1.2.1 x3.2.1.2.2), (.slice x3.2.2.1.1 x3.2.2.1.2.1 x3.2.2.1.2.2)])] (.one (.one (.int .i64))) w2 fun (x4 : Int) (w5 : World) =>
 br (x4 != 0) (R (.bool false) w5)
 (rd Try.prog (Instr.loadAt 40 (.pointer (some x1))) (.one .slice) w5 fun (x6 : (Option Addr × Nat × Nat)) =>
 br (((x_n : Nat) : Int) != ((x6.2.1 : Nat) : Int)) (R (.bool false) w5)
 (loop (T := (Int × Unit)) (0, ()) w5 fun (again7 : (Int × Unit) → World → Prop) (s8 : (Int × Unit)) w9 => ∀ _ : Nat → Value,
 br (decide (s8.1 < ((x_n : Nat) : Int))) (rdp Try.prog (Instr.indexAt 40 (.slice x_a x_n x_c) (.int .i64 s8.1)) (.one .addr) fun (x10 : Addr) =>
 rd Try.prog (Instr.loadAt 2 (.pointer (some x10))) (.one (.int .i64)) w9 fun (x11 : Int) =>
 br (decide (x11 < 0)) (R (.bool false) w9)
 (rd Try.prog (Instr.loadAt 40 (.pointer (some x1))) (.one .slice) w9 fun (x12 : (Option Addr × Nat × Nat)) =>
 rdp Try.prog (Instr.indexAt 40 (.slice x12.1 x12.2.1 x12.2.2) (.int .i64 s8.1)) (.one .addr) fun (x13 : Addr) =>
 rd Try.prog (Instr.loadAt 2 (.pointer (some x13))) (.one (.int .i64)) w9 fun (x14 : Int) =>
 br (decide (x11 > x14)) (R (.bool false) w9)
 (z (IntKind.wrap .i64 (s8.1 + 1)) fun (z15 : Int) =>
 again7 (z15, ()) w9)))
 (rd Try.prog (Instr.loadAt 41 (.pointer (some (Addr.add x1 1)))) (.one .slice) w9 fun (x16 : (Option Addr × Nat × Nat)) =>
 loop (T := (Int × Unit)) (0, ()) w9 fun (again17 : (Int × Unit) → World → Prop) (s18 : (Int × Unit)) w19 => ∀ _ : Nat → Value,
 br (decide (s18.1 < ((x16.2.1 : Nat) : Int))) (rdp Try.prog (Instr.indexAt 41 (.slice x16.1 x16.2.1 x16.2.2) (.int .i64 s18.1)) (.one .addr) fun (x20 : Addr) =>
 rd Try.prog (Instr.loadAt 40 (.pointer (some x20))) (.one .slice) w19 fun (x21 : (Option Addr × Nat × Nat)) =>
 loop (T := (Int × Int × Unit)) (0, 0, ()) w19 fun (again22 : (Int × Int × Unit) → World → Prop) (s23 : (Int × Int × Unit)) w24 => ∀ _ : Nat → Value,
 br (decide (s23.2.1 < ((x21.2.1 : Nat) : Int))) (rdp Try.prog (Instr.indexAt 40 (.slice x21.1 x21.2.1 x21.2.2) (.int .i64 s23.2.1)) (.one .addr) fun (x25 : Addr) =>
 rd Try.prog (Instr.loadAt 2 (.pointer (some x25))) (.one (.int .i64)) w24 fun (x26 : Int) =>
 rdp Try.prog (Instr.indexAt 40 (.slice x_a x_n x_c) (.int .i64 s23.2.1)) (.one .addr) fun (x27 : Addr) =>
 rd Try.prog (Instr.loadAt 2 (.pointer (some x27))) (.one (.int .i64)) w24 fun (x28 : Int) =>
 z (IntKind.wrap .i64 (x26 * x28)) fun (z29 : Int) =>
 z (IntKind.wrap .i64 (s23.1 + z29)) fun (z30 : Int) =>
 z (IntKind.wrap .i64 (s23.2.1 + 1)) fun (z31 : Int) =>
 again22 (z30, z31, ()) w24)
 (rd Try.prog (Instr.loadAt 40 (.pointer (some (Addr.add x1 2)))) (.one .slice) w24 fun (x32 : (Option Addr × Nat × Nat)) =>
 rdp Try.prog (Instr.indexAt 40 (.slice x32.1 x32.2.1 x32.2.2) (.int .i64 s18.1)) (.one .addr) fun (x33 : Addr) =>
 rd Try.prog (Instr.loadAt 2 (.pointer (some x33))) (.one (.int .i64)) w24 fun (x34 : Int) =>
 br (s23.1 != x34) (R (.bool false) w24)
 (z (IntKind.wrap .i64 (s18.1 + 1)) fun (z35 : Int) =>
 again17 (z35, ()) w24)))
 (R (.bool true) w19))))
def H44 : Hints := ⟨[(2, 0, [(25, (.one (.int .i64)))]), (2, 2, [(45, (.one (.int .i64)))]), (2, 4, [(9, (.one (.int .i64))), (52, (.one (.int .i64)))])], [], [], []⟩
set_option maxRecDepth 100000 in
theorem S44_eq (s_0a : Option Addr) (s_0n : Nat) (s_0c : Nat) (s_1a : Option Addr) (s_1n : Nat) (s_1c : Nat) (s_2a : Option Addr) (s_2n : Nat) (s_2c : Nat) (x_a : Option Addr) (x_n : Nat) (x_c : Nat) (w0 : World) (R : Value → World → Prop) : vcFn Try.prog H44 Try.f44 [(.agg #[(.slice s_0a s_0n s_0c), (.slice s_1a s_1n s_1c), (.slice s_2a s_2n s_2c)]), (.slice x_a x_n x_c)] w0 R = S44 s_0a s_0n s_0c s_1a s_1n s_1c s_2a s_2n s_2c x_a x_n x_c w0 R := by kernel_rfl
set_option maxRecDepth 100000 in
theorem S44_calls (s_0a : Option Addr) (s_0n : Nat) (s_0c : Nat) (s_1a : Option Addr) (s_1n : Nat) (s_1c : Nat) (s_2a : Option Addr) (s_2n : Nat) (s_2c : Nat) (x_a : Option Addr) (x_n : Nat) (x_c : Nat) (w0 : World) (R : Value → World → Prop) (h : S44 s_0a s_0n s_0c s_1a s_1n s_1c s_2a s_2n s_2c x_a x_n x_c w0 R) : Calls Try.prog 44 #[(.agg #[(.slice s_0a s_0n s_0c), (.slice s_1a s_1n s_1c), (.slice s_2a s_2n s_2c)]), (.slice x_a x_n x_c)] w0 (ret R) := by
  rw [← S44_eq] at h; exact vcFn_sound follows_ Try.func44 h

/-- querylab/querylabref12.Check -/
def S45 (s_0a : Option Addr) (s_0n : Nat) (s_0c : Nat) (s_1a : Option Addr) (s_1n : Nat) (s_1c : Nat) (s_2a : Option Addr) (s_2n : Nat) (s_2c : Nat) (x_a : Option Addr) (x_n : Nat) (x_c : Nat) (w0 : World) (R : Value → World → Prop) : Prop :=
 wr Try.prog (Instr.box 43 (.agg #[(.slice s_0a s_0n s_0c), (.slice s_1a s_1n s_1c), (.slice s_2a s_2n s_2c)])) (.one .addr) w0 fun (x1 : Addr) (w2 : World) =>
 loop (T := ((Option Addr × Nat × Nat) × Int × Unit)) ((none, 0, 0), 0, ()) w2 fun (again3 : ((Option Addr × Nat × Nat) × Int × Unit) → World → Prop) (s4 : ((Option Addr × Nat × Nat) × Int × Unit)) w5 => ∀ _ : Nat → Value,
 br (decide (s4.2.1 < ((x_n : Nat) : Int))) (rdp Try.prog (Instr.indexAt 40 (.slice x_a x_n x_c) (.int .i64 s4.2.1)) (.one .addr) fun (x6 : Addr) =>
 rd Try.prog (Instr.loadAt 2 (.pointer (some x6))) (.one (.int .i64)) w5 fun (x7 : Int) =>
 wr Try.prog (Instr.buildSlice 33 1 #[(0, (.agg #[(.int .i64 x7), (.int .i64 1)]))]) (.one .slice) w5 fun (x8 : (Option Addr × Nat × Nat)) (w9 : World) =>
 wr Try.prog (Builtin.append_ #[33, 33] 33 #[(.slice s4.1.1 s4.1.2.1 s4.1.2.2), (.slice x8.1 x8.2.1 x8.2.2)]) (.one .slice) w9 fun (x10 : (Option Addr × Nat × Nat)) (w11 : World) =>
 z (IntKind.wrap .i64 (s4.2.1 + 1)) fun (z12 : Int) =>
 again3 ((x10.1, x10.2.1, x10.2.2), z12, ()) w11)
 (rd Try.prog (Instr.loadAt 43 (.pointer (some x1))) (.agg [.slice, .slice, .slice]) w5 fun (x13 : ((Option Addr × Nat × Nat) × (Option Addr × Nat × Nat) × (Option Addr × Nat × Nat) × Unit)) =>
 call Try.prog 33 [(.agg #[(.slice x13.1.1 x13.1.2.1 x13.1.2.2), (.slice x13.2.1.1 x13.2.1.2.1 x13.2.1.2.2), (.slice x13.2.2.1.1 x13.2.2.1.2.1 x13.2.2.1.2.2)]), (.slice s4.1.1 s4.1.2.1 s4.1.2.2)] (.one (.one .bool)) w5 fun (x14 : Bool) (w15 : World) =>
 R (.bool x14) w15)
def H45 : Hints := ⟨[(2, 0, [(5, (.one .slice)), (6, (.one (.int .i64)))])], [], [], []⟩
set_option maxRecDepth 100000 in
theorem S45_eq (s_0a : Option Addr) (s_0n : Nat) (s_0c : Nat) (s_1a : Option Addr) (s_1n : Nat) (s_1c : Nat) (s_2a : Option Addr) (s_2n : Nat) (s_2c : Nat) (x_a : Option Addr) (x_n : Nat) (x_c : Nat) (w0 : World) (R : Value → World → Prop) : vcFn Try.prog H45 Try.f45 [(.agg #[(.slice s_0a s_0n s_0c), (.slice s_1a s_1n s_1c), (.slice s_2a s_2n s_2c)]), (.slice x_a x_n x_c)] w0 R = S45 s_0a s_0n s_0c s_1a s_1n s_1c s_2a s_2n s_2c x_a x_n x_c w0 R := by kernel_rfl
set_option maxRecDepth 100000 in
theorem S45_calls (s_0a : Option Addr) (s_0n : Nat) (s_0c : Nat) (s_1a : Option Addr) (s_1n : Nat) (s_1c : Nat) (s_2a : Option Addr) (s_2n : Nat) (s_2c : Nat) (x_a : Option Addr) (x_n : Nat) (x_c : Nat) (w0 : World) (R : Value → World → Prop) (h : S45 s_0a s_0n s_0c s_1a s_1n s_1c s_2a s_2n s_2c x_a x_n x_c w0 R) : Calls Try.prog 45 #[(.agg #[(.slice s_0a s_0n s_0c), (.slice s_1a s_1n s_1c), (.slice s_2a s_2n s_2c)]), (.slice x_a x_n x_c)] w0 (ret R) := by
  rw [← S45_eq] at h; exact vcFn_sound follows_ Try.func45 h

/-- querylab/querylabref11.CheckSolution -/
def S33 (s_0a : Option Addr) (s_0n : Nat) (s_0c : Nat) (s_1a : Option Addr) (s_1n : Nat) (s_1c : Nat) (s_2a : Option Addr) (s_2n : Nat) (s_2c : Nat) (x_a : Option Addr) (x_n : Nat) (x_c : Nat) (w0 : World) (R : Value → World → Prop) : Prop :=
 wr Try.prog (Instr.box 43 (.agg #[(.slice s_0a s_0n s_0c), (.slice s_1a s_1n s_1c), (.slice s_2a s_2n s_2c)])) (.one .addr) w0 fun (x1 : Addr) (w2 : World) =>
 rd Try.prog (Instr.loadAt 43 (.pointer (some x1))) (.agg [.slice, .slice, .slice]) w2 fun (x3 : ((Option Addr × Nat × Nat) × (Option Addr × Nat × Nat) × (Option Addr × Nat × Nat) × Unit)) =>
 call Try.prog 31 [(.agg #[(.slice x3.1.1 x3.1.2.1 x3.1.2.2), (.slice x3.2.1.1 x3.2.1.2.1 x3.2.1.2.2), (.slice x3.2.2.1.1 x3.2.2.1.2.1 x3.2.2.1.2.2)])] (.one (.one (.int .i64))) w2 fun (x4 : Int) (w5 : World) =>
 br (x4 != 0) (R (.bool false) w5)
 (rd Try.prog (Instr.loadAt 40 (.pointer (some x1))) (.one .slice) w5 fun (x6 : (Option Addr × Nat × Nat)) =>
 br (((x_n : Nat) : Int) != ((x6.2.1 : Nat) : Int)) (R (.bool false) w5)
 (loop (T := (Int × Unit)) (0, ()) w5 fun (again7 : (Int × Unit) → World → Prop) (s8 : (Int × Unit)) w9 => ∀ _ : Nat → Value,
 br (decide (s8.1 < ((x_n : Nat) : Int))) (drw w9 fun w10 => flEx fun F11 =>
 rdp Try.prog (Instr.indexAt 33 (.slice x_a x_n x_c) (.int .i64 s8.1)) (.one .addr) fun (x12 : Addr) =>
 rd Try.prog (Instr.loadAt 23 (.pointer (some x12))) (.agg [(.int .i64), (.int .i64)]) w10 fun (x13 : (Int × Int × Unit)) =>
 flc bel w10 (fun _w15 => True) (fun (w14 : World) =>
   call Try.prog 15 [(.agg #[(.int .i64 x13.1), (.int .i64 x13.2.1)])] (.one (.one .bool)) w14 fun (x16 : Bool) (w17 : World) =>
 (bel w14 w17 ∧ F11 4 [(.agg #[(.int .i64 x13.1), (.int .i64 x13.2.1)])] (.bool x16) w17))
  fun (x18 : Bool) =>
 br (!x18) (flend bel w10 (fun w20 => F11 4 [(.agg #[(.int .i64 x13.1), (.int .i64 x13.2.1)])] (.bool x18) w20 ∧ True) fun w19 =>
 R (.bool false) w19)
 (rdp Try.prog (Instr.indexAt 33 (.slice x_a x_n x_c) (.int .i64 s8.1)) (.one .addr) fun (x21 : Addr) =>
 rd Try.prog (Instr.loadAt 2 (.pointer (some x21))) (.one (.int .i64)) w10 fun (x22 : Int) =>
 br (decide (x22 < 0)) (flend bel w10 (fun w24 => F11 4 [(.agg #[(.int .i64 x13.1), (.int .i64 x13.2.1)])] (.bool x18) w24 ∧ True) fun w23 =>
 R (.bool false) w23)
 (rd Try.prog (Instr.loadAt 40 (.pointer (some x1))) (.one .slice) w10 fun (x25 : (Option Addr × Nat × Nat)) =>
 rdp Try.prog (Instr.indexAt 40 (.slice x25.1 x25.2.1 x25.2.2) (.int .i64 s8.1)) (.one .addr) fun (x26 : Addr) =>
 rd Try.prog (Instr.loadAt 2 (.pointer (some x26))) (.one (.int .i64)) w10 fun (x27 : Int) =>
 flc bel w10 (fun w29 => F11 4 [(.agg #[(.int .i64 x13.1), (.int .i64 x13.2.1)])] (.bool x18) w29 ∧ True) (fun (w28 : World) =>
   call Try.prog 83 [(.int .i64 x27)] (.one (.agg [.bool, .slice, .slice])) w28 fun (x30 : (Bool × (Option Addr × Nat × Nat) × (Option Addr × Nat × Nat) × Unit)) (w31 : World) =>
 (bel w28 w31 ∧ F11 20 [(.int .i64 x27)] (.agg #[(.bool x30.1), (.slice x30.2.1.1 x30.2.1.2.1 x30.2.1.2.2), (.slice x30.2.2.1.1 x30.2.2.1.2.1 x30.2.2.1.2.2)]) w31))
  fun (x32 : (Bool × (Option Addr × Nat × Nat) × (Option Addr × Nat × Nat) × Unit)) =>
 rdp Try.prog (Instr.indexAt 33 (.slice x_a x_n x_c) (.int .i64 s8.1)) (.one .addr) fun (x33 : Addr) =>
 rd Try.prog (Instr.loadAt 23 (.pointer (some x33))) (.agg [(.int .i64), (.int .i64)]) w10 fun (x34 : (Int × Int × Unit)) =>
 flend bel w10 (fun w36 => F11 20 [(.int .i64 x27)] (.agg #[(.bool x32.1), (.slice x32.2.1.1 x32.2.1.2.1 x32.2.1.2.2), (.slice x32.2.2.1.1 x32.2.2.1.2.1 x32.2.2.1.2.2)]) w36 ∧ F11 4 [(.agg #[(.int .i64 x13.1), (.int .i64 x13.2.1)])] (.bool x18) w36 ∧ True) fun w35 =>
 call Try.prog 63 [(.agg #[(.int .i64 x34.1), (.int .i64 x34.2.1)])] (.one (.agg [.bool, .slice, .slice])) w35 fun (x37 : (Bool × (Option Addr × Nat × Nat) × (Option Addr × Nat × Nat) × Unit)) (w38 : World) =>
 call Try.prog 82 [(.agg #[(.bool x32.1), (.slice x32.2.1.1 x32.2.1.2.1 x32.2.1.2.2), (.slice x32.2.2.1.1 x32.2.2.1.2.1 x32.2.2.1.2.2)]), (.agg #[(.bool x37.1), (.slice x37.2.1.1 x37.2.1.2.1 x37.2.1.2.2), (.slice x37.2.2.1.1 x37.2.2.1.2.1 x37.2.2.1.2.2)])] (.one (.one .bool)) w38 fun (x39 : Bool) (w40 : World) =>
 br x39 (R (.bool false) w40)
 (z (IntKind.wrap .i64 (s8.1 + 1)) fun (z41 : Int) =>
 again7 (z41, ()) w40))))
 (loop (T := (Int × Unit)) (0, ()) w9 fun (again42 : (Int × Unit) → World → Prop) (s43 : (Int × Unit)) w44 => ∀ _ : Nat → Value,
 rd Try.prog (Instr.loadAt 41 (.pointer (some (Addr.add x1 1)))) (.one .slice) w44 fun (x45 : (Option Addr × Nat × Nat)) =>
 br (decide (s43.1 < ((x45.2.1 : Nat) : Int))) (call Try.prog 83 [(.int .i64 0)] (.one (.agg [.bool, .slice, .slice])) w44 fun (x46 : (Bool × (Option Addr × Nat × Nat) × (Option Addr × Nat × Nat) × Unit)) (w47 : World) =>
 wr Try.prog (Instr.alloc 90 true (.tuple #[])) (.one .addr) w47 fun (x48 : Addr) (w49 : World) =>
 wu Try.prog (Instr.storeAt 90 (.pointer (some x48)) (.agg #[(.bool x46.1), (.slice x46.2.1.1 x46.2.1.2.1 x46.2.1.2.2), (.slice x46.2.2.1.1 x46.2.2.1.2.1 x46.2.2.1.2.2)])) w49 fun (w50 : World) =>
 loop (T := (Int × Unit)) (0, ()) w50 fun (again51 : (Int × Unit) → World → Prop) (s52 : (Int × Unit)) w53 => ∀ _ : Nat → Value,
 br (decide (s52.1 < ((x_n : Nat) : Int))) (join (T := (Unit)) (fun (_s55 : (Unit)) w56 => ∀ _ : Nat → Value,
 z (IntKind.wrap .i64 (s52.1 + 1)) fun (z57 : Int) =>
 again51 (z57, ()) w56)
  fun (K54 : (Unit) → World → Prop) =>
 rdp Try.prog (Instr.indexAt 33 (.slice x_a x_n x_c) (.int .i64 s52.1)) (.one .addr) fun (x58 : Addr) =>
 rd Try.prog (Instr.loadAt 2 (.pointer (some x58))) (.one (.int .i64)) w53 fun (x59 : Int) =>
 br (x59 != 0) (rd Try.prog (Instr.loadAt 41 (.pointer (some (Addr.add x1 1)))) (.one .slice) w53 fun (x60 : (Option Addr × Nat × Nat)) =>
 rdp Try.prog (Instr.indexAt 41 (.slice x60.1 x60.2.1 x60.2.2) (.int .i64 s43.1)) (.one .addr) fun (x61 : Addr) =>
 rd Try.prog (Instr.loadAt 40 (.pointer (some x61))) (.one .slice) w53 fun (x62 : (Option Addr × Nat × Nat)) =>
 rdp Try.prog (Instr.indexAt 40 (.slice x62.1 x62.2.1 x62.2.2) (.int .i64 s52.1)) (.one .addr) fun (x63 : Addr) =>
 rd Try.prog (Instr.loadAt 2 (.pointer (some x63))) (.one (.int .i64)) w53 fun (x64 : Int) =>
 br (x64 != 0) (drw w53 fun w65 => flEx fun F66 =>
 rd Try.prog (Instr.loadAt 90 (.pointer (some x48))) (.agg [.bool, .slice, .slice]) w65 fun (x67 : (Bool × (Option Addr × Nat × Nat) × (Option Addr × Nat × Nat) × Unit)) =>
 rdp Try.prog (Instr.indexAt 33 (.slice x_a x_n x_c) (.int .i64 s52.1)) (.one .addr) fun (x68 : Addr) =>
 rd Try.prog (Instr.loadAt 23 (.pointer (some x68))) (.agg [(.int .i64), (.int .i64)]) w65 fun (x69 : (Int × Int × Unit)) =>
 flc bel w65 (fun _w71 => True) (fun (w70 : World) =>
   call Try.prog 63 [(.agg #[(.int .i64 x69.1), (.int .i64 x69.2.1)])] (.one (.agg [.bool, .slice, .slice])) w70 fun (x72 : (Bool × (Option Addr × Nat × Nat) × (Option Addr × Nat × Nat) × Unit)) (w73 : World) =>
 (bel w70 w73 ∧ F66 5 [(.agg #[(.int .i64 x69.1), (.int .i64 x69.2.1)])] (.agg #[(.bool x72.1), (.slice x72.2.1.1 x72.2.1.2.1 x72.2.1.2.2), (.slice x72.2.2.1.1 x72.2.2.1.2.1 x72.2.2.1.2.2)]) w73))
  fun (x74 : (Bool × (Option Addr × Nat × Nat) × (Option Addr × Nat × Nat) × Unit)) =>
 rd Try.prog (Instr.loadAt 41 (.pointer (some (Addr.add x1 1)))) (.one .slice) w65 fun (x75 : (Option Addr × Nat × Nat)) =>
 rdp Try.prog (Instr.indexAt 41 (.slice x75.1 x75.2.1 x75.2.2) (.int .i64 s43.1)) (.one .addr) fun (x76 : Addr) =>
 rd Try.prog (Instr.loadAt 40 (.pointer (some x76))) (.one .slice) w65 fun (x77 : (Option Addr × Nat × Nat)) =>
 rdp Try.prog (Instr.indexAt 40 (.slice x77.1 x77.2.1 x77.2.2) (.int .i64 s52.1)) (.one .addr) fun (x78 : Addr) =>
 rd Try.prog (Instr.loadAt 2 (.pointer (some x78))) (.one (.int .i64)) w65 fun (x79 : Int) =>
 flc bel w65 (fun w81 => F66 5 [(.agg #[(.int .i64 x69.1), (.int .i64 x69.2.1)])] (.agg #[(.bool x74.1), (.slice x74.2.1.1 x74.2.1.2.1 x74.2.1.2.2), (.slice x74.2.2.1.1 x74.2.2.1.2.1 x74.2.2.1.2.2)]) w81 ∧ True) (fun (w80 : World) =>
   call Try.prog 83 [(.int .i64 x79)] (.one (.agg [.bool, .slice, .slice])) w80 fun (x82 : (Bool × (Option Addr × Nat × Nat) × (Option Addr × Nat × Nat) × Unit)) (w83 : World) =>
 (bel w80 w83 ∧ F66 14 [(.int .i64 x79)] (.agg #[(.bool x82.1), (.slice x82.2.1.1 x82.2.1.2.1 x82.2.1.2.2), (.slice x82.2.2.1.1 x82.2.2.1.2.1 x82.2.2.1.2.2)]) w83))
  fun (x84 : (Bool × (Option Addr × Nat × Nat) × (Option Addr × Nat × Nat) × Unit)) =>
 flc bel w65 (fun w86 => F66 14 [(.int .i64 x79)] (.agg #[(.bool x84.1), (.slice x84.2.1.1 x84.2.1.2.1 x84.2.1.2.2), (.slice x84.2.2.1.1 x84.2.2.1.2.1 x84.2.2.1.2.2)]) w86 ∧ F66 5 [(.agg #[(.int .i64 x69.1), (.int .i64 x69.2.1)])] (.agg #[(.bool x74.1), (.slice x74.2.1.1 x74.2.1.2.1 x74.2.1.2.2), (.slice x74.2.2.1.1 x74.2.2.1.2.1 x74.2.2.1.2.2)]) w86 ∧ True) (fun (w85 : World) =>
   call Try.prog 69 [(.agg #[(.bool x74.1), (.slice x74.2.1.1 x74.2.1.2.1 x74.2.1.2.2), (.slice x74.2.2.1.1 x74.2.2.1.2.1 x74.2.2.1.2.2)]), (.agg #[(.bool x84.1), (.slice x84.2.1.1 x84.2.1.2.1 x84.2.1.2.2), (.slice x84.2.2.1.1 x84.2.2.1.2.1 x84.2.2.1.2.2)])] (.one (.agg [.bool, .slice, .slice])) w85 fun (x87 : (Bool × (Option Addr × Nat × Nat) × (Option Addr × Nat × Nat) × Unit)) (w88 : World) =>
 (bel w85 w88 ∧ F66 15 [(.agg #[(.bool x74.1), (.slice x74.2.1.1 x74.2.1.2.1 x74.2.1.2.2), (.slice x74.2.2.1.1 x74.2.2.1.2.1 x74.2.2.1.2.2)]), (.agg #[(.bool x84.1), (.slice x84.2.1.1 x84.2.1.2.1 x84.2.1.2.2), (.slice x84.2.2.1.1 x84.2.2.1.2.1 x84.2.2.1.2.2)])] (.agg #[(.bool x87.1), (.slice x87.2.1.1 x87.2.1.2.1 x87.2.1.2.2), (.slice x87.2.2.1.1 x87.2.2.1.2.1 x87.2.2.1.2.2)]) w88))
  fun (x89 : (Bool × (Option Addr × Nat × Nat) × (Option Addr × Nat × Nat) × Unit)) =>
 flend bel w65 (fun w91 => F66 15 [(.agg #[(.bool x74.1), (.slice x74.2.1.1 x74.2.1.2.1 x74.2.1.2.2), (.slice x74.2.2.1.1 x74.2.2.1.2.1 x74.2.2.1.2.2)]), (.agg #[(.bool x84.1), (.slice x84.2.1.1 x84.2.1.2.1 x84.2.1.2.2), (.slice x84.2.2.1.1 x84.2.2.1.2.1 x84.2.2.1.2.2)])] (.agg #[(.bool x89.1), (.slice x89.2.1.1 x89.2.1.2.1 x89.2.1.2.2), (.slice x89.2.2.1.1 x89.2.2.1.2.1 x89.2.2.1.2.2)]) w91 ∧ F66 14 [(.int .i64 x79)] (.agg #[(.bool x84.1), (.slice x84.2.1.1 x84.2.1.2.1 x84.2.1.2.2), (.slice x84.2.2.1.1 x84.2.2.1.2.1 x84.2.2.1.2.2)]) w91 ∧ F66 5 [(.agg #[(.int .i64 x69.1), (.int .i64 x69.2.1)])] (.agg #[(.bool x74.1), (.slice x74.2.1.1 x74.2.1.2.1 x74.2.1.2.2), (.slice x74.2.2.1.1 x74.2.2.1.2.1 x74.2.2.1.2.2)]) w91 ∧ True) fun w90 =>
 call Try.prog 62 [(.agg #[(.bool x67.1), (.slice x67.2.1.1 x67.2.1.2.1 x67.2.1.2.2), (.slice x67.2.2.1.1 x67.2.2.1.2.1 x67.2.2.1.2.2)]), (.agg #[(.bool x89.1), (.slice x89.2.1.1 x89.2.1.2.1 x89.2.1.2.2), (.slice x89.2.2.1.1 x89.2.2.1.2.1 x89.2.2.1.2.2)])] (.one (.agg [.bool, .slice, .slice])) w90 fun (x92 : (Bool × (Option Addr × Nat × Nat) × (Option Addr × Nat × Nat) × Unit)) (w93 : World) =>
 wu Try.prog (Instr.storeAt 90 (.pointer (some x48)) (.agg #[(.bool x92.1), (.slice x92.2.1.1 x92.2.1.2.1 x92.2.1.2.2), (.slice x92.2.2.1.1 x92.2.2.1.2.1 x92.2.2.1.2.2)])) w93 fun (w94 : World) =>
 K54 (()) w94)
 (K54 (()) w53))
 (K54 (()) w53))
 (drw w53 fun w95 => flEx fun F96 =>
 rd Try.prog (Instr.loadAt 90 (.pointer (some x48))) (.agg [.bool, .slice, .slice]) w95 fun (x97 : (Bool × (Option Addr × Nat × Nat) × (Option Addr × Nat × Nat) × Unit)) =>
 rd Try.prog (Instr.loadAt 40 (.pointer (some (Addr.add x1 2)))) (.one .slice) w95 fun (x98 : (Option Addr × Nat × Nat)) =>
 rdp Try.prog (Instr.indexAt 40 (.slice x98.1 x98.2.1 x98.2.2) (.int .i64 s43.1)) (.one .addr) fun (x99 : Addr) =>
 rd Try.prog (Instr.loadAt 2 (.pointer (some x99))) (.one (.int .i64)) w95 fun (x100 : Int) =>
 z (IntKind.wrap .i64 (0 - x100)) fun (z101 : Int) =>
 flc bel w95 (fun _w103 => True) (fun (w102 : World) =>
   call Try.prog 83 [(.int .i64 z101)] (.one (.agg [.bool, .slice, .slice])) w102 fun (x104 : (Bool × (Option Addr × Nat × Nat) × (Option Addr × Nat × Nat) × Unit)) (w105 : World) =>
 (bel w102 w105 ∧ F96 7 [(.int .i64 z101)] (.agg #[(.bool x104.1), (.slice x104.2.1.1 x104.2.1.2.1 x104.2.1.2.2), (.slice x104.2.2.1.1 x104.2.2.1.2.1 x104.2.2.1.2.2)]) w105))
  fun (x106 : (Bool × (Option Addr × Nat × Nat) × (Option Addr × Nat × Nat) × Unit)) =>
 flend bel w95 (fun w108 => F96 7 [(.int .i64 z101)] (.agg #[(.bool x106.1), (.slice x106.2.1.1 x106.2.1.2.1 x106.2.1.2.2), (.slice x106.2.2.1.1 x106.2.2.1.2.1 x106.2.2.1.2.2)]) w108 ∧ True) fun w107 =>
 call Try.prog 62 [(.agg #[(.bool x97.1), (.slice x97.2.1.1 x97.2.1.2.1 x97.2.1.2.2), (.slice x97.2.2.1.1 x97.2.2.1.2.1 x97.2.2.1.2.2)]), (.agg #[(.bool x106.1), (.slice x106.2.1.1 x106.2.1.2.1 x106.2.1.2.2), (.slice x106.2.2.1.1 x106.2.2.1.2.1 x106.2.2.1.2.2)])] (.one (.agg [.bool, .slice, .slice])) w107 fun (x109 : (Bool × (Option Addr × Nat × Nat) × (Option Addr × Nat × Nat) × Unit)) (w110 : World) =>
 call Try.prog 72 [(.agg #[(.bool x109.1), (.slice x109.2.1.1 x109.2.1.2.1 x109.2.1.2.2), (.slice x109.2.2.1.1 x109.2.2.1.2.1 x109.2.2.1.2.2)])] (.one (.one (.int .i64))) w110 fun (x111 : Int) (w112 : World) =>
 br (x111 != 0) (R (.bool false) w112)
 (z (IntKind.wrap .i64 (s43.1 + 1)) fun (z113 : Int) =>
 again42 (z113, ()) w112)))
 (R (.bool true) w44))))
def H33 : Hints := ⟨[(2, 0, [(5, (.one (.int .i64)))]), (2, 2, [(6, (.one (.int .i64)))]), (2, 4, [(8, (.one (.int .i64)))]), (1, 5, [])], [(6, 25), (16, 16), (17, 8)], [], []⟩
set_option maxRecDepth 100000 in
theorem S33_eq (s_0a : Option Addr) (s_0n : Nat) (s_0c : Nat) (s_1a : Option Addr) (s_1n : Nat) (s_1c : Nat) (s_2a : Option Addr) (s_2n : Nat) (s_2c : Nat) (x_a : Option Addr) (x_n : Nat) (x_c : Nat) (w0 : World) (R : Value → World → Prop) : vcFn Try.prog H33 Try.f33 [(.agg #[(.slice s_0a s_0n s_0c), (.slice s_1a s_1n s_1c), (.slice s_2a s_2n s_2c)]), (.slice x_a x_n x_c)] w0 R = S33 s_0a s_0n s_0c s_1a s_1n s_1c s_2a s_2n s_2c x_a x_n x_c w0 R := by kernel_rfl
set_option maxRecDepth 100000 in
theorem S33_calls (s_0a : Option Addr) (s_0n : Nat) (s_0c : Nat) (s_1a : Option Addr) (s_1n : Nat) (s_1c : Nat) (s_2a : Option Addr) (s_2n : Nat) (s_2c : Nat) (x_a : Option Addr) (x_n : Nat) (x_c : Nat) (w0 : World) (R : Value → World → Prop) (h : S33 s_0a s_0n s_0c s_1a s_1n s_1c s_2a s_2n s_2c x_a x_n x_c w0 R) : Calls Try.prog 33 #[(.agg #[(.slice s_0a s_0n s_0c), (.slice s_1a s_1n s_1c), (.slice s_2a s_2n s_2c)]), (.slice x_a x_n x_c)] w0 (ret R) := by
  rw [← S33_eq] at h; exact vcFn_sound follows_ Try.func33 h

/-- querylab/querylablaw12.IntegralChecks -/
def S13 (s_0a : Option Addr) (s_0n : Nat) (s_0c : Nat) (s_1a : Option Addr) (s_1n : Nat) (s_1c : Nat) (s_2a : Option Addr) (s_2n : Nat) (s_2c : Nat) (x_a : Option Addr) (x_n : Nat) (x_c : Nat) (w0 : World) (R : Value → World → Prop) : Prop :=
 wr Try.prog (Instr.box 43 (.agg #[(.slice s_0a s_0n s_0c), (.slice s_1a s_1n s_1c), (.slice s_2a s_2n s_2c)])) (.one .addr) w0 fun (x1 : Addr) (w2 : World) =>
 rd Try.prog (Instr.loadAt 43 (.pointer (some x1))) (.agg [.slice, .slice, .slice]) w2 fun (x3 : ((Option Addr × Nat × Nat) × (Option Addr × Nat × Nat) × (Option Addr × Nat × Nat) × Unit)) =>
 call Try.prog 29 [(.agg #[(.slice x3.1.1 x3.1.2.1 x3.1.2.2), (.slice x3.2.1.1 x3.2.1.2.1 x3.2.1.2.2), (.slice x3.2.2.1.1 x3.2.2.1.2.1 x3.2.2.1.2.2)])] (.one (.one .bool)) w2 fun (x4 : Bool) (w5 : World) =>
 br (!x4) (R (.bool true) w5)
 (br (decide (((x_n : Nat) : Int) > 12)) (R (.bool true) w5)
 (drw w5 fun w6 => flEx fun F7 =>
 rd Try.prog (Instr.loadAt 43 (.pointer (some x1))) (.agg [.slice, .slice, .slice]) w6 fun (x8 : ((Option Addr × Nat × Nat) × (Option Addr × Nat × Nat) × (Option Addr × Nat × Nat) × Unit)) =>
 flc bel w6 (fun _w10 => True) (fun (w9 : World) =>
   call Try.prog 44 [(.agg #[(.slice x8.1.1 x8.1.2.1 x8.1.2.2), (.slice x8.2.1.1 x8.2.1.2.1 x8.2.1.2.2), (.slice x8.2.2.1.1 x8.2.2.1.2.1 x8.2.2.1.2.2)]), (.slice x_a x_n x_c)] (.one (.one .bool)) w9 fun (x11 : Bool) (w12 : World) =>
 (bel w9 w12 ∧ F7 2 [(.agg #[(.slice x8.1.1 x8.1.2.1 x8.1.2.2), (.slice x8.2.1.1 x8.2.1.2.1 x8.2.1.2.2), (.slice x8.2.2.1.1 x8.2.2.1.2.1 x8.2.2.1.2.2)]), (.slice x_a x_n x_c)] (.bool x11) w12))
  fun (x13 : Bool) =>
 rd Try.prog (Instr.loadAt 43 (.pointer (some x1))) (.agg [.slice, .slice, .slice]) w6 fun (x14 : ((Option Addr × Nat × Nat) × (Option Addr × Nat × Nat) × (Option Addr × Nat × Nat) × Unit)) =>
 flc bel w6 (fun w16 => F7 2 [(.agg #[(.slice x8.1.1 x8.1.2.1 x8.1.2.2), (.slice x8.2.1.1 x8.2.1.2.1 x8.2.1.2.2), (.slice x8.2.2.1.1 x8.2.2.1.2.1 x8.2.2.1.2.2)]), (.slice x_a x_n x_c)] (.bool x13) w16 ∧ True) (fun (w15 : World) =>
   call Try.prog 45 [(.agg #[(.slice x14.1.1 x14.1.2.1 x14.1.2.2), (.slice x14.2.1.1 x14.2.1.2.1 x14.2.1.2.2), (.slice x14.2.2.1.1 x14.2.2.1.2.1 x14.2.2.1.2.2)]), (.slice x_a x_n x_c)] (.one (.one .bool)) w15 fun (x17 : Bool) (w18 : World) =>
 (bel w15 w18 ∧ F7 5 [(.agg #[(.slice x14.1.1 x14.1.2.1 x14.1.2.2), (.slice x14.2.1.1 x14.2.1.2.1 x14.2.1.2.2), (.slice x14.2.2.1.1 x14.2.2.1.2.1 x14.2.2.1.2.2)]), (.slice x_a x_n x_c)] (.bool x17) w18))
  fun (x19 : Bool) =>
 br (x13 == x19) (flc bel w6 (fun w21 => F7 5 [(.agg #[(.slice x14.1.1 x14.1.2.1 x14.1.2.2), (.slice x14.2.1.1 x14.2.1.2.1 x14.2.1.2.2), (.slice x14.2.2.1.1 x14.2.2.1.2.1 x14.2.2.1.2.2)]), (.slice x_a x_n x_c)] (.bool x19) w21 ∧ F7 2 [(.agg #[(.slice x8.1.1 x8.1.2.1 x8.1.2.2), (.slice x8.2.1.1 x8.2.1.2.1 x8.2.1.2.2), (.slice x8.2.2.1.1 x8.2.2.1.2.1 x8.2.2.1.2.2)]), (.slice x_a x_n x_c)] (.bool x13) w21 ∧ True) (fun (w20 : World) =>
   wr Try.prog (Instr.buildSlice 40 1 #[(0, (.int .i64 3))]) (.one .slice) w20 fun (x22 : (Option Addr × Nat × Nat)) (w23 : World) =>
 (bel w20 w23 ∧ F7 8 [] (.slice x22.1 x22.2.1 x22.2.2) w23))
  fun (x24 : (Option Addr × Nat × Nat)) =>
 flc bel w6 (fun w26 => F7 5 [(.agg #[(.slice x14.1.1 x14.1.2.1 x14.1.2.2), (.slice x14.2.1.1 x14.2.1.2.1 x14.2.1.2.2), (.slice x14.2.2.1.1 x14.2.2.1.2.1 x14.2.2.1.2.2)]), (.slice x_a x_n x_c)] (.bool x19) w26 ∧ F7 2 [(.agg #[(.slice x8.1.1 x8.1.2.1 x8.1.2.2), (.slice x8.2.1.1 x8.2.1.2.1 x8.2.1.2.2), (.slice x8.2.2.1.1 x8.2.2.1.2.1 x8.2.2.1.2.2)]), (.slice x_a x_n x_c)] (.bool x13) w26 ∧ True) (fun (w25 : World) =>
   wr Try.prog (Instr.buildSlice 40 1 #[(0, (.int .i64 2))]) (.one .slice) w25 fun (x27 : (Option Addr × Nat × Nat)) (w28 : World) =>
 (bel w25 w28 ∧ F7 9 [] (.slice x27.1 x27.2.1 x27.2.2) w28))
  fun (x29 : (Option Addr × Nat × Nat)) =>
 flc bel w6 (fun w31 => F7 9 [] (.slice x29.1 x29.2.1 x29.2.2) w31 ∧ F7 5 [(.agg #[(.slice x14.1.1 x14.1.2.1 x14.1.2.2), (.slice x14.2.1.1 x14.2.1.2.1 x14.2.1.2.2), (.slice x14.2.2.1.1 x14.2.2.1.2.1 x14.2.2.1.2.2)]), (.slice x_a x_n x_c)] (.bool x19) w31 ∧ F7 2 [(.agg #[(.slice x8.1.1 x8.1.2.1 x8.1.2.2), (.slice x8.2.1.1 x8.2.1.2.1 x8.2.1.2.2), (.slice x8.2.2.1.1 x8.2.2.1.2.1 x8.2.2.1.2.2)]), (.slice x_a x_n x_c)] (.bool x13) w31 ∧ True) (fun (w30 : World) =>
   wr Try.prog (Instr.buildSlice 41 1 #[(0, (.slice x29.1 x29.2.1 x29.2.2))]) (.one .slice) w30 fun (x32 : (Option Addr × Nat × Nat)) (w33 : World) =>
 (bel w30 w33 ∧ F7 10 [] (.slice x32.1 x32.2.1 x32.2.2) w33))
  fun (x34 : (Option Addr × Nat × Nat)) =>
 flc bel w6 (fun w36 => F7 5 [(.agg #[(.slice x14.1.1 x14.1.2.1 x14.1.2.2), (.slice x14.2.1.1 x14.2.1.2.1 x14.2.1.2.2), (.slice x14.2.2.1.1 x14.2.2.1.2.1 x14.2.2.1.2.2)]), (.slice x_a x_n x_c)] (.bool x19) w36 ∧ F7 2 [(.agg #[(.slice x8.1.1 x8.1.2.1 x8.1.2.2), (.slice x8.2.1.1 x8.2.1.2.1 x8.2.1.2.2), (.slice x8.2.2.1.1 x8.2.2.1.2.1 x8.2.2.1.2.2)]), (.slice x_a x_n x_c)] (.bool x13) w36 ∧ True) (fun (w35 : World) =>
   wr Try.prog (Instr.buildSlice 40 1 #[(0, (.int .i64 4))]) (.one .slice) w35 fun (x37 : (Option Addr × Nat × Nat)) (w38 : World) =>
 (bel w35 w38 ∧ F7 11 [] (.slice x37.1 x37.2.1 x37.2.2) w38))
  fun (x39 : (Option Addr × Nat × Nat)) =>
 flc bel w6 (fun w41 => F7 5 [(.agg #[(.slice x14.1.1 x14.1.2.1 x14.1.2.2), (.slice x14.2.1.1 x14.2.1.2.1 x14.2.1.2.2), (.slice x14.2.2.1.1 x14.2.2.1.2.1 x14.2.2.1.2.2)]), (.slice x_a x_n x_c)] (.bool x19) w41 ∧ F7 2 [(.agg #[(.slice x8.1.1 x8.1.2.1 x8.1.2.2), (.slice x8.2.1.1 x8.2.1.2.1 x8.2.1.2.2), (.slice x8.2.2.1.1 x8.2.2.1.2.1 x8.2.2.1.2.2)]), (.slice x_a x_n x_c)] (.bool x13) w41 ∧ True) (fun (w40 : World) =>
   wr Try.prog (Instr.buildSlice 40 1 #[(0, (.int .i64 2))]) (.one .slice) w40 fun (x42 : (Option Addr × Nat × Nat)) (w43 : World) =>
 (bel w40 w43 ∧ F7 13 [] (.slice x42.1 x42.2.1 x42.2.2) w43))
  fun (x44 : (Option Addr × Nat × Nat)) =>
 flend bel w6 (fun w46 => F7 13 [] (.slice x44.1 x44.2.1 x44.2.2) w46 ∧ F7 11 [] (.slice x39.1 x39.2.1 x39.2.2) w46 ∧ F7 10 [] (.slice x34.1 x34.2.1 x34.2.2) w46 ∧ F7 9 [] (.slice x29.1 x29.2.1 x29.2.2) w46 ∧ F7 8 [] (.slice x24.1 x24.2.1 x24.2.2) w46 ∧ F7 5 [(.agg #[(.slice x14.1.1 x14.1.2.1 x14.1.2.2), (.slice x14.2.1.1 x14.2.1.2.1 x14.2.1.2.2), (.slice x14.2.2.1.1 x14.2.2.1.2.1 x14.2.2.1.2.2)]), (.slice x_a x_n x_c)] (.bool x19) w46 ∧ F7 2 [(.agg #[(.slice x8.1.1 x8.1.2.1 x8.1.2.2), (.slice x8.2.1.1 x8.2.1.2.1 x8.2.1.2.2), (.slice x8.2.2.1.1 x8.2.2.1.2.1 x8.2.2.1.2.2)]), (.slice x_a x_n x_c)] (.bool x13) w46 ∧ True) fun w45 =>
 call Try.prog 44 [(.agg #[(.slice x24.1 x24.2.1 x24.2.2), (.slice x34.1 x34.2.1 x34.2.2), (.slice x39.1 x39.2.1 x39.2.2)]), (.slice x44.1 x44.2.1 x44.2.2)] (.one (.one .bool)) w45 fun (x47 : Bool) (w48 : World) =>
 R (.bool x47) w48)
 (flend bel w6 (fun w50 => F7 5 [(.agg #[(.slice x14.1.1 x14.1.2.1 x14.1.2.2), (.slice x14.2.1.1 x14.2.1.2.1 x14.2.1.2.2), (.slice x14.2.2.1.1 x14.2.2.1.2.1 x14.2.2.1.2.2)]), (.slice x_a x_n x_c)] (.bool x19) w50 ∧ F7 2 [(.agg #[(.slice x8.1.1 x8.1.2.1 x8.1.2.2), (.slice x8.2.1.1 x8.2.1.2.1 x8.2.1.2.2), (.slice x8.2.2.1.1 x8.2.2.1.2.1 x8.2.2.1.2.2)]), (.slice x_a x_n x_c)] (.bool x13) w50 ∧ True) fun w49 =>
 R (.bool false) w49)))
def H13 : Hints := ⟨[], [(3, 14)], [], []⟩
set_option maxRecDepth 100000 in
theorem S13_eq (s_0a : Option Addr) (s_0n : Nat) (s_0c : Nat) (s_1a : Option Addr) (s_1n : Nat) (s_1c : Nat) (s_2a : Option Addr) (s_2n : Nat) (s_2c : Nat) (x_a : Option Addr) (x_n : Nat) (x_c : Nat) (w0 : World) (R : Value → World → Prop) : vcFn Try.prog H13 Try.f13 [(.agg #[(.slice s_0a s_0n s_0c), (.slice s_1a s_1n s_1c), (.slice s_2a s_2n s_2c)]), (.slice x_a x_n x_c)] w0 R = S13 s_0a s_0n s_0c s_1a s_1n s_1c s_2a s_2n s_2c x_a x_n x_c w0 R := by kernel_rfl
set_option maxRecDepth 100000 in
theorem S13_calls (s_0a : Option Addr) (s_0n : Nat) (s_0c : Nat) (s_1a : Option Addr) (s_1n : Nat) (s_1c : Nat) (s_2a : Option Addr) (s_2n : Nat) (s_2c : Nat) (x_a : Option Addr) (x_n : Nat) (x_c : Nat) (w0 : World) (R : Value → World → Prop) (h : S13 s_0a s_0n s_0c s_1a s_1n s_1c s_2a s_2n s_2c x_a x_n x_c w0 R) : Calls Try.prog 13 #[(.agg #[(.slice s_0a s_0n s_0c), (.slice s_1a s_1n s_1c), (.slice s_2a s_2n s_2c)]), (.slice x_a x_n x_c)] w0 (ret R) := by
  rw [← S13_eq] at h; exact vcFn_sound follows_ Try.func13 h

end Go.Proofs

/- Arguments that came in: slices of any elements as lists; tables. -/



namespace Go.V
open Go Go.RowKit Go.Q

section
variable {P : Program} {w : World} {t e : TypeId}
theorem Read.elems {α : Type} {enc : α → List Value} {R : α → Prop} {sz : Nat} {cs : List Value} (he : ∀ x, (enc x).length = sz) (h0 : 0 < sz) (hE : ∀ ch, Go.Q.Read P w e ch → ∃ x, ch = enc x ∧ R x)
    (ht : P.underlying t = some (.slice e)) (hs : P.cellsOf e = sz) (h : Go.Q.Read P w t cs) : ∃ a n c, ∃ L : List α, cs = [.slice a n c] ∧ L.length = n ∧ Sl w a n c sz (L.flatMap enc) ∧ ∀ x ∈ L, R x := by
  obtain ⟨a, n, c, rfl, h1, h2, h3, h4⟩ := Go.Q.Read.slice ht h
  have ex : ∀ i : Fin n, ∃ x : α, ∃ ad, a = some ad ∧ w.cells? 0 (ad.add (i * sz)) sz = some (enc x) ∧ R x := fun i => by
    obtain ⟨ad, ch, e1, e2, e3⟩ := h4 i i.2
    obtain ⟨x, rfl, hx⟩ := hE ch e3
    rw [hs] at e2
    exact ⟨x, ad, e1, e2, hx⟩
  refine ⟨a, n, c, List.ofFn fun i => Classical.choose (ex i), rfl, by simp, ?_, ?_⟩
  · refine ⟨by rw [flat_len he]; simp, h1, h2, h3, fun j u hj => ?_⟩
    have hj' : j < n * sz := by
      have := (List.getElem?_eq_some_iff.1 hj).1
      rw [flat_len he] at this
      simpa using this
    have hi : j / sz < n := Nat.div_lt_of_lt_mul (by rwa [Nat.mul_comm])
    have ho : j % sz < sz := Nat.mod_lt _ h0
    obtain ⟨ad, e1, e2, _⟩ := Classical.choose_spec (ex ⟨j / sz, hi⟩)
    have hg := flat_get he (L := List.ofFn fun i => Classical.choose (ex i)) (j := j / sz) (p := Classical.choose (ex ⟨j / sz, hi⟩)) (by simp [hi]) ho
    rw [Nat.div_add_mod' j sz, hj] at hg
    obtain ⟨_, e4, e5⟩ := World.cells?_some e2
    have h6 := e5 (j % sz) ho
    rw [add_add] at h6
    simp only at h6
    rw [Nat.div_add_mod', ← hg] at h6
    refine ⟨ad, e1, h6, ?_⟩
    have := cell_lt h6
    rwa [add_block] at this
  · intro x hx
    rw [List.mem_ofFn] at hx
    obtain ⟨i, rfl⟩ := hx
    obtain ⟨ad, e1, e2, e3⟩ := Classical.choose_spec (ex i)
    exact e3
theorem Read.ones {α : Type} {g : α → Value} {R : α → Prop} {cs : List Value} (hE : ∀ ch, Go.Q.Read P w e ch → ∃ x, ch = [g x] ∧ R x)
    (ht : P.underlying t = some (.slice e)) (hs : P.cellsOf e = 1) (h : Go.Q.Read P w t cs) : ∃ a n c, ∃ L : List α, cs = [.slice a n c] ∧ L.length = n ∧ Sl w a n c 1 (L.map g) ∧ ∀ x ∈ L, R x := by
  obtain ⟨a, n, c, L, h1, h2, h3, h4⟩ := Read.elems (enc := fun x => [g x]) (R := R) (fun _ => rfl) Nat.one_pos hE ht hs h
  rw [← List.map_eq_flatMap] at h3
  exact ⟨a, n, c, L, h1, h2, h3, h4⟩
theorem Read.ints {k : IntKind} {cs : List Value} (ht : P.underlying t = some (.slice e)) (he : P.underlying e = some (.int k)) (hs : P.cellsOf e = 1) (h : Go.Q.Read P w t cs) :
    ∃ a n c, ∃ L : List Int, cs = [.slice a n c] ∧ L.length = n ∧ Sl w a n c 1 (ints k L) ∧ ∀ x ∈ L, (Lit.int k x).wf = true :=
  Read.ones (g := Value.int k) (fun _ h => Go.Q.Read.int he h) ht hs h
theorem Read.bools {cs : List Value} (ht : P.underlying t = some (.slice e)) (he : P.underlying e = some .bool) (hs : P.cellsOf e = 1) (h : Go.Q.Read P w t cs) :
    ∃ a n c, ∃ L : List Bool, cs = [.slice a n c] ∧ L.length = n ∧ Sl w a n c 1 (Go.Q.bools L) := by
  obtain ⟨a, n, c, L, h1, h2, h3, _⟩ := Read.ones (g := Value.bool) (R := fun _ => True) (fun _ h => by obtain ⟨b, hb⟩ := Go.Q.Read.bool he h; exact ⟨b, hb, trivial⟩) ht hs h
  exact ⟨a, n, c, L, h1, h2, h3⟩

/-- a table of numbers: a slice of slices -/
structure Tab {α : Type} (g : α → Value) (w : World) (h : Hdr) (T : List (List α)) : Prop where
  ex : ∃ hs : List Hdr, Sl w h.1 h.2.1 h.2.2 1 (hs.map hv) ∧ hs.length = T.length ∧ ∀ (i : Nat) (x : Hdr) (r : List α), hs[i]? = some x → T[i]? = some r → Sl w x.1 x.2.1 x.2.2 1 (r.map g)
abbrev TabI (k : IntKind) (w : World) (h : Hdr) (T : List (List Int)) : Prop := Tab (Value.int k) w h T
theorem Tab.len {α : Type} {g : α → Value} {h : Hdr} {T : List (List α)} (H : Tab g w h T) : T.length = h.2.1 := by
  obtain ⟨hs, h1, h2, _⟩ := H.ex
  have := h1.len
  simp at this
  omega
theorem Tab.up {α : Type} {g : α → Value} {h : Hdr} {T : List (List α)} {w' : World} (H : Tab g w h T) (hb : bel w w') : Tab g w' h T := by
  obtain ⟨hs, h1, h2, h3⟩ := H.ex
  exact ⟨hs, h1.kept hb, h2, fun i x r q1 q2 => (h3 i x r q1 q2).kept hb⟩
/-- a row is read -/
theorem Tab.at {α : Type} {g : α → Value} {h : Hdr} {T : List (List α)} (H : Tab g w h T) {z : Value} {bytes : Nat} (TS : TyS P t e z 1 bytes) (he : scal P e = true) {j : Nat} {k : IntKind} {i : Int} {K : (Option Addr × Nat × Nat) → Prop}
    (hj : i = (j : Int)) (hn : j < h.2.1) (hk : ∀ (x : Hdr) (r : List α), T[j]? = some r → Sl w x.1 x.2.1 x.2.2 1 (r.map g) → K x) :
    rdp P (Instr.indexAt t (.slice h.1 h.2.1 h.2.2) (.int k i)) (.one .addr) fun ad => rd P (Instr.loadAt e (.pointer (some ad))) (.one .slice) w K := by
  have hl := H.len
  obtain ⟨hs, h1, h2, h3⟩ := H.ex
  refine at_hdr TS he h1 hj hn fun x hx => ?_
  obtain ⟨r, hr⟩ : ∃ r, T[j]? = some r := ⟨_, List.getElem?_eq_getElem (by omega)⟩
  exact hk x r hr (h3 j x r hx hr)
/-- an argument that is a table -/
theorem Read.tab {α : Type} {g : α → Value} {R : α → Prop} {u : TypeId} {cs : List Value} (hE : ∀ ch, Go.Q.Read P w u ch → ∃ x, ch = [g x] ∧ R x)
    (ht : P.underlying t = some (.slice e)) (hs : P.cellsOf e = 1) (he : P.underlying e = some (.slice u)) (hs' : P.cellsOf u = 1) (h : Go.Q.Read P w t cs) :
    ∃ x : Hdr, ∃ T : List (List α), cs = [hv x] ∧ Tab g w x T ∧ ∀ r ∈ T, ∀ x ∈ r, R x := by
  obtain ⟨a, n, c, L, h1, h2, h3, h4⟩ := Read.ones (g := hv) (R := fun x : Hdr => ∃ r : List α, Sl w x.1 x.2.1 x.2.2 1 (r.map g) ∧ ∀ y ∈ r, R y) (fun ch hr => by
    obtain ⟨a, n, c, L, h1, h2, h3, h4⟩ := Read.ones (g := g) (R := R) hE he hs' hr
    exact ⟨(a, n, c), h1, L, h3, h4⟩) ht hs h
  have key : ∀ L : List Hdr, (∀ x ∈ L, ∃ r : List α, Sl w x.1 x.2.1 x.2.2 1 (r.map g) ∧ ∀ y ∈ r, R y) → ∃ T : List (List α), L.length = T.length ∧ (∀ (i : Nat) (x : Hdr) (r : List α), L[i]? = some x → T[i]? = some r → Sl w x.1 x.2.1 x.2.2 1 (r.map g)) ∧ ∀ r ∈ T, ∀ x ∈ r, R x := by
    intro L
    induction L with
    | nil => intro _; exact ⟨[], rfl, fun i x r h => by simp at h, by simp⟩
    | cons x L ih =>
      intro h
      obtain ⟨r, hr, hr'⟩ := h x (List.mem_cons_self ..)
      obtain ⟨T, t1, t2, t3⟩ := ih fun y hy => h y (List.mem_cons_of_mem _ hy)
      refine ⟨r :: T, by simp [t1], fun i y s q1 q2 => ?_, fun s hs => ?_⟩
      · cases i with
        | zero => simp at q1 q2; subst q1 q2; exact hr
        | succ i => simp at q1 q2; exact t2 i y s q1 q2
      · rcases List.mem_cons.1 hs with rfl | hs
        · exact hr'
        · exact t3 s hs
  obtain ⟨T, t1, t2, t3⟩ := key L h4
  exact ⟨(a, n, c), T, h1, ⟨L, h3, t1, t2⟩, t3⟩
/-- whole arguments: a struct, an array, a slice -/
theorem Arg.struct {fs : Array Field} {v : Value} (ht : P.underlying t = some (.struct fs)) (h : Arg P w t v) : ∃ cs : Array Value, v = .agg cs ∧ cs.size = P.cellsOf t ∧ ∀ f ∈ fs.toList, Go.Q.Read P w f.type ((cs.toList.drop f.offset).take (P.cellsOf f.type)) := by
  obtain ⟨⟨r, b, ho⟩, hr⟩ := h
  unfold Value.okWide at ho
  rw [ht] at ho
  obtain ⟨cs, rfl, hsz, _⟩ := ho
  exact ⟨cs, rfl, hsz, (Go.Q.Read.struct ht hr).2⟩
theorem Arg.array {n : Nat} {v : Value} (ht : P.underlying t = some (.array n e)) (h : Arg P w t v) : ∃ cs : Array Value, v = .agg cs ∧ cs.size = P.cellsOf t ∧ ∀ i, i < n → Go.Q.Read P w e ((cs.toList.drop (i * P.cellsOf e)).take (P.cellsOf e)) := by
  obtain ⟨⟨r, b, ho⟩, hr⟩ := h
  unfold Value.okWide at ho
  rw [ht] at ho
  obtain ⟨cs, rfl, hsz, _⟩ := ho
  exact ⟨cs, rfl, hsz, (Go.Q.Read.array ht hr).2⟩
theorem Arg.slice {v : Value} (ht : P.underlying t = some (.slice e)) (h : Arg P w t v) : ∃ a n c, v = .slice a n c ∧ Go.Q.Read P w t [v] := by
  obtain ⟨⟨r, b, ho⟩, hr⟩ := h
  unfold Value.okWide Cell.okWide Cell.ok at ho
  simp only [ht] at ho
  cases v with
  | slice a n c => exact ⟨a, n, c, rfl, hr⟩
  | _ => simp at ho
end
end Go.V

/- Loops in the calculus: counting loops, the search of slices.IndexFunc. -/

namespace Go.V
open Go Go.RowKit Go.Q

theorem _root_.Go.Q.Sl.up {w w' : World} {a : Option Addr} {n c sz : Nat} {xs : List Value} (h : Sl w a n c sz xs) (hb : bel w w') : Sl w' a n c sz xs := h.kept hb
/-- a loop that counts from 0 to n -/
theorem loop_up {w0 : World} {body : ((Int × Unit) → World → Prop) → (Int × Unit) → World → Prop} (n : Nat) (I : Nat → World → Prop) (h0 : I 0 w0)
    (h : ∀ i w, i ≤ n → I i w → ∀ again : (Int × Unit) → World → Prop, (∀ w', i < n → I (i + 1) w' → again ((i : Int) + 1, ()) w') → body again ((i : Int), ()) w) : loop (0, ()) w0 body := by
  refine loop_gh (G := Nat) (fun i s w' => s = ((i : Int), ()) ∧ i ≤ n ∧ I i w') (fun i => n - i) 0 ⟨rfl, Nat.zero_le _, h0⟩ ?_
  rintro i s w ⟨rfl, hi, hI⟩ again hag
  exact h i w hi hI again fun w' hlt hI' => hag (i + 1) _ _ ⟨rfl, hlt, hI'⟩ (by omega)
/-- the same with a value that is built; the counter stands behind it -/
theorem loop_upA {A : Type} {a0 : A} {w0 : World} {body : ((A × Int × Unit) → World → Prop) → (A × Int × Unit) → World → Prop} (n : Nat) (I : Nat → A → World → Prop) (h0 : I 0 a0 w0)
    (h : ∀ i a w, i ≤ n → I i a w → ∀ again : (A × Int × Unit) → World → Prop, (∀ a' w', i < n → I (i + 1) a' w' → again (a', (i : Int) + 1, ()) w') → body again (a, (i : Int), ()) w) : loop (a0, 0, ()) w0 body := by
  refine loop_gh (G := Nat) (fun i s w' => s.2 = ((i : Int), ()) ∧ i ≤ n ∧ I i s.1 w') (fun i => n - i) 0 ⟨rfl, Nat.zero_le _, h0⟩ ?_
  rintro i ⟨a, s⟩ w ⟨rfl, hi, hI⟩ again hag
  exact h i a w hi hI again fun a' w' hlt hI' => hag (i + 1) _ _ ⟨rfl, hlt, hI'⟩ (by omega)
/-- the counter stands ahead -/
theorem loop_upB {A : Type} {a0 : A} {w0 : World} {body : ((Int × A × Unit) → World → Prop) → (Int × A × Unit) → World → Prop} (n : Nat) (I : Nat → A → World → Prop) (h0 : I 0 a0 w0)
    (h : ∀ i a w, i ≤ n → I i a w → ∀ again : (Int × A × Unit) → World → Prop, (∀ a' w', i < n → I (i + 1) a' w' → again ((i : Int) + 1, a', ()) w') → body again ((i : Int), a, ()) w) : loop (0, a0, ()) w0 body := by
  refine loop_gh (G := Nat) (fun i s w' => s.1 = (i : Int) ∧ i ≤ n ∧ I i s.2.1 w') (fun i => n - i) 0 ⟨rfl, Nat.zero_le _, h0⟩ ?_
  rintro i ⟨_, a, _⟩ w ⟨rfl, hi, hI⟩ again hag
  exact h i a w hi hI again fun a' w' hlt hI' => hag (i + 1) _ _ ⟨rfl, hlt, hI'⟩ (by omega)

/-- what holds of the first elements -/
theorem pre_step {α : Type} {p : α → Prop} {l : List α} {i : Nat} {y : α} (h : ∀ j, j < i → ∀ x, l[j]? = some x → p x) (hy : l[i]? = some y) (hp : p y) : ∀ j, j < i + 1 → ∀ x, l[j]? = some x → p x := by
  intro j hj x hx
  rcases Nat.lt_or_ge j i with q | q
  · exact h j q x hx
  · have : j = i := by omega
    subst this
    rw [hy] at hx; cases hx; exact hp
theorem pre_zero {α : Type} {p : α → Prop} {l : List α} : ∀ j, j < 0 → ∀ x, l[j]? = some x → p x := fun j h => by omega
theorem pre_all {α : Type} {p : α → Prop} {l : List α} {n : Nat} (h : ∀ j, j < n → ∀ x, l[j]? = some x → p x) (hn : l.length ≤ n) : ∀ x ∈ l, p x := by
  intro x hx
  obtain ⟨j, hj, rfl⟩ := List.mem_iff_getElem.1 hx
  exact h j (by omega) _ (List.getElem?_eq_getElem hj)
theorem mem_at {α : Type} {l : List α} {i : Nat} {y : α} (h : l[i]? = some y) : y ∈ l := List.mem_of_getElem? h

/-- a function is read from memory, and called -/
theorem rdF_box0 {P : Program} {t : TypeId} {w : World} {a : Addr} {cs : List Value} {h : Nat} {fi ca : Array Value} {k : Nat → Array Value → Array Value → Prop} (ht : scal P t = true) (hb : Box w a cs) (hi : cs[0]? = some (.func (.func h) fi ca)) (hk : k h fi ca) :
    rdF P bel (Instr.loadAt t (.pointer (some a))) w k := ⟨h, fi, ca, fun w' hw => by rw [run_loadAt, run_loadVar1 ht (hw.cell (hb.cell0 hi))], hk⟩
theorem callX_of {P : Program} {h : Nat} {args args' : List Value} {r : RS} {w : World} {k : r.T → World → Prop} {fn : Func} (hf : P.funcs[h]? = some fn) (hp : plainF fn = true) (ha : args = args') (hc : call P h args' r w k) : callX P h args r w k := by
  unfold callX; rw [hf]; dsimp only; rw [hp]; subst ha; exact hc

/-- a variable is made and written at once -/
theorem var_mk {P : Program} {e : TypeId} {z v : Value} {w : World} {k : Addr → World → Prop} (hz : zeroOf P e = some z) (hs : sizeIs P e v.cells.size = true) (hl : v.cells.size = z.cells.size) (hp : plainV v.cells.toList = true)
    (hk : ∀ a w', Box w' a v.cells.toList → bel w w' → a.block = w.heap.size → k a w') :
    wr P (Instr.alloc e true (.tuple #[])) (.one .addr) w fun x w1 => wu P (Instr.storeAt e (.pointer (some x)) v) w1 fun w2 => k x w2 := by
  refine wr_alloc hz fun a w1 Z h ha _ => ?_
  refine wu_box Z hs (by rw [hl]; simp) hp fun w2 Z hg _ => ?_
  have e2 : putAt z.cells.toList 0 v.cells.toList = v.cells.toList := by
    have key : ∀ (vs pre cs : List Value), cs.length = vs.length → putAt (pre ++ cs) pre.length vs = pre ++ vs := by
      intro vs
      induction vs with
      | nil => intro pre cs h; rw [List.eq_nil_of_length_eq_zero h]; rfl
      | cons x vs ih =>
        intro pre cs h
        cases cs with
        | nil => simp at h
        | cons c cs =>
          simp only [putAt]
          have h1 : (pre ++ c :: cs).set pre.length x = (pre ++ [x]) ++ cs := by simp
          rw [h1]
          have := ih (pre ++ [x]) cs (by simpa using h)
          simp only [List.length_append, List.length_cons, List.length_nil, Nat.zero_add] at this
          rw [this]; simp
    have := key v.cells.toList [] z.cells.toList (by simp [hl])
    simpa using this
  rw [e2] at Z
  exact hk _ _ Z (h.grownAt hg (by omega)) ha

/-- where a test first holds; -1: nowhere -/
def idxI {β : Type} (q : β → Bool) (ys : List β) : Int :=
  match ys.findIdx? q with
  | some i => (i : Int) | none => -1
theorem idxI_any {β : Type} (q : β → Bool) (ys : List β) : decide (idxI q ys ≥ 0) = ys.any q := by
  unfold idxI
  rw [← List.findIdx?_isSome]
  cases ys.findIdx? q with
  | none => rfl
  | some i => simp
/-- the loop of slices.IndexFunc -/
theorem idx_loop {P : Program} {t e : TypeId} {vs : VS} {f : FuncId} {fargs : vs.T → List Value} {a : Option Addr} {n c : Nat} {R : Value → World → Prop} {w0 : World} {β : Type} (xs : List vs.T) (ys : List β) (q : β → Bool) (hn : xs.length = n) (hy : ys.length = n) (hm : n ≤ 9223372036854775807)
    (RD : ∀ (j : Nat) (x : vs.T), xs[j]? = some x → ∀ w', bel w0 w' → ∀ K : vs.T → Prop, K x → rdp P (Instr.indexAt t (.slice a n c) (.int .i64 (j : Int))) (.one .addr) fun ad => rd P (Instr.loadAt e (.pointer (some ad))) vs w' K)
    (CALL : ∀ (j : Nat) (x : vs.T) (y : β), xs[j]? = some x → ys[j]? = some y → ∀ w', bel w0 w' → call P f (fargs x) (.one (.one .bool)) w' fun b w'' => b = q y ∧ bel w' w'')
    (hk : ∀ w', bel w0 w' → R (.int .i64 (idxI q ys)) w') :
    loop (T := (Int × Unit)) (0, ()) w0 fun (again1 : (Int × Unit) → World → Prop) (s2 : (Int × Unit)) w3 => ∀ _ : Nat → Value,
      br (decide (s2.1 < ((n : Nat) : Int))) (rdp P (Instr.indexAt t (.slice a n c) (.int .i64 s2.1)) (.one .addr) fun (x4 : Addr) =>
      rd P (Instr.loadAt e (.pointer (some x4))) vs w3 fun x5 =>
      call P f (fargs x5) (.one (.one .bool)) w3 fun (x6 : Bool) (w7 : World) =>
      br x6 (R (.int .i64 s2.1) w7)
      (z (IntKind.wrap .i64 (s2.1 + 1)) fun (z8 : Int) =>
      again1 (z8, ()) w7))
      (R (.int .i64 (-1)) w3) := by
  refine loop_up n (fun i w' => bel w0 w' ∧ ∀ j, j < i → ∀ y, ys[j]? = some y → q y = false) ⟨bel.refl _, fun j h => by omega⟩ ?_
  rintro i w hi ⟨hb, hq⟩ again hag _
  refine br_dec (fun e => ?_) (fun e => ?_)
  · dsimp only at e
    have hi' : i < n := by omega
    have hx : xs[i]? = some (xs[i]'(by omega)) := List.getElem?_eq_getElem (by omega)
    have hy' : ys[i]? = some (ys[i]'(by omega)) := List.getElem?_eq_getElem (by omega)
    refine RD i _ hx w hb _ ?_
    refine call_mono (CALL i _ _ hx hy' w hb) ?_
    rintro b w2 ⟨rfl, hb2⟩
    refine br_mk (fun hq' => ?_) (fun hq' => ?_)
    · have : idxI q ys = (i : Int) := by
        unfold idxI
        rw [List.findIdx?_eq_some_iff_getElem.2 ⟨by omega, hq', fun j hj => by
          have := hq j hj _ (List.getElem?_eq_getElem (by omega))
          simp [this]⟩]
      rw [← this]
      exact hk _ (hb.trans hb2)
    · refine z_i64 (by dsimp only; omega) ?_
      refine hag _ hi' ⟨hb.trans hb2, fun j hj y hy2 => ?_⟩
      rcases Nat.lt_or_ge j i with h | h
      · exact hq j h y hy2
      · have : j = i := by omega
        subst this
        rw [hy'] at hy2; cases hy2; exact hq'
  · dsimp only at e
    have hi' : i = n := by omega
    have : idxI q ys = -1 := by
      unfold idxI
      rw [List.findIdx?_eq_none_iff.2 fun y hy' => by
        obtain ⟨j, hj, rfl⟩ := List.mem_iff_getElem.1 hy'
        exact hq j (by omega) _ (List.getElem?_eq_getElem hj)]
    rw [← this]
    exact hk _ hb
/-- .. over numbers -/
theorem idx_ints {P : Program} {t e : TypeId} {z0 : Value} {bytes : Nat} (TS : TyS P t e z0 1 bytes) (he : scal P e = true) {kk : IntKind} {f : FuncId} {fargs : Int → List Value} {a : Option Addr} {n c : Nat} {w0 : World} {xs : List Int} (H : Sl w0 a n c 1 (ints kk xs)) (q : Int → Bool)
    (CALL : ∀ (j : Nat) (x : Int), xs[j]? = some x → ∀ w', bel w0 w' → call P f (fargs x) (.one (.one .bool)) w' fun b w'' => b = q x ∧ bel w' w'') :
    loop (T := (Int × Unit)) (0, ()) w0 fun (again1 : (Int × Unit) → World → Prop) (s2 : (Int × Unit)) w3 => ∀ _ : Nat → Value,
      br (decide (s2.1 < ((n : Nat) : Int))) (rdp P (Instr.indexAt t (.slice a n c) (.int .i64 s2.1)) (.one .addr) fun (x4 : Addr) =>
      rd P (Instr.loadAt e (.pointer (some x4))) (.one (.int kk)) w3 fun (x5 : Int) =>
      call P f (fargs x5) (.one (.one .bool)) w3 fun (x6 : Bool) (w7 : World) =>
      br x6 ((fun (v : Value) (w' : World) => ∃ x : Int, v = (RS.one (.one (.int .i64))).val x ∧ x = idxI q xs ∧ bel w0 w') (.int .i64 s2.1) w7)
      (z (IntKind.wrap .i64 (s2.1 + 1)) fun (z8 : Int) =>
      again1 (z8, ()) w7))
      ((fun (v : Value) (w' : World) => ∃ x : Int, v = (RS.one (.one (.int .i64))).val x ∧ x = idxI q xs ∧ bel w0 w') (.int .i64 (-1)) w3) := by
  have hl := H.int
  refine idx_loop (R := (fun (v : Value) (w' : World) => ∃ x : Int, v = (RS.one (.one (.int .i64))).val x ∧ x = idxI q xs ∧ bel w0 w')) (vs := .one (.int kk)) (fargs := fargs) xs xs q hl hl H.le (fun j x hx w' hb K hk => ?_) (fun j x y hx hy w' hb => ?_) (fun w' hb => ⟨_, rfl, rfl, hb⟩)
  · have hx' : (xs : List Int)[j]? = some (x : Int) := hx
    exact at_int TS he (H.kept hb) rfl (by have := (List.getElem?_eq_some_iff.1 hx').1; omega) (fun y hy => by rw [hx'] at hy; cases hy; exact hk)
  · have hx' : (xs : List Int)[j]? = some (x : Int) := hx
    rw [hx'] at hy; cases hy
    exact CALL j x hx' w' hb
/-- .. over the rows of a table -/
theorem idx_tab {P : Program} {t e : TypeId} {z0 : Value} {bytes : Nat} (TS : TyS P t e z0 1 bytes) (he : scal P e = true) {α : Type} {g : α → Value} {f : FuncId} {fargs : Hdr → List Value} {r : Hdr} {w0 : World} {T : List (List α)} (H : Tab g w0 r T) (q : List α → Bool)
    (CALL : ∀ (j : Nat) (x : Hdr) (y : List α), T[j]? = some y → Sl w0 x.1 x.2.1 x.2.2 1 (y.map g) → ∀ w', bel w0 w' → call P f (fargs x) (.one (.one .bool)) w' fun b w'' => b = q y ∧ bel w' w'') :
    loop (T := (Int × Unit)) (0, ()) w0 fun (again1 : (Int × Unit) → World → Prop) (s2 : (Int × Unit)) w3 => ∀ _ : Nat → Value,
      br (decide (s2.1 < ((r.2.1 : Nat) : Int))) (rdp P (Instr.indexAt t (.slice r.1 r.2.1 r.2.2) (.int .i64 s2.1)) (.one .addr) fun (x4 : Addr) =>
      rd P (Instr.loadAt e (.pointer (some x4))) (.one .slice) w3 fun (x5 : Option Addr × Nat × Nat) =>
      call P f (fargs x5) (.one (.one .bool)) w3 fun (x6 : Bool) (w7 : World) =>
      br x6 ((fun (v : Value) (w' : World) => ∃ x : Int, v = (RS.one (.one (.int .i64))).val x ∧ x = idxI q T ∧ bel w0 w') (.int .i64 s2.1) w7)
      (z (IntKind.wrap .i64 (s2.1 + 1)) fun (z8 : Int) =>
      again1 (z8, ()) w7))
      ((fun (v : Value) (w' : World) => ∃ x : Int, v = (RS.one (.one (.int .i64))).val x ∧ x = idxI q T ∧ bel w0 w') (.int .i64 (-1)) w3) := by
  obtain ⟨hs, h1, h2, h3⟩ := H.ex
  have hl : hs.length = r.2.1 := by have := h1.len; simpa using this
  refine idx_loop (R := (fun (v : Value) (w' : World) => ∃ x : Int, v = (RS.one (.one (.int .i64))).val x ∧ x = idxI q T ∧ bel w0 w')) (vs := .one .slice) (fargs := fargs) hs T q hl (by omega) h1.le (fun j x hx w' hb K hk => ?_) (fun j x y hx hy w' hb => ?_) (fun w' hb => ⟨_, rfl, rfl, hb⟩)
  · have hx' : (hs : List Hdr)[j]? = some (x : Hdr) := hx
    exact at_hdr TS he (h1.kept hb) rfl (by have := (List.getElem?_eq_some_iff.1 hx').1; omega) (fun y hy => by rw [hx'] at hy; cases hy; exact hk)
  · have hx' : (hs : List Hdr)[j]? = some (x : Hdr) := hx
    exact CALL j x y hy (h3 j x y hx' hy) w' hb
/-- .. over records -/
theorem idx_aggs {P : Program} {t e : TypeId} {z0 : Value} {sz bytes : Nat} (TS : TyS P t e z0 sz bytes) (ht : aggOf P e sz = true) {α : Type} {enc : α → List Value} (he : ∀ a, (enc a).length = sz) (h0 : 0 < sz) {l : List Sh} {dec : α → LT l} (hd : ∀ a, Lget l (enc a) = some (dec a)) {f : FuncId} {fargs : LT l → List Value} {a : Option Addr} {n c : Nat} {w0 : World} {L : List α} (H : Sl w0 a n c sz (L.flatMap enc)) (q : α → Bool)
    (CALL : ∀ (j : Nat) (x : α), L[j]? = some x → ∀ w', bel w0 w' → call P f (fargs (dec x)) (.one (.one .bool)) w' fun b w'' => b = q x ∧ bel w' w'') :
    loop (T := (Int × Unit)) (0, ()) w0 fun (again1 : (Int × Unit) → World → Prop) (s2 : (Int × Unit)) w3 => ∀ _ : Nat → Value,
      br (decide (s2.1 < ((n : Nat) : Int))) (rdp P (Instr.indexAt t (.slice a n c) (.int .i64 s2.1)) (.one .addr) fun (x4 : Addr) =>
      rd P (Instr.loadAt e (.pointer (some x4))) (.agg l) w3 fun (x5 : LT l) =>
      call P f (fargs x5) (.one (.one .bool)) w3 fun (x6 : Bool) (w7 : World) =>
      br x6 ((fun (v : Value) (w' : World) => ∃ x : Int, v = (RS.one (.one (.int .i64))).val x ∧ x = idxI q L ∧ bel w0 w') (.int .i64 s2.1) w7)
      (z (IntKind.wrap .i64 (s2.1 + 1)) fun (z8 : Int) =>
      again1 (z8, ()) w7))
      ((fun (v : Value) (w' : World) => ∃ x : Int, v = (RS.one (.one (.int .i64))).val x ∧ x = idxI q L ∧ bel w0 w') (.int .i64 (-1)) w3) := by
  have hl : L.length = n := by
    have := H.len
    rw [flat_len he] at this
    exact Nat.eq_of_mul_eq_mul_right h0 this
  refine idx_loop (R := (fun (v : Value) (w' : World) => ∃ x : Int, v = (RS.one (.one (.int .i64))).val x ∧ x = idxI q L ∧ bel w0 w')) (vs := .agg l) (fargs := fargs) (L.map dec) L q ((List.length_map ..).trans hl) hl H.le (fun j x hx w' hb K hk => ?_) (fun j x y hx hy w' hb => ?_) (fun w' hb => ⟨_, rfl, rfl, hb⟩)
  · have hx' : (L.map dec)[j]? = some x := hx
    rw [List.getElem?_map] at hx'
    cases hp : L[j]? with
    | none => rw [hp] at hx'; cases hx'
    | some p =>
      rw [hp] at hx'
      cases hx'
      exact at_agg TS ht he h0 (H.kept hb) rfl hp (hd p) hk
  · have hx' : (L.map dec)[j]? = some x := hx
    rw [List.getElem?_map, hy] at hx'
    cases hx'
    exact CALL j y hy w' hb
end Go.V

/- Systems of equations: reading them, and when they are valid: the reference. -/



namespace Go.Proofs.Ytajpdnphamomjaa
open Go.RowKit Go.Q Go.Q.Num Go.V

theorem tyI64 : TyS Try.prog 40 2 (.int .i64 0) 1 8 := ⟨by kernel_rfl, by kernel_rfl⟩
theorem tyTab : TyS Try.prog 41 40 (.slice none 0 0) 1 24 := ⟨by kernel_rfl, by kernel_rfl⟩
theorem tyFr : TyS Try.prog 33 23 (.agg #[.int .i64 0, .int .i64 0]) 2 16 := ⟨by kernel_rfl, by kernel_rfl⟩
/-- a system in memory -/
structure Sys (w : World) (u r b : Hdr) (up : List Int) (T : List (List Int)) (rt : List Int) : Prop where
  u : Sl w u.1 u.2.1 u.2.2 1 (ints .i64 up)
  r : TabI .i64 w r T
  b : Sl w b.1 b.2.1 b.2.2 1 (ints .i64 rt)
theorem Sys.up {w w' : World} {u r b : Hdr} {up : List Int} {T : List (List Int)} {rt : List Int} (H : Sys w u r b up T rt) (h : bel w w') : Sys w' u r b up T rt := ⟨H.u.kept h, H.r.up h, H.b.kept h⟩
abbrev sysv (u r b : Hdr) : Value := .agg #[.slice u.1 u.2.1 u.2.2, .slice r.1 r.2.1 r.2.2, .slice b.1 b.2.1 b.2.2]
abbrev sysc (u r b : Hdr) : List Value := [.slice u.1 u.2.1 u.2.2, .slice r.1 r.2.1 r.2.2, .slice b.1 b.2.1 b.2.2]

/-- small numbers; right lengths -/
def SysR (up : List Int) (T : List (List Int)) (rt : List Int) : Prop :=
  (∀ x ∈ up, 0 ≤ x ∧ x ≤ 1000000000) ∧ (∀ x ∈ rt, -1000000000 ≤ x ∧ x ≤ 1000000000) ∧ (∀ r ∈ T, ∀ x ∈ r, -1000000 ≤ x ∧ x ≤ 1000000)
def SysA (up : List Int) (T : List (List Int)) (rt : List Int) : Prop := rt.length = T.length ∧ ∀ r ∈ T, r.length = up.length
instance (up : List Int) (T : List (List Int)) (rt : List Int) : Decidable (SysR up T rt) := by unfold SysR; infer_instance
instance (up : List Int) (T : List (List Int)) (rt : List Int) : Decidable (SysA up T rt) := by unfold SysA; infer_instance
/-- what is wrong with a system -/
def sysE (up : List Int) (T : List (List Int)) (rt : List Int) : Int :=
  if 200 < up.length ∨ 100 < T.length then 8 else if SysR up T rt then (if SysA up T rt then 0 else 9) else 8
section
variable {up : List Int} {T : List (List Int)} {rt : List Int}
theorem sysE_1 (h : 200 < up.length) : sysE up T rt = 8 := by unfold sysE; rw [if_pos (.inl h)]
theorem sysE_2 (h : 100 < T.length) : sysE up T rt = 8 := by unfold sysE; rw [if_pos (.inr h)]
theorem sysE_3 (h : ¬ SysR up T rt) : sysE up T rt = 8 := by unfold sysE; split <;> first | rfl | rw [if_neg h]
theorem sysE_4 (h1 : ¬ 200 < up.length) (h2 : ¬ 100 < T.length) (h3 : SysR up T rt) (h4 : ¬ SysA up T rt) : sysE up T rt = 9 := by unfold sysE; rw [if_neg (by rintro (h | h); exact h1 h; exact h2 h), if_pos h3, if_neg h4]
theorem sysE_0 (h1 : ¬ 200 < up.length) (h2 : ¬ 100 < T.length) (h3 : SysR up T rt) (h4 : SysA up T rt) : sysE up T rt = 0 := by unfold sysE; rw [if_neg (by rintro (h | h); exact h1 h; exact h2 h), if_pos h3, if_pos h4]
theorem sysE_ok (h : sysE up T rt = 0) : up.length ≤ 200 ∧ T.length ≤ 100 ∧ SysR up T rt ∧ SysA up T rt := by
  unfold sysE at h
  split at h
  · omega
  · rename_i hn
    split at h
    · split at h
      · rename_i h1 h2; exact ⟨by omega, by omega, h1, h2⟩
      · omega
    · omega
end

/-- the reference's test of a number -/
theorem withinF (n m : Int) (w : World) (h : 0 ≤ m ∧ m ≤ 1000000000) : call Try.prog 80 [.int .i64 n, .int .i64 m] (.one (.one .bool)) w (fun x w' => x = (decide (-m ≤ n) && decide (n ≤ m)) ∧ bel w w') := by
  refine call_of (S80_calls n m w _ ?_)
  unfold S80
  refine z_i64 (by omega) ?_
  refine br_dec (fun e => ⟨_, rfl, ?_, bel.refl _⟩) (fun e => ⟨_, rfl, ?_, bel.refl _⟩)
  · rw [decide_eq_true (show -m ≤ n by omega), Bool.true_and]
  · rw [decide_eq_false (show ¬ -m ≤ n by omega), Bool.false_and]

set_option maxHeartbeats 1000000 in
theorem valid11 (u r b : Hdr) (up : List Int) (T : List (List Int)) (rt : List Int) (w : World) (H : Sys w u r b up T rt) :
    call Try.prog 31 [sysv u r b] (.one (.one (.int .i64))) w (fun x w' => x = sysE up T rt ∧ bel w w') := by
  refine call_of (S31_calls u.1 u.2.1 u.2.2 r.1 r.2.1 r.2.2 b.1 b.2.1 b.2.2 w _ ?_)
  unfold S31
  have hu := H.u.int
  have hT := H.r.len
  have hb := H.b.int
  have ku := H.u.le
  have kb := H.b.le
  refine wr_box fun x1 w2 X h _ _ => ?_
  replace X : Box w2 x1 (sysc u r b) := X
  replace H := H.up h
  have kT : r.2.1 ≤ 9223372036854775807 := by obtain ⟨hs, q, _⟩ := H.r.ex; exact q.le
  refine rd_box0 (by kernel_rfl) X rfl rfl ?_
  refine br_dec (fun e => ⟨_, rfl, (sysE_1 (by dsimp only at e; omega)).symm, h⟩) (fun e1 => ?_)
  refine rd_box (by kernel_rfl) X (i := 1) rfl rfl ?_
  refine br_dec (fun e => ⟨_, rfl, (sysE_2 (by dsimp only at e; omega)).symm, h⟩) (fun e2 => ?_)
  dsimp only at e1 e2
  refine loop_up u.2.1 (fun i w' => bel w2 w' ∧ ∀ j, j < i → ∀ x, up[j]? = some x → 0 ≤ x ∧ x ≤ 1000000000) ⟨bel.refl _, pre_zero⟩ fun i w7 hi ⟨hw, hq⟩ again hag _ => ?_
  refine rd_box0 (by kernel_rfl) (X.up hw) rfl rfl ?_
  refine br_dec (fun e => ?_) (fun e => ?_)
  · dsimp only at e
    refine rd_box0 (by kernel_rfl) (X.up hw) rfl rfl ?_
    refine at_int tyI64 (by kernel_rfl) (H.up hw).u rfl (by omega) fun x hx => ?_
    refine br_dec (fun e3 => ⟨_, rfl, (sysE_3 fun q => ?_).symm, h.trans hw⟩) (fun e3 => ?_)
    · have := q.1 x (mem_at hx); omega
    refine rd_box0 (by kernel_rfl) (X.up hw) rfl rfl ?_
    refine at_int tyI64 (by kernel_rfl) (H.up hw).u rfl (by omega) fun y hy => ?_
    rw [hx] at hy; cases hy
    refine br_dec (fun e3 => ⟨_, rfl, (sysE_3 fun q => ?_).symm, h.trans hw⟩) (fun e4 => ?_)
    · have := q.1 x (mem_at hx); omega
    refine z_i64 (by dsimp only; omega) ?_
    exact hag _ (by omega) ⟨hw, pre_step hq hx (by omega)⟩
  dsimp only at e
  have Q1 := pre_all hq (by omega)
  clear hq hag again
  have h := h.trans hw; replace X := X.up hw; replace H := H.up hw; clear hw hi e
  refine loop_up b.2.1 (fun i w' => bel w7 w' ∧ ∀ j, j < i → ∀ x, rt[j]? = some x → -1000000000 ≤ x ∧ x ≤ 1000000000) ⟨bel.refl _, pre_zero⟩ fun i w8 hi ⟨hw, hq⟩ again hag _ => ?_
  refine rd_box (by kernel_rfl) (X.up hw) (i := 2) rfl rfl ?_
  refine br_dec (fun e => ?_) (fun e => ?_)
  · dsimp only at e
    refine rd_box (by kernel_rfl) (X.up hw) (i := 2) rfl rfl ?_
    refine at_int tyI64 (by kernel_rfl) (H.up hw).b rfl (by omega) fun x hx => ?_
    refine call_mono (withinF x 1000000000 w8 (by omega)) ?_
    rintro _ w9 ⟨rfl, h'⟩
    replace hw := hw.trans h'
    refine br_not (fun e3 => ⟨_, rfl, (sysE_3 fun q => ?_).symm, h.trans hw⟩) (fun e3 => ?_)
    · have := q.2.1 x (mem_at hx); simp at e3; omega
    refine z_i64 (by dsimp only; omega) ?_
    simp only [Bool.and_eq_true, decide_eq_true_eq] at e3
    exact hag _ (by omega) ⟨hw, pre_step hq hx e3⟩
  dsimp only at e
  have Q2 := pre_all hq (by omega)
  clear hq hag again
  replace h := h.trans hw; replace X := X.up hw; replace H := H.up hw; clear hw hi e
  refine loop_up r.2.1 (fun i w' => bel w8 w' ∧ ∀ j, j < i → ∀ q, T[j]? = some q → ∀ x ∈ q, -1000000 ≤ x ∧ x ≤ 1000000) ⟨bel.refl _, pre_zero⟩ fun i w9 hi ⟨hw, hq⟩ again hag _ => ?_
  refine rd_box (by kernel_rfl) (X.up hw) (i := 1) rfl rfl ?_
  refine br_dec (fun e => ?_) (fun e => ?_)
  · dsimp only at e
    obtain ⟨row, hrow⟩ : ∃ row, T[i]? = some row := ⟨_, List.getElem?_eq_getElem (by omega)⟩
    refine loop_up row.length (fun k w' => bel w9 w' ∧ ∀ j, j < k → ∀ x, row[j]? = some x → -1000000 ≤ x ∧ x ≤ 1000000) ⟨bel.refl _, pre_zero⟩ fun k w10 hk ⟨hw', hq'⟩ again' hag' _ => ?_
    have hwk := hw.trans hw'
    refine rd_box (by kernel_rfl) (X.up hwk) (i := 1) rfl rfl ?_
    refine (H.up hwk).r.at tyTab (by kernel_rfl) rfl (by omega) fun y row' h1 HR => ?_
    rw [hrow] at h1; cases h1
    have hrl : row.length = y.2.1 := Sl.int HR
    have krl := HR.le
    refine br_dec (fun e => ?_) (fun e => ?_)
    · dsimp only at e
      refine rd_box (by kernel_rfl) (X.up hwk) (i := 1) rfl rfl ?_
      refine (H.up hwk).r.at tyTab (by kernel_rfl) rfl (by omega) fun y' row' h1 HR' => ?_
      rw [hrow] at h1; cases h1
      have hrl' : row.length = y'.2.1 := Sl.int HR'
      refine at_int tyI64 (by kernel_rfl) HR' rfl (by omega) fun x hx => ?_
      refine call_mono (withinF x 1000000 w10 (by omega)) ?_
      rintro _ w11 ⟨rfl, h'⟩
      replace hw' := hw'.trans h'
      refine br_not (fun e3 => ⟨_, rfl, (sysE_3 fun q => ?_).symm, h.trans (hw.trans hw')⟩) (fun e3 => ?_)
      · have := q.2.2 row (mem_at hrow) x (mem_at hx); simp at e3; omega
      refine z_i64 (by dsimp only; omega) ?_
      simp only [Bool.and_eq_true, decide_eq_true_eq] at e3
      exact hag' _ (by omega) ⟨hw', pre_step hq' hx e3⟩
    · dsimp only at e
      refine z_i64 (by dsimp only; omega) ?_
      exact hag _ (by omega) ⟨hwk, pre_step hq hrow (pre_all hq' (by omega))⟩
  dsimp only at e
  have Q3 := pre_all hq (by omega)
  clear hq hag again
  replace h := h.trans hw; replace X := X.up hw; replace H := H.up hw; clear hw hi e
  have HR : SysR up T rt := ⟨Q1, Q2, Q3⟩
  refine rd_box (by kernel_rfl) X (i := 2) rfl rfl ?_
  refine rd_box (by kernel_rfl) X (i := 1) rfl rfl ?_
  refine br_ne (fun e => ⟨_, rfl, (sysE_4 (by omega) (by omega) HR fun q => ?_).symm, h⟩) (fun e4 => ?_)
  · have := q.1; dsimp only at e; omega
  dsimp only at e4
  refine loop_up r.2.1 (fun i w' => bel w9 w' ∧ ∀ j, j < i → ∀ q, T[j]? = some q → q.length = up.length) ⟨bel.refl _, pre_zero⟩ fun i w10 hi ⟨hw, hq⟩ again hag _ => ?_
  refine rd_box (by kernel_rfl) (X.up hw) (i := 1) rfl rfl ?_
  refine br_dec (fun e => ?_) (fun e => ?_)
  · dsimp only at e
    refine drw_mk fun w11 h' _ => ?_
    replace hw := hw.trans h'
    refine rd_box (by kernel_rfl) (X.up hw) (i := 1) rfl rfl ?_
    refine (H.up hw).r.at tyTab (by kernel_rfl) rfl (by omega) fun y row h1 HR' => ?_
    have hrl : row.length = y.2.1 := Sl.int HR'
    refine rd_box0 (by kernel_rfl) (X.up hw) rfl rfl ?_
    refine br_ne (fun e => ⟨_, rfl, (sysE_4 (by omega) (by omega) HR fun q => ?_).symm, h.trans hw⟩) (fun e5 => ?_)
    · have := q.2 row (mem_at h1); dsimp only at e; omega
    dsimp only at e5
    refine z_i64 (by dsimp only; omega) ?_
    exact hag _ (by omega) ⟨hw, pre_step hq h1 (by omega)⟩
  · dsimp only at e
    exact ⟨_, rfl, (sysE_0 (by omega) (by omega) HR ⟨by omega, pre_all hq (by omega)⟩).symm, h.trans hw⟩
abbrev OwnI (w : World) (B : Nat) (h : Hdr) (xs : List Int) : Prop := Own w B 2 1 h.1 h.2.1 h.2.2 (ints .i64 xs)
theorem OwnI.len {w : World} {B : Nat} {h : Hdr} {xs : List Int} (H : OwnI w B h xs) : xs.length = h.2.1 := H.sl.int
end Go.Proofs.Ytajpdnphamomjaa

/- When a system is valid: the program. -/

namespace Go.Proofs.Ytajpdnphamomjaa
open Go.RowKit Go.Q Go.Q.Num Go.V

def outB (lo hi n : Int) : Bool := decide (n < lo) || decide (n > hi)
theorem outB_f {lo hi n : Int} (h : outB lo hi n = false) : lo ≤ n ∧ n ≤ hi := by unfold outB at h; simp at h; omega
theorem outB_t {lo hi n : Int} (h : outB lo hi n = true) : ¬ (lo ≤ n ∧ n ≤ hi) := by unfold outB at h; simp at h; omega
theorem any_f {α : Type} {p : α → Bool} {l : List α} (h : l.any p = false) : ∀ x ∈ l, p x = false := by simpa using h
theorem any_t {α : Type} {p : α → Bool} {l : List α} (h : l.any p = true) : ∃ x ∈ l, p x = true := by simpa using h
theorem outsideF (n lo hi : Int) (w : World) : call Try.prog 76 [.int .i64 n, .int .i64 lo, .int .i64 hi] (.one (.one .bool)) w (fun x w' => x = outB lo hi n ∧ bel w w') := by
  refine call_of (S76_calls n lo hi w _ ?_)
  unfold S76
  refine br_dec (fun e => ⟨_, rfl, ?_, bel.refl _⟩) (fun e => ⟨_, rfl, ?_, bel.refl _⟩)
  · unfold outB; rw [decide_eq_true e, Bool.true_or]
  · unfold outB; rw [decide_eq_false e, Bool.false_or]
theorem valid11F (n lo hi : Int) (c0 c1 : Addr) (w : World) (X0 : Box w c0 [.int .i64 lo]) (X1 : Box w c1 [.int .i64 hi]) :
    call Try.prog 75 [.int .i64 n, .pointer (some c0), .pointer (some c1)] (.one (.one .bool)) w (fun x w' => x = outB lo hi n ∧ bel w w') := by
  refine call_of (S75_calls n c0 c1 w _ ?_)
  unfold S75
  refine rd_box0 (by kernel_rfl) X0 rfl rfl ?_
  refine rd_box0 (by kernel_rfl) X1 rfl rfl ?_
  refine call_mono (outsideF n lo hi w) ?_
  rintro x w2 ⟨rfl, h⟩
  exact ⟨_, rfl, rfl, h⟩
theorem hasA (a : Option Addr) (n c : Nat) (xs : List Int) (lo hi : Int) (c0 c1 : Addr) (w : World) (H : Sl w a n c 1 (ints .i64 xs)) (X0 : Box w c0 [.int .i64 lo]) (X1 : Box w c1 [.int .i64 hi]) :
    call Try.prog 74 [.slice a n c, .func (.func 75) #[] #[.pointer (some c0), .pointer (some c1)]] (.one (.one .bool)) w (fun x w' => x = xs.any (outB lo hi) ∧ bel w w') := by
  refine call_of (S74a_calls a n c c0 c1 w _ ?_)
  unfold S74a
  refine call_mono (r := .one (.one (.int .i64))) (Q := fun x w' => x = idxI (outB lo hi) xs ∧ bel w w') (call_of (S112a_calls a n c c0 c1 w _ ?_)) ?_
  · unfold S112a
    exact idx_ints tyI64 (by kernel_rfl) (fargs := fun x5 => [.int .i64 x5, .pointer (some c0), .pointer (some c1)]) H (outB lo hi) (fun j x hx w' hb => valid11F x lo hi c0 c1 w' (X0.up hb) (X1.up hb))
  · rintro x w2 ⟨rfl, hb⟩
    exact ⟨_, rfl, idxI_any _ _, hb⟩
theorem wideF (a : Option Addr) (n c : Nat) (xs : List Int) (lo hi : Int) (w : World) (H : Sl w a n c 1 (ints .i64 xs)) :
    call Try.prog 73 [.slice a n c, .int .i64 lo, .int .i64 hi] (.one (.one .bool)) w (fun x w' => x = xs.any (outB lo hi) ∧ bel w w') := by
  refine call_of (S73_calls a n c lo hi w _ ?_)
  unfold S73
  refine wr_box fun x1 w2 X h _ _ => ?_
  refine wr_box fun x3 w4 Y h' _ _ => ?_
  replace h := h.trans h'; replace X := X.up h'; clear h'
  refine call_mono (hasA a n c xs lo hi x1 x3 w4 (H.kept h) X Y) ?_
  rintro x w6 ⟨rfl, h'⟩
  exact ⟨_, rfl, rfl, h.trans h'⟩
set_option maxRecDepth 100000 in
theorem valid2F (a : Option Addr) (n c : Nat) (xs : List Int) (c0 : Addr) (w : World) (H : Sl w a n c 1 (ints .i64 xs)) (X0 : Box w c0 [.func (.func 73) #[] #[]]) :
    call Try.prog 78 [.slice a n c, .pointer (some c0)] (.one (.one .bool)) w (fun x w' => x = xs.any (outB (-1000000) 1000000) ∧ bel w w') := by
  refine call_of (S78_calls a n c c0 w _ ?_)
  unfold S78
  refine rdF_box0 (by kernel_rfl) X0 rfl ?_
  refine callX_of Try.func73 (by kernel_rfl) rfl ?_
  refine call_mono (wideF a n c xs _ _ w H) ?_
  rintro x w2 ⟨rfl, h⟩
  exact ⟨_, rfl, rfl, h⟩
theorem valid3F (a : Option Addr) (n c : Nat) (c0 : Addr) (v : Hdr) (v1 v2 : Value) (w : World) (X0 : Box w c0 [.slice v.1 v.2.1 v.2.2, v1, v2]) :
    call Try.prog 79 [.slice a n c, .pointer (some c0)] (.one (.one .bool)) w (fun x w' => x = ((n : Int) != (v.2.1 : Int)) ∧ bel w w') := by
  refine call_of (S79_calls a n c c0 w _ ?_)
  unfold S79
  refine rd_box0 (by kernel_rfl) X0 rfl rfl ?_
  exact ⟨_, rfl, rfl, bel.refl _⟩
theorem hasB (r : Hdr) (T : List (List Int)) (c0 : Addr) (w : World) (H : TabI .i64 w r T) (X0 : Box w c0 [.func (.func 73) #[] #[]]) :
    call Try.prog 77 [.slice r.1 r.2.1 r.2.2, .func (.func 78) #[] #[.pointer (some c0)]] (.one (.one .bool)) w (fun x w' => x = T.any (fun q => q.any (outB (-1000000) 1000000)) ∧ bel w w') := by
  refine call_of (S77b_calls r.1 r.2.1 r.2.2 c0 w _ ?_)
  unfold S77b
  refine call_mono (r := .one (.one (.int .i64))) (Q := fun x w' => x = idxI (fun q => q.any (outB (-1000000) 1000000)) T ∧ bel w w') (call_of (S113b_calls r.1 r.2.1 r.2.2 c0 w _ ?_)) ?_
  · unfold S113b
    exact idx_tab tyTab (by kernel_rfl) (fargs := fun x5 => [.slice x5.1 x5.2.1 x5.2.2, .pointer (some c0)]) H (fun q => q.any (outB (-1000000) 1000000)) (fun j x y hy hr w' hb => valid2F x.1 x.2.1 x.2.2 y c0 w' (hr.kept hb) (X0.up hb))
  · rintro x w2 ⟨rfl, hb⟩
    exact ⟨_, rfl, idxI_any _ _, hb⟩
theorem hasC (r : Hdr) (T : List (List Int)) (c0 : Addr) (v : Hdr) (v1 v2 : Value) (w : World) (H : TabI .i64 w r T) (X0 : Box w c0 [.slice v.1 v.2.1 v.2.2, v1, v2]) :
    call Try.prog 77 [.slice r.1 r.2.1 r.2.2, .func (.func 79) #[] #[.pointer (some c0)]] (.one (.one .bool)) w (fun x w' => x = T.any (fun q => (q.length : Int) != (v.2.1 : Int)) ∧ bel w w') := by
  refine call_of (S77c_calls r.1 r.2.1 r.2.2 c0 w _ ?_)
  unfold S77c
  refine call_mono (r := .one (.one (.int .i64))) (Q := fun x w' => x = idxI (fun q : List Int => (q.length : Int) != (v.2.1 : Int)) T ∧ bel w w') (call_of (S113c_calls r.1 r.2.1 r.2.2 c0 w _ ?_)) ?_
  · unfold S113c
    exact idx_tab tyTab (by kernel_rfl) (fargs := fun x5 => [.slice x5.1 x5.2.1 x5.2.2, .pointer (some c0)]) H (fun q : List Int => (q.length : Int) != (v.2.1 : Int)) (fun j x y hy hr w' hb => by rw [Sl.int hr]; exact valid3F x.1 x.2.1 x.2.2 c0 v v1 v2 w' (X0.up hb))
  · rintro x w2 ⟨rfl, hb⟩
    exact ⟨_, rfl, idxI_any _ _, hb⟩

set_option maxRecDepth 100000 in
theorem validL (u r b : Hdr) (up : List Int) (T : List (List Int)) (rt : List Int) (w : World) (H : Sys w u r b up T rt) :
    call Try.prog 30 [sysv u r b] (.one (.one (.int .i64))) w (fun x w' => x = sysE up T rt ∧ bel w w') := by
  refine call_of (S30_calls u.1 u.2.1 u.2.2 r.1 r.2.1 r.2.2 b.1 b.2.1 b.2.2 w _ ?_)
  unfold S30
  have hu := H.u.int
  have hT := H.r.len
  have hb := H.b.int
  refine wr_box fun x1 w2 X h _ _ => ?_
  replace X : Box w2 x1 (sysc u r b) := X
  replace H := H.up h
  refine rd_box0 (by kernel_rfl) X rfl rfl ?_
  refine br_dec (fun e => ⟨_, rfl, (sysE_1 (by dsimp only at e; omega)).symm, h⟩) (fun e1 => ?_)
  refine rd_box (by kernel_rfl) X (i := 1) rfl rfl ?_
  refine br_dec (fun e => ⟨_, rfl, (sysE_2 (by dsimp only at e; omega)).symm, h⟩) (fun e2 => ?_)
  dsimp only at e1 e2
  refine var_mk (z := .nilFunc) (by kernel_rfl) (by kernel_rfl) rfl rfl fun x5 w7 Y h' _ => ?_
  replace Y : Box w7 x5 [.func (.func 73) #[] #[]] := Y
  replace h := h.trans h'; replace X := X.up h'; replace H := H.up h'; clear h'
  refine rdF_box0 (by kernel_rfl) Y rfl ?_
  refine rd_box0 (by kernel_rfl) X rfl rfl ?_
  refine callX_of Try.func73 (by kernel_rfl) rfl ?_
  refine call_mono (wideF _ _ _ up _ _ w7 H.u) ?_
  rintro x w11 ⟨rfl, h'⟩
  replace h := h.trans h'; replace X := X.up h'; replace H := H.up h'; replace Y := Y.up h'; clear h'
  refine br_mk (fun e => ⟨_, rfl, (sysE_3 fun q => ?_).symm, h⟩) (fun e3 => ?_)
  · obtain ⟨x, hx, hq⟩ := any_t e; exact outB_t hq (q.1 x hx)
  refine rdF_box0 (by kernel_rfl) Y rfl ?_
  refine rd_box (by kernel_rfl) X (i := 2) rfl rfl ?_
  refine callX_of Try.func73 (by kernel_rfl) rfl ?_
  refine call_mono (wideF _ _ _ rt _ _ w11 H.b) ?_
  rintro x w15 ⟨rfl, h'⟩
  replace h := h.trans h'; replace X := X.up h'; replace H := H.up h'; replace Y := Y.up h'; clear h'
  refine br_mk (fun e => ⟨_, rfl, (sysE_3 fun q => ?_).symm, h⟩) (fun e4 => ?_)
  · obtain ⟨x, hx, hq⟩ := any_t e; exact outB_t hq (q.2.1 x hx)
  refine rd_box (by kernel_rfl) X (i := 1) rfl rfl ?_
  refine call_mono (hasB r T x5 w15 H.r Y) ?_
  rintro x w18 ⟨rfl, h'⟩
  replace h := h.trans h'; replace X := X.up h'; replace H := H.up h'; replace Y := Y.up h'; clear h'
  refine br_mk (fun e => ⟨_, rfl, (sysE_3 fun q => ?_).symm, h⟩) (fun e5 => ?_)
  · obtain ⟨x, hx, hq⟩ := any_t e
    obtain ⟨y, hy, hq⟩ := any_t hq
    exact outB_t hq (q.2.2 x hx y hy)
  have HR : SysR up T rt := ⟨fun x hx => outB_f (any_f e3 x hx), fun x hx => outB_f (any_f e4 x hx), fun q hq x hx => outB_f (any_f (any_f e5 q hq) x hx)⟩
  refine rd_box (by kernel_rfl) X (i := 2) rfl rfl ?_
  refine rd_box (by kernel_rfl) X (i := 1) rfl rfl ?_
  refine br_ne (fun e => ⟨_, rfl, (sysE_4 (by omega) (by omega) HR fun q => ?_).symm, h⟩) (fun e6 => ?_)
  · have := q.1; dsimp only at e; omega
  dsimp only at e6
  refine rd_box (by kernel_rfl) X (i := 1) rfl rfl ?_
  refine call_mono (hasC r T x1 u _ _ w18 H.r X) ?_
  rintro x w23 ⟨rfl, h'⟩
  replace h := h.trans h'; replace X := X.up h'; replace H := H.up h'; clear h'
  refine br_mk (fun e => ⟨_, rfl, (sysE_4 (by omega) (by omega) HR fun q => ?_).symm, h⟩) (fun e7 => ⟨_, rfl, (sysE_0 (by omega) (by omega) HR ⟨by omega, fun q hq => ?_⟩).symm, h⟩)
  · obtain ⟨x, hx, hq⟩ := any_t e
    have := q.2 x hx
    simp at hq; omega
  · have := any_f e7 q hq
    simp at this; omega
end Go.Proofs.Ytajpdnphamomjaa

/- The conditions of functions, printed by our tool; each is checked against the code by the kernel. -/



namespace Go.Proofs
open Go Go.V Go.RowKit
/-- querylab/fraction.Whole -/
def S81 (n_ : Int) (w0 : World) (R : Value → World → Prop) : Prop :=
 wr Try.prog (Instr.alloc 81 true (.tuple #[])) (.one .addr) w0 fun (x1 : Addr) (w2 : World) =>
 call Try.prog 65 [(.int .i64 n_)] (.one (.one (.int .u64))) w2 fun (x3 : Int) (w4 : World) =>
 call Try.prog 103 [(.int .u64 x3)] (.one (.one .slice)) w4 fun (x5 : (Option Addr × Nat × Nat)) (w6 : World) =>
 call Try.prog 103 [(.int .u64 1)] (.one (.one .slice)) w6 fun (x7 : (Option Addr × Nat × Nat)) (w8 : World) =>
 wu Try.prog (Instr.storeAt 81 (.pointer (some x1)) (.agg #[(.bool (decide (n_ < 0))), (.slice x5.1 x5.2.1 x5.2.2), (.slice x7.1 x7.2.1 x7.2.2)])) w8 fun (w9 : World) =>
 rd Try.prog (loadVar 81 x1) (.agg [.bool, .slice, .slice]) w9 fun (x10 : (Bool × (Option Addr × Nat × Nat) × (Option Addr × Nat × Nat) × Unit)) =>
 R (.agg #[(.bool x10.1), (.slice x10.2.1.1 x10.2.1.2.1 x10.2.1.2.2), (.slice x10.2.2.1.1 x10.2.2.1.2.1 x10.2.2.1.2.2)]) w9
def H81 : Hints := ⟨[], [], [], []⟩
set_option maxRecDepth 100000 in
theorem S81_eq (n_ : Int) (w0 : World) (R : Value → World → Prop) : vcFn Try.prog H81 Try.f81 [(.int .i64 n_)] w0 R = S81 n_ w0 R := by kernel_rfl
set_option maxRecDepth 100000 in
theorem S81_calls (n_ : Int) (w0 : World) (R : Value → World → Prop) (h : S81 n_ w0 R) : Calls Try.prog 81 #[(.int .i64 n_)] w0 (ret R) := by
  rw [← S81_eq] at h; exact vcFn_sound follows_ Try.func81 h

/-- querylab/querylabref10.Whole -/
def S83 (n_ : Int) (w0 : World) (R : Value → World → Prop) : Prop :=
 wr Try.prog (Instr.alloc 90 true (.tuple #[])) (.one .addr) w0 fun (x1 : Addr) (w2 : World) =>
 call Try.prog 53 [(.int .i64 n_)] (.one (.one .slice)) w2 fun (x3 : (Option Addr × Nat × Nat)) (w4 : World) =>
 wr Try.prog (Instr.buildSlice 73 1 #[(0, (.int .u64 1))]) (.one .slice) w4 fun (x5 : (Option Addr × Nat × Nat)) (w6 : World) =>
 wu Try.prog (Instr.storeAt 90 (.pointer (some x1)) (.agg #[(.bool (decide (n_ < 0))), (.slice x3.1 x3.2.1 x3.2.2), (.slice x5.1 x5.2.1 x5.2.2)])) w6 fun (w7 : World) =>
 rd Try.prog (loadVar 90 x1) (.agg [.bool, .slice, .slice]) w7 fun (x8 : (Bool × (Option Addr × Nat × Nat) × (Option Addr × Nat × Nat) × Unit)) =>
 R (.agg #[(.bool x8.1), (.slice x8.2.1.1 x8.2.1.2.1 x8.2.1.2.2), (.slice x8.2.2.1.1 x8.2.2.1.2.1 x8.2.2.1.2.2)]) w7
def H83 : Hints := ⟨[], [], [], []⟩
set_option maxRecDepth 100000 in
theorem S83_eq (n_ : Int) (w0 : World) (R : Value → World → Prop) : vcFn Try.prog H83 Try.f83 [(.int .i64 n_)] w0 R = S83 n_ w0 R := by kernel_rfl
set_option maxRecDepth 100000 in
theorem S83_calls (n_ : Int) (w0 : World) (R : Value → World → Prop) (h : S83 n_ w0 R) : Calls Try.prog 83 #[(.int .i64 n_)] w0 (ret R) := by
  rw [← S83_eq] at h; exact vcFn_sound follows_ Try.func83 h

/-- querylab/querylabref10.Less -/
def S82 (a_0 : Bool) (a_1a : Option Addr) (a_1n : Nat) (a_1c : Nat) (a_2a : Option Addr) (a_2n : Nat) (a_2c : Nat) (b_0 : Bool) (b_1a : Option Addr) (b_1n : Nat) (b_1c : Nat) (b_2a : Option Addr) (b_2n : Nat) (b_2c : Nat) (w0 : World) (R : Value → World → Prop) : Prop :=
 wr Try.prog (Instr.box 90 (.agg #[(.bool a_0), (.slice a_1a a_1n a_1c), (.slice a_2a a_2n a_2c)])) (.one .addr) w0 fun (x1 : Addr) (w2 : World) =>
 wr Try.prog (Instr.box 90 (.agg #[(.bool b_0), (.slice b_1a b_1n b_1c), (.slice b_2a b_2n b_2c)])) (.one .addr) w2 fun (x3 : Addr) (w4 : World) =>
 drw w4 fun w5 => flEx fun F6 =>
 rd Try.prog (Instr.loadAt 90 (.pointer (some x1))) (.agg [.bool, .slice, .slice]) w5 fun (x7 : (Bool × (Option Addr × Nat × Nat) × (Option Addr × Nat × Nat) × Unit)) =>
 rd Try.prog (Instr.loadAt 90 (.pointer (some x3))) (.agg [.bool, .slice, .slice]) w5 fun (x8 : (Bool × (Option Addr × Nat × Nat) × (Option Addr × Nat × Nat) × Unit)) =>
 flc bel w5 (fun _w10 => True) (fun (w9 : World) =>
   call Try.prog 66 [(.agg #[(.bool x8.1), (.slice x8.2.1.1 x8.2.1.2.1 x8.2.1.2.2), (.slice x8.2.2.1.1 x8.2.2.1.2.1 x8.2.2.1.2.2)])] (.one (.agg [.bool, .slice, .slice])) w9 fun (x11 : (Bool × (Option Addr × Nat × Nat) × (Option Addr × Nat × Nat) × Unit)) (w12 : World) =>
 (bel w9 w12 ∧ F6 2 [(.agg #[(.bool x8.1), (.slice x8.2.1.1 x8.2.1.2.1 x8.2.1.2.2), (.slice x8.2.2.1.1 x8.2.2.1.2.1 x8.2.2.1.2.2)])] (.agg #[(.bool x11.1), (.slice x11.2.1.1 x11.2.1.2.1 x11.2.1.2.2), (.slice x11.2.2.1.1 x11.2.2.1.2.1 x11.2.2.1.2.2)]) w12))
  fun (x13 : (Bool × (Option Addr × Nat × Nat) × (Option Addr × Nat × Nat) × Unit)) =>
 flend bel w5 (fun w15 => F6 2 [(.agg #[(.bool x8.1), (.slice x8.2.1.1 x8.2.1.2.1 x8.2.1.2.2), (.slice x8.2.2.1.1 x8.2.2.1.2.1 x8.2.2.1.2.2)])] (.agg #[(.bool x13.1), (.slice x13.2.1.1 x13.2.1.2.1 x13.2.1.2.2), (.slice x13.2.2.1.1 x13.2.2.1.2.1 x13.2.2.1.2.2)]) w15 ∧ True) fun w14 =>
 call Try.prog 62 [(.agg #[(.bool x7.1), (.slice x7.2.1.1 x7.2.1.2.1 x7.2.1.2.2), (.slice x7.2.2.1.1 x7.2.2.1.2.1 x7.2.2.1.2.2)]), (.agg #[(.bool x13.1), (.slice x13.2.1.1 x13.2.1.2.1 x13.2.1.2.2), (.slice x13.2.2.1.1 x13.2.2.1.2.1 x13.2.2.1.2.2)])] (.one (.agg [.bool, .slice, .slice])) w14 fun (x16 : (Bool × (Option Addr × Nat × Nat) × (Option Addr × Nat × Nat) × Unit)) (w17 : World) =>
 call Try.prog 72 [(.agg #[(.bool x16.1), (.slice x16.2.1.1 x16.2.1.2.1 x16.2.1.2.2), (.slice x16.2.2.1.1 x16.2.2.1.2.1 x16.2.2.1.2.2)])] (.one (.one (.int .i64))) w17 fun (x18 : Int) (w19 : World) =>
 R (.bool (decide (x18 < 0))) w19
def H82 : Hints := ⟨[], [(1, 3)], [], []⟩
set_option maxRecDepth 100000 in
theorem S82_eq (a_0 : Bool) (a_1a : Option Addr) (a_1n : Nat) (a_1c : Nat) (a_2a : Option Addr) (a_2n : Nat) (a_2c : Nat) (b_0 : Bool) (b_1a : Option Addr) (b_1n : Nat) (b_1c : Nat) (b_2a : Option Addr) (b_2n : Nat) (b_2c : Nat) (w0 : World) (R : Value → World → Prop) : vcFn Try.prog H82 Try.f82 [(.agg #[(.bool a_0), (.slice a_1a a_1n a_1c), (.slice a_2a a_2n a_2c)]), (.agg #[(.bool b_0), (.slice b_1a b_1n b_1c), (.slice b_2a b_2n b_2c)])] w0 R = S82 a_0 a_1a a_1n a_1c a_2a a_2n a_2c b_0 b_1a b_1n b_1c b_2a b_2n b_2c w0 R := by kernel_rfl
set_option maxRecDepth 100000 in
theorem S82_calls (a_0 : Bool) (a_1a : Option Addr) (a_1n : Nat) (a_1c : Nat) (a_2a : Option Addr) (a_2n : Nat) (a_2c : Nat) (b_0 : Bool) (b_1a : Option Addr) (b_1n : Nat) (b_1c : Nat) (b_2a : Option Addr) (b_2n : Nat) (b_2c : Nat) (w0 : World) (R : Value → World → Prop) (h : S82 a_0 a_1a a_1n a_1c a_2a a_2n a_2c b_0 b_1a b_1n b_1c b_2a b_2n b_2c w0 R) : Calls Try.prog 82 #[(.agg #[(.bool a_0), (.slice a_1a a_1n a_1c), (.slice a_2a a_2n a_2c)]), (.agg #[(.bool b_0), (.slice b_1a b_1n b_1c), (.slice b_2a b_2n b_2c)])] w0 (ret R) := by
  rw [← S82_eq] at h; exact vcFn_sound follows_ Try.func82 h

/-- querylab/linear.CheckSolution -/
def S32 (s_0a : Option Addr) (s_0n : Nat) (s_0c : Nat) (s_1a : Option Addr) (s_1n : Nat) (s_1c : Nat) (s_2a : Option Addr) (s_2n : Nat) (s_2c : Nat) (x_a : Option Addr) (x_n : Nat) (x_c : Nat) (w0 : World) (R : Value → World → Prop) : Prop :=
 wr Try.prog (Instr.box 43 (.agg #[(.slice s_0a s_0n s_0c), (.slice s_1a s_1n s_1c), (.slice s_2a s_2n s_2c)])) (.one .addr) w0 fun (x1 : Addr) (w2 : World) =>
 rd Try.prog (Instr.loadAt 43 (.pointer (some x1))) (.agg [.slice, .slice, .slice]) w2 fun (x3 : ((Option Addr × Nat × Nat) × (Option Addr × Nat × Nat) × (Option Addr × Nat × Nat) × Unit)) =>
 call Try.prog 30 [(.agg #[(.slice x3.1.1 x3.1.2.1 x3.1.2.2), (.slice x3.2.1.1 x3.2.1.2.1 x3.2.1.2.2), (.slice x3.2.2.1.1 x3.2.2.1.2.1 x3.2.2.1.2.2)])] (.one (.one (.int .i64))) w2 fun (x4 : Int) (w5 : World) =>
 br (x4 != 0) (R (.bool false) w5)
 (rd Try.prog (Instr.loadAt 40 (.pointer (some x1))) (.one .slice) w5 fun (x6 : (Option Addr × Nat × Nat)) =>
 br (((x_n : Nat) : Int) != ((x6.2.1 : Nat) : Int)) (R (.bool false) w5)
 (loop (T := (Int × Unit)) (0, ()) w5 fun (again7 : (Int × Unit) → World → Prop) (s8 : (Int × Unit)) w9 => ∀ _ : Nat → Value,
 br (decide (s8.1 < ((x_n : Nat) : Int))) (rdp Try.prog (Instr.indexAt 33 (.slice x_a x_n x_c) (.int .i64 s8.1)) (.one .addr) fun (x10 : Addr) =>
 rd Try.prog (Instr.loadAt 23 (.pointer (some x10))) (.agg [(.int .i64), (.int .i64)]) w9 fun (x11 : (Int × Int × Unit)) =>
 wr Try.prog (Instr.alloc 23 true (.tuple #[])) (.one .addr) w9 fun (x12 : Addr) (w13 : World) =>
 wu Try.prog (Instr.storeAt 23 (.pointer (some x12)) (.agg #[(.int .i64 x11.1), (.int .i64 x11.2.1)])) w13 fun (w14 : World) =>
 drw w14 fun w15 => flEx fun F16 =>
 rd Try.prog (Instr.loadAt 23 (.pointer (some x12))) (.agg [(.int .i64), (.int .i64)]) w15 fun (x17 : (Int × Int × Unit)) =>
 flc bel w15 (fun _w19 => True) (fun (w18 : World) =>
   call Try.prog 20 [(.agg #[(.int .i64 x17.1), (.int .i64 x17.2.1)])] (.one (.one .bool)) w18 fun (x20 : Bool) (w21 : World) =>
 (bel w18 w21 ∧ F16 1 [(.agg #[(.int .i64 x17.1), (.int .i64 x17.2.1)])] (.bool x20) w21))
  fun (x22 : Bool) =>
 br (!x22) (flend bel w15 (fun w24 => F16 1 [(.agg #[(.int .i64 x17.1), (.int .i64 x17.2.1)])] (.bool x22) w24 ∧ True) fun w23 =>
 R (.bool false) w23)
 (rd Try.prog (Instr.loadAt 2 (.pointer (some x12))) (.one (.int .i64)) w15 fun (x25 : Int) =>
 br (decide (x25 < 0)) (flend bel w15 (fun w27 => F16 1 [(.agg #[(.int .i64 x17.1), (.int .i64 x17.2.1)])] (.bool x22) w27 ∧ True) fun w26 =>
 R (.bool false) w26)
 (rd Try.prog (Instr.loadAt 23 (.pointer (some x12))) (.agg [(.int .i64), (.int .i64)]) w15 fun (x28 : (Int × Int × Unit)) =>
 flc bel w15 (fun w30 => F16 1 [(.agg #[(.int .i64 x17.1), (.int .i64 x17.2.1)])] (.bool x22) w30 ∧ True) (fun (w29 : World) =>
   call Try.prog 56 [(.agg #[(.int .i64 x28.1), (.int .i64 x28.2.1)])] (.one (.agg [.bool, .slice, .slice])) w29 fun (x31 : (Bool × (Option Addr × Nat × Nat) × (Option Addr × Nat × Nat) × Unit)) (w32 : World) =>
 (bel w29 w32 ∧ F16 10 [(.agg #[(.int .i64 x28.1), (.int .i64 x28.2.1)])] (.agg #[(.bool x31.1), (.slice x31.2.1.1 x31.2.1.2.1 x31.2.1.2.2), (.slice x31.2.2.1.1 x31.2.2.1.2.1 x31.2.2.1.2.2)]) w32))
  fun (x33 : (Bool × (Option Addr × Nat × Nat) × (Option Addr × Nat × Nat) × Unit)) =>
 rd Try.prog (Instr.loadAt 40 (.pointer (some x1))) (.one .slice) w15 fun (x34 : (Option Addr × Nat × Nat)) =>
 rdp Try.prog (Instr.indexAt 40 (.slice x34.1 x34.2.1 x34.2.2) (.int .i64 s8.1)) (.one .addr) fun (x35 : Addr) =>
 rd Try.prog (Instr.loadAt 2 (.pointer (some x35))) (.one (.int .i64)) w15 fun (x36 : Int) =>
 flend bel w15 (fun w38 => F16 10 [(.agg #[(.int .i64 x28.1), (.int .i64 x28.2.1)])] (.agg #[(.bool x33.1), (.slice x33.2.1.1 x33.2.1.2.1 x33.2.1.2.2), (.slice x33.2.2.1.1 x33.2.2.1.2.1 x33.2.2.1.2.2)]) w38 ∧ F16 1 [(.agg #[(.int .i64 x17.1), (.int .i64 x17.2.1)])] (.bool x22) w38 ∧ True) fun w37 =>
 call Try.prog 81 [(.int .i64 x36)] (.one (.agg [.bool, .slice, .slice])) w37 fun (x39 : (Bool × (Option Addr × Nat × Nat) × (Option Addr × Nat × Nat) × Unit)) (w40 : World) =>
 call Try.prog 57 [(.agg #[(.bool x33.1), (.slice x33.2.1.1 x33.2.1.2.1 x33.2.1.2.2), (.slice x33.2.2.1.1 x33.2.2.1.2.1 x33.2.2.1.2.2)]), (.agg #[(.bool x39.1), (.slice x39.2.1.1 x39.2.1.2.1 x39.2.1.2.2), (.slice x39.2.2.1.1 x39.2.2.1.2.1 x39.2.2.1.2.2)])] (.one (.one (.int .i64))) w40 fun (x41 : Int) (w42 : World) =>
 br (decide (x41 > 0)) (R (.bool false) w42)
 (z (IntKind.wrap .i64 (s8.1 + 1)) fun (z43 : Int) =>
 again7 (z43, ()) w42))))
 (rd Try.prog (Instr.loadAt 41 (.pointer (some (Addr.add x1 1)))) (.one .slice) w9 fun (x44 : (Option Addr × Nat × Nat)) =>
 loop (T := (Int × Unit)) (0, ()) w9 fun (again45 : (Int × Unit) → World → Prop) (s46 : (Int × Unit)) w47 => ∀ _ : Nat → Value,
 br (decide (s46.1 < ((x44.2.1 : Nat) : Int))) (rdp Try.prog (Instr.indexAt 41 (.slice x44.1 x44.2.1 x44.2.2) (.int .i64 s46.1)) (.one .addr) fun (x48 : Addr) =>
 rd Try.prog (Instr.loadAt 40 (.pointer (some x48))) (.one .slice) w47 fun (x49 : (Option Addr × Nat × Nat)) =>
 call Try.prog 81 [(.int .i64 0)] (.one (.agg [.bool, .slice, .slice])) w47 fun (x50 : (Bool × (Option Addr × Nat × Nat) × (Option Addr × Nat × Nat) × Unit)) (w51 : World) =>
 wr Try.prog (Instr.alloc 81 true (.tuple #[])) (.one .addr) w51 fun (x52 : Addr) (w53 : World) =>
 wu Try.prog (Instr.storeAt 81 (.pointer (some x52)) (.agg #[(.bool x50.1), (.slice x50.2.1.1 x50.2.1.2.1 x50.2.1.2.2), (.slice x50.2.2.1.1 x50.2.2.1.2.1 x50.2.2.1.2.2)])) w53 fun (w54 : World) =>
 loop (T := (Int × Unit)) (0, ()) w54 fun (again55 : (Int × Unit) → World → Prop) (s56 : (Int × Unit)) w57 => ∀ _ : Nat → Value,
 br (decide (s56.1 < ((x49.2.1 : Nat) : Int))) (join (T := (Unit)) (fun (_s59 : (Unit)) w60 => ∀ _ : Nat → Value,
 z (IntKind.wrap .i64 (s56.1 + 1)) fun (z61 : Int) =>
 again55 (z61, ()) w60)
  fun (K58 : (Unit) → World → Prop) =>
 rdp Try.prog (Instr.indexAt 40 (.slice x49.1 x49.2.1 x49.2.2) (.int .i64 s56.1)) (.one .addr) fun (x62 : Addr) =>
 rd Try.prog (Instr.loadAt 2 (.pointer (some x62))) (.one (.int .i64)) w57 fun (x63 : Int) =>
 br (x63 != 0) (rdp Try.prog (Instr.indexAt 33 (.slice x_a x_n x_c) (.int .i64 s56.1)) (.one .addr) fun (x64 : Addr) =>
 rd Try.prog (Instr.loadAt 2 (.pointer (some x64))) (.one (.int .i64)) w57 fun (x65 : Int) =>
 br (x65 != 0) (drw w57 fun w66 => flEx fun F67 =>
 rd Try.prog (Instr.loadAt 81 (.pointer (some x52))) (.agg [.bool, .slice, .slice]) w66 fun (x68 : (Bool × (Option Addr × Nat × Nat) × (Option Addr × Nat × Nat) × Unit)) =>
 rdp Try.prog (Instr.indexAt 33 (.slice x_a x_n x_c) (.int .i64 s56.1)) (.one .addr) fun (x69 : Addr) =>
 rd Try.prog (Instr.loadAt 23 (.pointer (some x69))) (.agg [(.int .i64), (.int .i64)]) w66 fun (x70 : (Int × Int × Unit)) =>
 flc bel w66 (fun _w72 => True) (fun (w71 : World) =>
   call Try.prog 56 [(.agg #[(.int .i64 x70.1), (.int .i64 x70.2.1)])] (.one (.agg [.bool, .slice, .slice])) w71 fun (x73 : (Bool × (Option Addr × Nat × Nat) × (Option Addr × Nat × Nat) × Unit)) (w74 : World) =>
 (bel w71 w74 ∧ F67 5 [(.agg #[(.int .i64 x70.1), (.int .i64 x70.2.1)])] (.agg #[(.bool x73.1), (.slice x73.2.1.1 x73.2.1.2.1 x73.2.1.2.2), (.slice x73.2.2.1.1 x73.2.2.1.2.1 x73.2.2.1.2.2)]) w74))
  fun (x75 : (Bool × (Option Addr × Nat × Nat) × (Option Addr × Nat × Nat) × Unit)) =>
 flc bel w66 (fun w77 => F67 5 [(.agg #[(.int .i64 x70.1), (.int .i64 x70.2.1)])] (.agg #[(.bool x75.1), (.slice x75.2.1.1 x75.2.1.2.1 x75.2.1.2.2), (.slice x75.2.2.1.1 x75.2.2.1.2.1 x75.2.2.1.2.2)]) w77 ∧ True) (fun (w76 : World) =>
   call Try.prog 81 [(.int .i64 x63)] (.one (.agg [.bool, .slice, .slice])) w76 fun (x78 : (Bool × (Option Addr × Nat × Nat) × (Option Addr × Nat × Nat) × Unit)) (w79 : World) =>
 (bel w76 w79 ∧ F67 7 [(.int .i64 x63)] (.agg #[(.bool x78.1), (.slice x78.2.1.1 x78.2.1.2.1 x78.2.1.2.2), (.slice x78.2.2.1.1 x78.2.2.1.2.1 x78.2.2.1.2.2)]) w79))
  fun (x80 : (Bool × (Option Addr × Nat × Nat) × (Option Addr × Nat × Nat) × Unit)) =>
 flc bel w66 (fun w82 => F67 7 [(.int .i64 x63)] (.agg #[(.bool x80.1), (.slice x80.2.1.1 x80.2.1.2.1 x80.2.1.2.2), (.slice x80.2.2.1.1 x80.2.2.1.2.1 x80.2.2.1.2.2)]) w82 ∧ F67 5 [(.agg #[(.int .i64 x70.1), (.int .i64 x70.2.1)])] (.agg #[(.bool x75.1), (.slice x75.2.1.1 x75.2.1.2.1 x75.2.1.2.2), (.slice x75.2.2.1.1 x75.2.2.1.2.1 x75.2.2.1.2.2)]) w82 ∧ True) (fun (w81 : World) =>
   call Try.prog 68 [(.agg #[(.bool x75.1), (.slice x75.2.1.1 x75.2.1.2.1 x75.2.1.2.2), (.slice x75.2.2.1.1 x75.2.2.1.2.1 x75.2.2.1.2.2)]), (.agg #[(.bool x80.1), (.slice x80.2.1.1 x80.2.1.2.1 x80.2.1.2.2), (.slice x80.2.2.1.1 x80.2.2.1.2.1 x80.2.2.1.2.2)])] (.one (.agg [.bool, .slice, .slice])) w81 fun (x83 : (Bool × (Option Addr × Nat × Nat) × (Option Addr × Nat × Nat) × Unit)) (w84 : World) =>
 (bel w81 w84 ∧ F67 8 [(.agg #[(.bool x75.1), (.slice x75.2.1.1 x75.2.1.2.1 x75.2.1.2.2), (.slice x75.2.2.1.1 x75.2.2.1.2.1 x75.2.2.1.2.2)]), (.agg #[(.bool x80.1), (.slice x80.2.1.1 x80.2.1.2.1 x80.2.1.2.2), (.slice x80.2.2.1.1 x80.2.2.1.2.1 x80.2.2.1.2.2)])] (.agg #[(.bool x83.1), (.slice x83.2.1.1 x83.2.1.2.1 x83.2.1.2.2), (.slice x83.2.2.1.1 x83.2.2.1.2.1 x83.2.2.1.2.2)]) w84))
  fun (x85 : (Bool × (Option Addr × Nat × Nat) × (Option Addr × Nat × Nat) × Unit)) =>
 flend bel w66 (fun w87 => F67 8 [(.agg #[(.bool x75.1), (.slice x75.2.1.1 x75.2.1.2.1 x75.2.1.2.2), (.slice x75.2.2.1.1 x75.2.2.1.2.1 x75.2.2.1.2.2)]), (.agg #[(.bool x80.1), (.slice x80.2.1.1 x80.2.1.2.1 x80.2.1.2.2), (.slice x80.2.2.1.1 x80.2.2.1.2.1 x80.2.2.1.2.2)])] (.agg #[(.bool x85.1), (.slice x85.2.1.1 x85.2.1.2.1 x85.2.1.2.2), (.slice x85.2.2.1.1 x85.2.2.1.2.1 x85.2.2.1.2.2)]) w87 ∧ F67 7 [(.int .i64 x63)] (.agg #[(.bool x80.1), (.slice x80.2.1.1 x80.2.1.2.1 x80.2.1.2.2), (.slice x80.2.2.1.1 x80.2.2.1.2.1 x80.2.2.1.2.2)]) w87 ∧ F67 5 [(.agg #[(.int .i64 x70.1), (.int .i64 x70.2.1)])] (.agg #[(.bool x75.1), (.slice x75.2.1.1 x75.2.1.2.1 x75.2.1.2.2), (.slice x75.2.2.1.1 x75.2.2.1.2.1 x75.2.2.1.2.2)]) w87 ∧ True) fun w86 =>
 call Try.prog 60 [(.agg #[(.bool x68.1), (.slice x68.2.1.1 x68.2.1.2.1 x68.2.1.2.2), (.slice x68.2.2.1.1 x68.2.2.1.2.1 x68.2.2.1.2.2)]), (.agg #[(.bool x85.1), (.slice x85.2.1.1 x85.2.1.2.1 x85.2.1.2.2), (.slice x85.2.2.1.1 x85.2.2.1.2.1 x85.2.2.1.2.2)])] (.one (.agg [.bool, .slice, .slice])) w86 fun (x88 : (Bool × (Option Addr × Nat × Nat) × (Option Addr × Nat × Nat) × Unit)) (w89 : World) =>
 wu Try.prog (Instr.storeAt 81 (.pointer (some x52)) (.agg #[(.bool x88.1), (.slice x88.2.1.1 x88.2.1.2.1 x88.2.1.2.2), (.slice x88.2.2.1.1 x88.2.2.1.2.1 x88.2.2.1.2.2)])) w89 fun (w90 : World) =>
 K58 (()) w90)
 (K58 (()) w57))
 (K58 (()) w57))
 (drw w57 fun w91 => flEx fun F92 =>
 rd Try.prog (Instr.loadAt 81 (.pointer (some x52))) (.agg [.bool, .slice, .slice]) w91 fun (x93 : (Bool × (Option Addr × Nat × Nat) × (Option Addr × Nat × Nat) × Unit)) =>
 rd Try.prog (Instr.loadAt 40 (.pointer (some (Addr.add x1 2)))) (.one .slice) w91 fun (x94 : (Option Addr × Nat × Nat)) =>
 rdp Try.prog (Instr.indexAt 40 (.slice x94.1 x94.2.1 x94.2.2) (.int .i64 s46.1)) (.one .addr) fun (x95 : Addr) =>
 rd Try.prog (Instr.loadAt 2 (.pointer (some x95))) (.one (.int .i64)) w91 fun (x96 : Int) =>
 flc bel w91 (fun _w98 => True) (fun (w97 : World) =>
   call Try.prog 81 [(.int .i64 x96)] (.one (.agg [.bool, .slice, .slice])) w97 fun (x99 : (Bool × (Option Addr × Nat × Nat) × (Option Addr × Nat × Nat) × Unit)) (w100 : World) =>
 (bel w97 w100 ∧ F92 6 [(.int .i64 x96)] (.agg #[(.bool x99.1), (.slice x99.2.1.1 x99.2.1.2.1 x99.2.1.2.2), (.slice x99.2.2.1.1 x99.2.2.1.2.1 x99.2.2.1.2.2)]) w100))
  fun (x101 : (Bool × (Option Addr × Nat × Nat) × (Option Addr × Nat × Nat) × Unit)) =>
 flend bel w91 (fun w103 => F92 6 [(.int .i64 x96)] (.agg #[(.bool x101.1), (.slice x101.2.1.1 x101.2.1.2.1 x101.2.1.2.2), (.slice x101.2.2.1.1 x101.2.2.1.2.1 x101.2.2.1.2.2)]) w103 ∧ True) fun w102 =>
 call Try.prog 57 [(.agg #[(.bool x93.1), (.slice x93.2.1.1 x93.2.1.2.1 x93.2.1.2.2), (.slice x93.2.2.1.1 x93.2.2.1.2.1 x93.2.2.1.2.2)]), (.agg #[(.bool x101.1), (.slice x101.2.1.1 x101.2.1.2.1 x101.2.1.2.2), (.slice x101.2.2.1.1 x101.2.2.1.2.1 x101.2.2.1.2.2)])] (.one (.one (.int .i64))) w102 fun (x104 : Int) (w105 : World) =>
 br (x104 != 0) (R (.bool false) w105)
 (z (IntKind.wrap .i64 (s46.1 + 1)) fun (z106 : Int) =>
 again45 (z106, ()) w105)))
 (R (.bool true) w47))))
def H32 : Hints := ⟨[(2, 0, [(25, (.one (.int .i64)))]), (2, 2, [(54, (.one (.int .i64)))]), (2, 4, [(62, (.one (.int .i64)))]), (1, 5, [])], [(6, 16), (17, 9), (19, 7)], [], []⟩
set_option maxRecDepth 100000 in
theorem S32_eq (s_0a : Option Addr) (s_0n : Nat) (s_0c : Nat) (s_1a : Option Addr) (s_1n : Nat) (s_1c : Nat) (s_2a : Option Addr) (s_2n : Nat) (s_2c : Nat) (x_a : Option Addr) (x_n : Nat) (x_c : Nat) (w0 : World) (R : Value → World → Prop) : vcFn Try.prog H32 Try.f32 [(.agg #[(.slice s_0a s_0n s_0c), (.slice s_1a s_1n s_1c), (.slice s_2a s_2n s_2c)]), (.slice x_a x_n x_c)] w0 R = S32 s_0a s_0n s_0c s_1a s_1n s_1c s_2a s_2n s_2c x_a x_n x_c w0 R := by kernel_rfl
set_option maxRecDepth 100000 in
theorem S32_calls (s_0a : Option Addr) (s_0n : Nat) (s_0c : Nat) (s_1a : Option Addr) (s_1n : Nat) (s_1c : Nat) (s_2a : Option Addr) (s_2n : Nat) (s_2c : Nat) (x_a : Option Addr) (x_n : Nat) (x_c : Nat) (w0 : World) (R : Value → World → Prop) (h : S32 s_0a s_0n s_0c s_1a s_1n s_1c s_2a s_2n s_2c x_a x_n x_c w0 R) : Calls Try.prog 32 #[(.agg #[(.slice s_0a s_0n s_0c), (.slice s_1a s_1n s_1c), (.slice s_2a s_2n s_2c)]), (.slice x_a x_n x_c)] w0 (ret R) := by
  rw [← S32_eq] at h; exact vcFn_sound follows_ Try.func32 h

/-- querylab/querylablaw11.LinearChecks -/
def S7 (s_0a : Option Addr) (s_0n : Nat) (s_0c : Nat) (s_1a : Option Addr) (s_1n : Nat) (s_1c : Nat) (s_2a : Option Addr) (s_2n : Nat) (s_2c : Nat) (x_a : Option Addr) (x_n : Nat) (x_c : Nat) (w0 : World) (R : Value → World → Prop) : Prop :=
 wr Try.prog (Instr.box 43 (.agg #[(.slice s_0a s_0n s_0c), (.slice s_1a s_1n s_1c), (.slice s_2a s_2n s_2c)])) (.one .addr) w0 fun (x1 : Addr) (w2 : World) =>
 rd Try.prog (Instr.loadAt 43 (.pointer (some x1))) (.agg [.slice, .slice, .slice]) w2 fun (x3 : ((Option Addr × Nat × Nat) × (Option Addr × Nat × Nat) × (Option Addr × Nat × Nat) × Unit)) =>
 call Try.prog 29 [(.agg #[(.slice x3.1.1 x3.1.2.1 x3.1.2.2), (.slice x3.2.1.1 x3.2.1.2.1 x3.2.1.2.2), (.slice x3.2.2.1.1 x3.2.2.1.2.1 x3.2.2.1.2.2)])] (.one (.one .bool)) w2 fun (x4 : Bool) (w5 : World) =>
 br (!x4) (R (.bool true) w5)
 (br (decide (((x_n : Nat) : Int) > 12)) (R (.bool true) w5)
 (drw w5 fun w6 => flEx fun F7 =>
 rd Try.prog (Instr.loadAt 43 (.pointer (some x1))) (.agg [.slice, .slice, .slice]) w6 fun (x8 : ((Option Addr × Nat × Nat) × (Option Addr × Nat × Nat) × (Option Addr × Nat × Nat) × Unit)) =>
 flc bel w6 (fun _w10 => True) (fun (w9 : World) =>
   call Try.prog 30 [(.agg #[(.slice x8.1.1 x8.1.2.1 x8.1.2.2), (.slice x8.2.1.1 x8.2.1.2.1 x8.2.1.2.2), (.slice x8.2.2.1.1 x8.2.2.1.2.1 x8.2.2.1.2.2)])] (.one (.one (.int .i64))) w9 fun (x11 : Int) (w12 : World) =>
 (bel w9 w12 ∧ F7 1 [(.agg #[(.slice x8.1.1 x8.1.2.1 x8.1.2.2), (.slice x8.2.1.1 x8.2.1.2.1 x8.2.1.2.2), (.slice x8.2.2.1.1 x8.2.2.1.2.1 x8.2.2.1.2.2)])] (.int .i64 x11) w12))
  fun (x13 : Int) =>
 rd Try.prog (Instr.loadAt 43 (.pointer (some x1))) (.agg [.slice, .slice, .slice]) w6 fun (x14 : ((Option Addr × Nat × Nat) × (Option Addr × Nat × Nat) × (Option Addr × Nat × Nat) × Unit)) =>
 flc bel w6 (fun w16 => F7 1 [(.agg #[(.slice x8.1.1 x8.1.2.1 x8.1.2.2), (.slice x8.2.1.1 x8.2.1.2.1 x8.2.1.2.2), (.slice x8.2.2.1.1 x8.2.2.1.2.1 x8.2.2.1.2.2)])] (.int .i64 x13) w16 ∧ True) (fun (w15 : World) =>
   call Try.prog 31 [(.agg #[(.slice x14.1.1 x14.1.2.1 x14.1.2.2), (.slice x14.2.1.1 x14.2.1.2.1 x14.2.1.2.2), (.slice x14.2.2.1.1 x14.2.2.1.2.1 x14.2.2.1.2.2)])] (.one (.one (.int .i64))) w15 fun (x17 : Int) (w18 : World) =>
 (bel w15 w18 ∧ F7 3 [(.agg #[(.slice x14.1.1 x14.1.2.1 x14.1.2.2), (.slice x14.2.1.1 x14.2.1.2.1 x14.2.1.2.2), (.slice x14.2.2.1.1 x14.2.2.1.2.1 x14.2.2.1.2.2)])] (.int .i64 x17) w18))
  fun (x19 : Int) =>
 br (x13 == x19) (rd Try.prog (Instr.loadAt 43 (.pointer (some x1))) (.agg [.slice, .slice, .slice]) w6 fun (x20 : ((Option Addr × Nat × Nat) × (Option Addr × Nat × Nat) × (Option Addr × Nat × Nat) × Unit)) =>
 flc bel w6 (fun w22 => F7 3 [(.agg #[(.slice x14.1.1 x14.1.2.1 x14.1.2.2), (.slice x14.2.1.1 x14.2.1.2.1 x14.2.1.2.2), (.slice x14.2.2.1.1 x14.2.2.1.2.1 x14.2.2.1.2.2)])] (.int .i64 x19) w22 ∧ F7 1 [(.agg #[(.slice x8.1.1 x8.1.2.1 x8.1.2.2), (.slice x8.2.1.1 x8.2.1.2.1 x8.2.1.2.2), (.slice x8.2.2.1.1 x8.2.2.1.2.1 x8.2.2.1.2.2)])] (.int .i64 x13) w22 ∧ True) (fun (w21 : World) =>
   call Try.prog 32 [(.agg #[(.slice x20.1.1 x20.1.2.1 x20.1.2.2), (.slice x20.2.1.1 x20.2.1.2.1 x20.2.1.2.2), (.slice x20.2.2.1.1 x20.2.2.1.2.1 x20.2.2.1.2.2)]), (.slice x_a x_n x_c)] (.one (.one .bool)) w21 fun (x23 : Bool) (w24 : World) =>
 (bel w21 w24 ∧ F7 8 [(.agg #[(.slice x20.1.1 x20.1.2.1 x20.1.2.2), (.slice x20.2.1.1 x20.2.1.2.1 x20.2.1.2.2), (.slice x20.2.2.1.1 x20.2.2.1.2.1 x20.2.2.1.2.2)]), (.slice x_a x_n x_c)] (.bool x23) w24))
  fun (x25 : Bool) =>
 rd Try.prog (Instr.loadAt 43 (.pointer (some x1))) (.agg [.slice, .slice, .slice]) w6 fun (x26 : ((Option Addr × Nat × Nat) × (Option Addr × Nat × Nat) × (Option Addr × Nat × Nat) × Unit)) =>
 flend bel w6 (fun w28 => F7 8 [(.agg #[(.slice x20.1.1 x20.1.2.1 x20.1.2.2), (.slice x20.2.1.1 x20.2.1.2.1 x20.2.1.2.2), (.slice x20.2.2.1.1 x20.2.2.1.2.1 x20.2.2.1.2.2)]), (.slice x_a x_n x_c)] (.bool x25) w28 ∧ F7 3 [(.agg #[(.slice x14.1.1 x14.1.2.1 x14.1.2.2), (.slice x14.2.1.1 x14.2.1.2.1 x14.2.1.2.2), (.slice x14.2.2.1.1 x14.2.2.1.2.1 x14.2.2.1.2.2)])] (.int .i64 x19) w28 ∧ F7 1 [(.agg #[(.slice x8.1.1 x8.1.2.1 x8.1.2.2), (.slice x8.2.1.1 x8.2.1.2.1 x8.2.1.2.2), (.slice x8.2.2.1.1 x8.2.2.1.2.1 x8.2.2.1.2.2)])] (.int .i64 x13) w28 ∧ True) fun w27 =>
 call Try.prog 33 [(.agg #[(.slice x26.1.1 x26.1.2.1 x26.1.2.2), (.slice x26.2.1.1 x26.2.1.2.1 x26.2.1.2.2), (.slice x26.2.2.1.1 x26.2.2.1.2.1 x26.2.2.1.2.2)]), (.slice x_a x_n x_c)] (.one (.one .bool)) w27 fun (x29 : Bool) (w30 : World) =>
 br (x25 == x29) (call Try.prog 32 [(.agg #[(.slice none 0 0), (.slice none 0 0), (.slice none 0 0)]), (.slice none 0 0)] (.one (.one .bool)) w30 fun (x31 : Bool) (w32 : World) =>
 R (.bool x31) w32)
 (R (.bool false) w30))
 (flend bel w6 (fun w34 => F7 3 [(.agg #[(.slice x14.1.1 x14.1.2.1 x14.1.2.2), (.slice x14.2.1.1 x14.2.1.2.1 x14.2.1.2.2), (.slice x14.2.2.1.1 x14.2.2.1.2.1 x14.2.2.1.2.2)])] (.int .i64 x19) w34 ∧ F7 1 [(.agg #[(.slice x8.1.1 x8.1.2.1 x8.1.2.2), (.slice x8.2.1.1 x8.2.1.2.1 x8.2.1.2.2), (.slice x8.2.2.1.1 x8.2.2.1.2.1 x8.2.2.1.2.2)])] (.int .i64 x13) w34 ∧ True) fun w33 =>
 R (.bool false) w33)))
def H7 : Hints := ⟨[], [(3, 11)], [], []⟩
set_option maxRecDepth 100000 in
theorem S7_eq (s_0a : Option Addr) (s_0n : Nat) (s_0c : Nat) (s_1a : Option Addr) (s_1n : Nat) (s_1c : Nat) (s_2a : Option Addr) (s_2n : Nat) (s_2c : Nat) (x_a : Option Addr) (x_n : Nat) (x_c : Nat) (w0 : World) (R : Value → World → Prop) : vcFn Try.prog H7 Try.f7 [(.agg #[(.slice s_0a s_0n s_0c), (.slice s_1a s_1n s_1c), (.slice s_2a s_2n s_2c)]), (.slice x_a x_n x_c)] w0 R = S7 s_0a s_0n s_0c s_1a s_1n s_1c s_2a s_2n s_2c x_a x_n x_c w0 R := by kernel_rfl
set_option maxRecDepth 100000 in
theorem S7_calls (s_0a : Option Addr) (s_0n : Nat) (s_0c : Nat) (s_1a : Option Addr) (s_1n : Nat) (s_1c : Nat) (s_2a : Option Addr) (s_2n : Nat) (s_2c : Nat) (x_a : Option Addr) (x_n : Nat) (x_c : Nat) (w0 : World) (R : Value → World → Prop) (h : S7 s_0a s_0n s_0c s_1a s_1n s_1c s_2a s_2n s_2c x_a x_n x_c w0 R) : Calls Try.prog 7 #[(.agg #[(.slice s_0a s_0n s_0c), (.slice s_1a s_1n s_1c), (.slice s_2a s_2n s_2c)]), (.slice x_a x_n x_c)] w0 (ret R) := by
  rw [← S7_eq] at h; exact vcFn_sound follows_ Try.func7 h

end Go.Proofs
