import Derived.KernelRfl
import Derived.Test.YtajpdnphamomjaaGreatXP
import Derived.Tactics2
import Derived.Recover
import Derived.Laws.Pointers
import Derived.Test.YtajpdnphamomjaaGreatPackIntegralDecides3

/- Bounds that contradict a combination: the program. -/

namespace Go.Proofs.YtajpdnphamomjaaGreat
open Go.RowKit Go.Q Go.Q.Num Go.V

def pickB (q : Rat) (lo hi : List Int) (k : Nat) : Int :=
  match lo[k]?, hi[k]? with
  | some a, some b => if q < 0 then b else a
  | _, _ => 0
def lowN (T : List (List Int)) (M : List (Int × Int)) (lo hi : List Int) : Nat → Rat
  | 0 => 0
  | k + 1 => lowN T M lo hi k + colQ T M k * ((pickB (colQ T M k) lo hi k : Int) : Rat)
abbrev Win (x : Int) : Prop := -1000000000 ≤ x ∧ x ≤ 1000000000
structure BndP (up : List Int) (T : List (List Int)) (rt : List Int) (lo hi : List Int) (M : List (Int × Int)) : Prop where
  ok : combE up T rt M = 0
  llo : lo.length = up.length
  lhi : hi.length = up.length
  wlo : ∀ x ∈ lo, Win x
  whi : ∀ x ∈ hi, Win x
  out : (∃ (k : Nat) (a b : Int), lo[k]? = some a ∧ hi[k]? = some b ∧ b < a) ∨ rhsQ T rt M < lowN T M lo hi up.length ∨ lowN T M hi lo up.length < rhsQ T rt M
theorem pick_at {q : Rat} {lo hi : List Int} {k : Nat} {a b : Int} (h1 : lo[k]? = some a) (h2 : hi[k]? = some b) : pickB q lo hi k = if q < 0 then b else a := by unfold pickB; rw [h1, h2]
theorem outB_iff {x : Int} : outB (-1000000000) 1000000000 x = false ↔ Win x := by unfold outB; simp
theorem fromQ {q : Rat} (w : World) (h : Fits q) : call Tryz.prog 84 [.agg #[.int .i64 q.num, .int .i64 ((q.den : Nat) : Int)]] (.one sBig) w (fun (x : TE) w' => EX 2 w' x q ∧ bel w w') := by
  have := fromX (n := q.num) (d := ((q.den : Nat) : Int)) w (frac_fits h)
  rw [ratv_fits] at this
  exact this
theorem var2_mk {P : Program} {e : TypeId} {z v v' : Value} {w : World} {k : Addr → Addr → World → Prop} (hz : zeroOf P e = some z) (hs : sizeIs P e v.cells.size = true) (hs' : sizeIs P e v'.cells.size = true) (hl : v.cells.size = z.cells.size) (hl' : v'.cells.size = z.cells.size) (hp : plainV v.cells.toList = true) (hp' : plainV v'.cells.toList = true)
    (hk : ∀ a b w', Box w' a v.cells.toList → Box w' b v'.cells.toList → bel w w' → w.heap.size ≤ a.block → w.heap.size ≤ b.block → a.block ≠ b.block → k a b w') :
    wr P (Instr.alloc e true (.tuple #[])) (.one .addr) w fun x w1 => wr P (Instr.alloc e true (.tuple #[])) (.one .addr) w1 fun y w2 => wu P (Instr.storeAt e (.pointer (some x)) v) w2 fun w3 => wu P (Instr.storeAt e (.pointer (some y)) v') w3 fun w4 => k x y w4 := by
  have put : ∀ (vs cs : List Value), cs.length = vs.length → putAt cs 0 vs = vs := by
    have key : ∀ (vs pre cs : List Value), cs.length = vs.length → putAt (pre ++ cs) pre.length vs = pre ++ vs := by
      intro vs
      induction vs with
      | nil => intro pre cs h; rw [List.eq_nil_of_length_eq_zero h]; rfl
      | cons x vs ih =>
        intro pre cs h
        cases cs with
        | nil => simp at h
        | cons c cs =>
          simp only [putAt]
          have h1 : (pre ++ c :: cs).set pre.length x = (pre ++ [x]) ++ cs := by simp
          rw [h1]
          have := ih (pre ++ [x]) cs (by simpa using h)
          simp only [List.length_append, List.length_cons, List.length_nil, Nat.zero_add] at this
          rw [this]; simp
    intro vs cs h
    simpa using key vs [] cs h
  refine wr_alloc hz fun a w1 A h ha _ => ?_
  refine wr_alloc hz fun b w2 B h2 hb2 _ => ?_
  replace A := A.up h2
  have n1 := A.lt
  have hab : a.block < b.block := by have := A.lt; have := h.size; have := h2.size; omega
  refine wu_box A hs (by rw [hl]; simp) hp fun w3 A' hg _ => ?_
  have B' := B.grown hg (by intro e; injection e; omega)
  refine wu_box B' hs' (by rw [hl']; simp) hp' fun w4 B2 hg2 _ => ?_
  have A2 := A'.grown hg2 (by intro e; injection e; omega)
  rw [put _ _ (by simp [hl])] at A2
  rw [put _ _ (by simp [hl'])] at B2
  exact hk _ _ _ A2 B2 (((h.trans h2).grownAt hg (by omega)).grownAt hg2 (by have := h.size; omega)) (by omega) (by have := h.size; omega) (by omega)

theorem bnd11F (n : Int) (w : World) : call Tryz.prog 81 [.int .i64 n] (.one (.one .bool)) w (fun x w' => x = outB (-1000000000) 1000000000 n ∧ bel w w') := by
  refine call_of (S81_calls n w _ ?_)
  unfold S81
  refine call_mono (outsideF n _ _ w) ?_
  rintro x w2 ⟨rfl, h⟩
  exact ⟨_, rfl, rfl, h⟩
theorem hasG (a : Hdr) (xs : List Int) (w : World) (H : Sl w a.1 a.2.1 a.2.2 1 (ints .i64 xs)) :
    call Tryz.prog 32 [.slice a.1 a.2.1 a.2.2, .func (.func 81) #[] #[]] (.one (.one .bool)) w (fun x w' => x = xs.any (outB (-1000000000) 1000000000) ∧ bel w w') := by
  refine call_of (S32b_calls a.1 a.2.1 a.2.2 w _ ?_)
  unfold S32b
  refine call_mono (r := .one (.one (.int .i64))) (Q := fun x w' => x = idxI (outB (-1000000000) 1000000000) xs ∧ bel w w') (call_of (S58b_calls a.1 a.2.1 a.2.2 w _ ?_)) ?_
  · unfold S58b
    exact idx_ints tyI64 (by kernel_rfl) (fargs := fun x5 => [.int .i64 x5]) H (outB (-1000000000) 1000000000) (fun j x hx w' hb => bnd11F x w')
  · rintro x w2 ⟨rfl, hb⟩
    exact ⟨_, rfl, idxI_any _ _, hb⟩
theorem bnd1F (a u : Hdr) (xs up : List Int) (v1 v2 : Value) (c0 : Addr) (w : World) (H : Sl w a.1 a.2.1 a.2.2 1 (ints .i64 xs)) (X : Box w c0 [.slice u.1 u.2.1 u.2.2, v1, v2]) (hu : up.length = u.2.1) :
    call Tryz.prog 80 [.slice a.1 a.2.1 a.2.2, .pointer (some c0)] (.one (.one .bool)) w (fun x w' => (x = false ↔ xs.length = up.length ∧ ∀ x ∈ xs, Win x) ∧ bel w w') := by
  refine call_of (S80_calls a.1 a.2.1 a.2.2 c0 w _ ?_)
  unfold S80
  have hl := H.int
  refine rd_box0 (by kernel_rfl) X rfl rfl ?_
  refine br_ne (fun e => ⟨true, rfl, ⟨fun c => (Bool.noConfusion c), fun s => ?_⟩, bel.refl _⟩) (fun e => ?_)
  · dsimp only at e; omega
  dsimp only at e
  refine call_mono (hasG a xs w H) ?_
  rintro _ w3 ⟨rfl, h⟩
  refine ⟨_, rfl, ⟨fun c => ⟨by omega, fun x hx => outB_iff.1 (any_f c x hx)⟩, fun s => ?_⟩, h⟩
  show xs.any _ = false
  rw [List.any_eq_false]
  intro x hx
  rw [outB_iff.2 (s.2 x hx)]; simp

set_option maxHeartbeats 3200000 in
theorem bndL (u r b lo hi m : Hdr) (up : List Int) (T : List (List Int)) (rt ls hs : List Int) (M : List (Int × Int)) (w : World) (H : Sys w u r b up T rt) (HM : Sl w m.1 m.2.1 m.2.2 2 (M.flatMap encF)) (hI : ∀ p ∈ M, I64 p.1 ∧ I64 p.2)
    (HLo : Sl w lo.1 lo.2.1 lo.2.2 1 (ints .i64 ls)) (HHi : Sl w hi.1 hi.2.1 hi.2.2 1 (ints .i64 hs)) :
    call Tryz.prog 56 [sysv u r b, .slice lo.1 lo.2.1 lo.2.2, .slice hi.1 hi.2.1 hi.2.2, .slice m.1 m.2.1 m.2.2] (.one (.one .bool)) w (fun x w' => (x = true ↔ BndP up T rt ls hs M) ∧ bel w w') := by
  refine call_of (S56_calls u.1 u.2.1 u.2.2 r.1 r.2.1 r.2.2 b.1 b.2.1 b.2.2 lo.1 lo.2.1 lo.2.2 hi.1 hi.2.1 hi.2.2 m.1 m.2.1 m.2.2 w _ ?_)
  unfold S56
  have hu := H.u.int
  have hlo := HLo.int
  have hhi := HHi.int
  have no : ∀ {w' : World}, bel w w' → (BndP up T rt ls hs M → False) → ∃ v : Bool, Value.bool false = (RS.one (.one .bool)).val v ∧ (v = true ↔ BndP up T rt ls hs M) ∧ bel w w' := fun hb q => ⟨false, rfl, ⟨fun e => (Bool.noConfusion e), fun s => (q s).elim⟩, hb⟩
  refine wr_box fun x1 w2 X h _ _ => ?_
  replace X : Box w2 x1 (sysc u r b) := X
  replace HLo := HLo.up h; replace HHi := HHi.up h
  refine rd_boxN X (by kernel_rfl) rfl ?_
  refine call_mono (combL u r b m up T rt M w2 (H.up h) (HM.up h) hI) ?_
  rintro (x4 : CT) w5 ⟨⟨q1, q2, _⟩, h'⟩
  replace h := h.trans h'; replace X := X.up h'; replace HLo := HLo.up h'; replace HHi := HHi.up h'; clear h'
  refine boxF fun x6 w8 h2' Y _ => ?_
  refine br_ne (fun e => no (h.trans h2') fun s => e (q1.trans s.ok)) (fun e => ?_)
  have hok : combE up T rt M = 0 := q1.symm.trans e
  obtain ⟨g1, g2⟩ := q2 hok
  obtain ⟨ce1, _, _, hfit, hfr⟩ := combE_ok hok
  have v1 := (sysE_ok ce1).1
  have hln := fr_len g1
  rw [cols_len] at hln
  have kl := g1.le
  replace g1 := g1.up h2'
  replace h := h.trans h2'; replace X := X.up h2'; replace HLo := HLo.up h2'; replace HHi := HHi.up h2'; clear h2'
  rw [g2] at Y
  refine call_mono (bnd1F lo u ls up _ _ x1 w8 HLo X hu) ?_
  rintro x9 w10 ⟨b1, h'⟩
  replace h := h.trans h'; replace X := X.up h'; replace HLo := HLo.up h'; replace HHi := HHi.up h'; replace Y := Y.up h'; replace g1 := g1.up h'; clear h'
  refine br_mk (fun e1 => no h fun s => ?_) (fun e1 => ?_)
  · rw [b1.2 ⟨s.llo, s.wlo⟩] at e1; cases e1
  obtain ⟨l1, l2⟩ := b1.1 e1
  refine call_mono (bnd1F hi u hs up _ _ x1 w10 HHi X hu) ?_
  rintro x11 w12 ⟨b2, h'⟩
  replace h := h.trans h'; replace X := X.up h'; replace HLo := HLo.up h'; replace HHi := HHi.up h'; replace Y := Y.up h'; replace g1 := g1.up h'; clear h'
  refine br_mk (fun e2 => no h fun s => ?_) (fun e2 => ?_)
  · rw [b2.2 ⟨s.lhi, s.whi⟩] at e2; cases e2
  obtain ⟨l3, l4⟩ := b2.1 e2
  have bnd : ∀ {x : Bool}, ((∃ (k : Nat) (a b : Int), ls[k]? = some a ∧ hs[k]? = some b ∧ b < a) ∨ rhsQ T rt M < lowN T M ls hs up.length ∨ lowN T M hs ls up.length < rhsQ T rt M ↔ x = true) → (x = true ↔ BndP up T rt ls hs M) := fun q => ⟨fun e => ⟨hok, l1, l3, l2, l4, q.2 e⟩, fun s => q.1 s.out⟩
  refine call_mono (wholeF 0 w12 ⟨by omega, by omega⟩) ?_
  rintro (t0 : TE) w14 ⟨hA0, _, _, h'⟩
  replace h := h.trans h'; replace X := X.up h'; replace HLo := HLo.up h'; replace HHi := HHi.up h'; replace Y := Y.up h'; replace g1 := g1.up h'; clear h'
  refine call_mono (wholeF 0 w14 ⟨by omega, by omega⟩) ?_
  rintro (t1 : TE) w16 ⟨hB0, _, _, h'⟩
  replace hA0 := hA0.up h'
  replace h := h.trans h'; replace X := X.up h'; replace HLo := HLo.up h'; replace HHi := HHi.up h'; replace Y := Y.up h'; replace g1 := g1.up h'; clear h'
  refine var2_mk (z := .agg #[.bool false, .slice none 0 0, .slice none 0 0]) (by kernel_rfl) (by kernel_rfl) (by kernel_rfl) rfl rfl rfl rfl fun x17 x19 w22 V1 V2 h' n17 n19 n1719 => ?_
  replace V1 : Box w22 x17 (boxc t0) := V1
  replace V2 : Box w22 x19 (boxc t1) := V2
  refine loop_up x4.1.2.1 (fun i w' => bel w16 w' ∧ (∀ j, j < i → ∀ a b, ls[j]? = some a → hs[j]? = some b → ¬ b < a) ∧ ∃ t s : TE, Box w' x17 (boxc t) ∧ Box w' x19 (boxc s) ∧ EX (2 + 5 * i) w' t (lowN T M ls hs i) ∧ EX (2 + 5 * i) w' s (lowN T M hs ls i) ∧ ApT x17 t (lowN T M ls hs i) ∧ ApT x19 t (lowN T M ls hs i) ∧ ApT x17 s (lowN T M hs ls i) ∧ ApT x19 s (lowN T M hs ls i))
    ⟨h', fun j q => by omega, t0, t1, V1, V2, hA0.up h', hB0.up h', ApT.oldE hA0 n17, ApT.oldE hA0 n19, ApT.oldE hB0 n17, ApT.oldE hB0 n19⟩ fun i w25 hi' ⟨hw, hq, t, s, V1, V2, E1, E2, A11, A12, A21, A22⟩ again hag _ => ?_
  refine br_dec (fun e3 => ?_) (fun e3 => ?_)
  · dsimp only at e3
    obtain ⟨la, hla⟩ : ∃ la, ls[i]? = some la := ⟨_, List.getElem?_eq_getElem (by omega)⟩
    obtain ⟨ha, hha⟩ : ∃ ha, hs[i]? = some ha := ⟨_, List.getElem?_eq_getElem (by omega)⟩
    have hp : (cols up T M up.length)[i]? = some (fpair (colQ T M i)) := cols_get (by omega)
    have hft := hfit i (by omega)
    have wla := l2 la (mem_at hla)
    have wha := l4 ha (mem_at hha)
    have l17 := V1.lt
    have l19 := V2.lt
    obtain ⟨q, hq0⟩ : ∃ q, q = colQ T M i := ⟨_, rfl⟩
    rw [← hq0] at hp hft
    refine join_mk (fun _ w' => bel w16 w' ∧ ¬ ha < la ∧ ∃ t s : TE, Box w' x17 (boxc t) ∧ Box w' x19 (boxc s) ∧ EX (2 + 5 * (i + 1)) w' t (lowN T M ls hs (i + 1)) ∧ EX (2 + 5 * (i + 1)) w' s (lowN T M hs ls (i + 1)) ∧ ApT x17 t (lowN T M ls hs (i + 1)) ∧ ApT x19 t (lowN T M ls hs (i + 1)) ∧ ApT x17 s (lowN T M hs ls (i + 1)) ∧ ApT x19 s (lowN T M hs ls (i + 1))) (fun K hK => ?_) (fun _ w' ⟨hh1, hh2, hh3⟩ _ => z_i64 (by dsimp only; omega) (hag _ (by omega) ⟨hh1, fun j hj a b c1 c2 => ?_, hh3⟩))
    · -- one round
      refine at_frac (g1.up hw) rfl hp ?_
      refine boxF fun x32 w34 h' Z n32 => ?_
      have hw1 := hw.trans h'
      refine drw_mk fun w35 h2' _ => ?_
      have hw2 := hw1.trans h2'
      have hz := h'.trans h2'
      replace Z := Z.up h2'
      refine at_int tyI64 (by kernel_rfl) (HLo.up hw2) rfl (by omega) fun a ha' => ?_
      rw [hla] at ha'; cases ha'
      refine at_int tyI64 (by kernel_rfl) (HHi.up hw2) rfl (by omega) fun a ha' => ?_
      rw [hha] at ha'; cases ha'
      refine br_dec (fun e4 => ⟨true, rfl, bnd ⟨fun _ => rfl, fun _ => .inl ⟨i, la, ha, hla, hha, e4⟩⟩, h.trans hw2⟩) (fun e4 => ?_)
      refine rd_box0 (by kernel_rfl) Z rfl rfl ?_
      have st1 : lowN T M ls hs (i + 1) = lowN T M ls hs i + q * ((if q < 0 then ha else la : Int) : Rat) := by
        show lowN T M ls hs i + colQ T M i * ((pickB (colQ T M i) ls hs i : Int) : Rat) = _
        rw [pick_at hla hha, hq0]
      have st2 : lowN T M hs ls (i + 1) = lowN T M hs ls i + q * ((if q < 0 then la else ha : Int) : Rat) := by
        show lowN T M hs ls i + colQ T M i * ((pickB (colQ T M i) hs ls i : Int) : Rat) = _
        rw [pick_at hha hla, hq0]
      refine br_eq (fun e5 => ?_) (fun e5 => ?_)
      · have q0 : q = 0 := Rat.num_eq_zero.1 e5
        rw [q0, Rat.zero_mul, Rat.add_zero] at st1 st2
        exact hK _ _ ⟨hw2, e4, t, s, V1.up hz, V2.up hz, by rw [st1]; exact (E1.up hz).le (by omega), by rw [st2]; exact (E2.up hz).le (by omega), by rw [st1]; exact A11, by rw [st1]; exact A12, by rw [st2]; exact A21, by rw [st2]; exact A22⟩
      refine join_mk (fun s' w' => s'.1 = (if q < 0 then ha else la) ∧ s'.2.1 = (if q < 0 then la else ha) ∧ w35 = w') (fun K' hK' => ?_) (fun s' w43 hs' _ => ?_)
      · refine rd_box0 (by kernel_rfl) Z rfl rfl ?_
        refine br_dec (fun e6 => hK' _ _ ⟨?_, ?_, rfl⟩) (fun e6 => hK' _ _ ⟨?_, ?_, rfl⟩)
        · dsimp only; rw [if_pos (num_neg.1 e6)]
        · dsimp only; rw [if_pos (num_neg.1 e6)]
        · dsimp only; rw [if_neg fun c => e6 (num_neg.2 c)]
        · dsimp only; rw [if_neg fun c => e6 (num_neg.2 c)]
      obtain ⟨y1, y2, _⟩ := s'
      obtain ⟨hy1, hy2, rfl⟩ := hs'
      dsimp only at hy1 hy2
      rw [← hy1] at st1
      rw [← hy2] at st2
      have wy1 : Win y1 := by rw [hy1]; split <;> assumption
      have wy2 : Win y2 := by rw [hy2]; split <;> assumption
      clear hy1 hy2
      replace V1 := V1.up hz; replace V2 := V2.up hz; replace E1 := E1.up hz; replace E2 := E2.up hz
      -- one of the two sums
      have one : ∀ (x : Addr) (y : Int) (v : TE) (rr : Rat) (L : Nat) (w44 : World) (Kn : World → Prop), Win y → w16.heap.size ≤ x.block → bel w16 w44 → Box w44 x (boxc v) → Box w44 x32 (encF (fpair q)) → EX L w44 v rr → L ≤ 2000 →
          (∀ (v' : TE) w67, bel w16 w67 → w44.grownBy w67 (some x.block) → Box w67 x (boxc v') → EX (L + 5) w67 v' (rr + q * (y : Rat)) → FrT w44 v' → Kn w67) →
          drw w44 fun w44 => flEx fun F45 =>
            rd Tryz.prog (Instr.loadAt 118 (.pointer (some x))) (.agg [.bool, .slice, .slice]) w44 fun (x46 : TE) =>
            rd Tryz.prog (Instr.loadAt 60 (.pointer (some x32))) (.agg [.int .i64, .int .i64]) w44 fun x47 =>
            flc bel w44 (fun _ => True) (fun (w48 : World) => call Tryz.prog 84 [(.agg #[(.int .i64 x47.1), (.int .i64 x47.2.1)])] (.one (.agg [.bool, .slice, .slice])) w48 fun (x50 : TE) (w51 : World) => (bel w48 w51 ∧ F45 2 [(.agg #[(.int .i64 x47.1), (.int .i64 x47.2.1)])] (exV x50) w51)) fun (x52 : TE) =>
            flc bel w44 (fun w54 => F45 2 [(.agg #[(.int .i64 x47.1), (.int .i64 x47.2.1)])] (exV x52) w54 ∧ True) (fun (w53 : World) => call Tryz.prog 82 [(.int .i64 y)] (.one (.agg [.bool, .slice, .slice])) w53 fun (x55 : TE) (w56 : World) => (bel w53 w56 ∧ F45 4 [(.int .i64 y)] (exV x55) w56)) fun (x57 : TE) =>
            flc bel w44 (fun w59 => F45 4 [(.int .i64 y)] (exV x57) w59 ∧ F45 2 [(.agg #[(.int .i64 x47.1), (.int .i64 x47.2.1)])] (exV x52) w59 ∧ True) (fun (w58 : World) => call Tryz.prog 85 [exV x52, exV x57] (.one (.agg [.bool, .slice, .slice])) w58 fun (x60 : TE) (w61 : World) => (bel w58 w61 ∧ F45 5 [exV x52, exV x57] (exV x60) w61)) fun (x62 : TE) =>
            flend bel w44 (fun w64 => F45 5 [exV x52, exV x57] (exV x62) w64 ∧ F45 4 [(.int .i64 y)] (exV x57) w64 ∧ F45 2 [(.agg #[(.int .i64 x47.1), (.int .i64 x47.2.1)])] (exV x52) w64 ∧ True) fun w63 =>
            call Tryz.prog 83 [exV x46, exV x62] (.one (.agg [.bool, .slice, .slice])) w63 fun (x65 : TE) (w66 : World) =>
            wu Tryz.prog (Instr.storeAt 118 (.pointer (some x)) (exV x65)) w66 fun (w67 : World) => Kn w67 := by
        intro x y v rr L w44 Kn wy hx hb0 V Z E hL hKn
        refine drw_mk fun w45 h3' _ => ?_
        replace V := V.up h3'; replace Z := Z.up h3'; replace E := E.up h3'
        refine flEx_mk (fun i _ v w' => (i = 2 → ∃ t : TE, v = exV t ∧ EX 2 w' t q) ∧ (i = 4 → ∃ t : TE, v = exV t ∧ EX 2 w' t (y : Rat)) ∧ (i = 5 → ∃ t : TE, v = exV t ∧ EX 4 w' t (q * (y : Rat))))
          (fun _ _ _ _ _ h hb => ⟨fun e => by obtain ⟨t, q1, q2⟩ := h.1 e; exact ⟨t, q1, q2.up hb⟩, fun e => by obtain ⟨t, q1, q2⟩ := h.2.1 e; exact ⟨t, q1, q2.up hb⟩, fun e => by obtain ⟨t, q1, q2⟩ := h.2.2 e; exact ⟨t, q1, q2.up hb⟩⟩) ?_
        refine rd_boxN V (by kernel_rfl) rfl ?_
        refine rd_boxN Z (by kernel_rfl) rfl ?_
        refine flc_mk (fun w70 hb _ => call_mono (fromQ w70 hft) fun y w' ⟨hy, hb'⟩ => ⟨hb', fun _ => ⟨y, rfl, hy⟩, fun e => by omega, fun e => by omega⟩) (fun (x52 : TE) => ?_)
        refine flc_mk (fun w80 hb _ => call_mono (wholeF y w80 ⟨by omega, by omega⟩) fun y w' ⟨hy, _, _, hb'⟩ => ⟨hb', fun e => by omega, fun _ => ⟨y, rfl, hy⟩, fun e => by omega⟩) (fun (x57 : TE) => ?_)
        refine flc_mk (fun w85 hb hf => ?_) (fun (x62 : TE) => ?_)
        · obtain ⟨⟨_, g2, _⟩, ⟨g1, _⟩, _⟩ := hf
          obtain ⟨t1, e1, B1⟩ := g1 rfl
          obtain ⟨t2, e2, B2⟩ := g2 rfl
          have e1' := exV_inj (t := x52) e1
          have e2' := exV_inj (t := x57) e2
          subst e1' e2'
          exact call_mono (mulE x52 x57 _ _ 2 2 w85 B1 B2 (by omega) (by omega)) fun y w' ⟨hy, _, _, hb'⟩ => ⟨hb', fun e => by omega, fun e => by omega, fun _ => ⟨y, rfl, hy⟩⟩
        · refine flend_mk fun w90 hb hf => ?_
          obtain ⟨⟨_, _, g⟩, _⟩ := hf
          obtain ⟨t1, e1, B1⟩ := g rfl
          have e1' := exV_inj (t := x62) e1
          subst e1'
          refine call_mono (addE v x62 _ _ L 4 w90 (E.up hb) B1 (by omega) (by omega)) ?_
          rintro (y' : TE) w93 ⟨hy, f1, f2, h4'⟩
          have A' : ApT x y' (rr + q * (y : Rat)) := ApT.fr (V.up hb) f1 f2
          refine wu_box ((V.up hb).up h4') (by kernel_rfl) (Nat.le_refl 3) rfl fun w94 V' hg _ => ?_
          have hbb := ((h3'.trans hb).trans h4')
          exact hKn y' w94 ((hb0.trans hbb).grownAt hg hx) ((grown_of_bel hbb _).trans hg) V' ((hy.grownA A' hg).le (by omega)) (FrT.mono ⟨f1, f2⟩ (h3'.trans hb).size)
      refine one x17 y1 t _ (2 + 5 * i) w35 _ wy1 n17 hw2 V1 Z E1 (by omega) fun t' w67 hw3 hg3 V1' E1' F1 => ?_
      have ne : some x17.block ≠ some x19.block := by intro e; injection e; omega
      have V2' := V2.grown hg3 (fun e => ne e.symm)
      have Z' := Z.grown hg3 (by intro e; injection e; omega)
      have E2' := E2.grownA A21 hg3
      have F1x17 : ApT x19 t' (lowN T M ls hs i + q * (y1 : Rat)) := ApT.fr V2 F1.1 F1.2
      have F1x17' : ApT x17 t' (lowN T M ls hs i + q * (y1 : Rat)) := ApT.fr V1 F1.1 F1.2
      refine one x19 y2 s _ (2 + 5 * i) w67 _ wy2 n19 hw3 V2' Z' E2' (by omega) fun s' w91 hw4 hg4 V2'' E2'' F2 => ?_
      refine hK _ _ ⟨hw4, e4, t', s', V1'.grown hg4 ne, V2'', ?_, ?_, ?_, ?_, ?_, ?_⟩
      · rw [st1]; exact (E1'.grownA F1x17 hg4).le (by omega)
      · rw [st2]; exact E2''.le (by omega)
      · rw [st1]; exact F1x17'
      · rw [st1]; exact F1x17
      · rw [st2]; exact ApT.fr V1' F2.1 F2.2
      · rw [st2]; exact ApT.fr V2' F2.1 F2.2
    · rcases Nat.lt_or_ge j i with q | q
      · exact hq j q a b c1 c2
      · have : j = i := by omega
        subst this
        rw [hla] at c1; cases c1
        rw [hha] at c2; cases c2
        exact hh2
  · dsimp only at e3
    have hi2 : i = up.length := by omega
    subst hi2
    have nok : ¬ ∃ (k : Nat) (a b : Int), ls[k]? = some a ∧ hs[k]? = some b ∧ b < a := by
      rintro ⟨k, a, b, c1, c2, c3⟩
      exact hq k (by have := (List.getElem?_eq_some_iff.1 c1).1; omega) a b c1 c2 c3
    refine drw_mk fun w93 h' _ => ?_
    have hw1 := hw.trans h'
    replace V1 := V1.up h'; replace V2 := V2.up h'; replace E1 := E1.up h'; replace E2 := E2.up h'
    refine flEx_mk (fun i _ v w' => (i = 2 ∨ i = 8 → ∃ t : TE, v = exV t ∧ EX 2 w' t (rhsQ T rt M)) ∧ (i = 3 → v = .int .i64 (cmpq (lowN T M ls hs up.length) (rhsQ T rt M))))
      (fun _ _ _ _ _ h hb => ⟨fun e => by obtain ⟨t, q1, q2⟩ := h.1 e; exact ⟨t, q1, q2.up hb⟩, h.2⟩) ?_
    refine rd_boxN V1 (by kernel_rfl) rfl ?_
    refine rd_boxN (Y.up hw1) (by kernel_rfl) rfl ?_
    refine flc_mk (fun w70 hb _ => call_mono (fromQ w70 hfr) fun y w' ⟨hy, hb'⟩ => ⟨hb', fun _ => ⟨y, rfl, hy⟩, fun e => by omega⟩) (fun (x101 : TE) => ?_)
    refine flc_mk (fun w70 hb hf => ?_) (fun x106 => ?_)
    · obtain ⟨t1, e1, B1⟩ := hf.1.1 (.inl rfl)
      have e1' := exV_inj (t := x101) e1
      subst e1'
      exact call_mono (cmpX t x101 _ _ (2 + 5 * up.length) 2 w70 (E1.up hb) B1 (by omega) (by omega)) fun y w' ⟨hy, hb'⟩ => ⟨hb', fun e => by omega, fun _ => by rw [hy]⟩
    refine br_dec (fun e6 => flend_mk fun w107 hb hf => ?_) (fun e6 => ?_)
    · have := hf.1.2 rfl
      injection this with _ e7
      rw [e7] at e6
      exact ⟨true, rfl, bnd ⟨fun _ => rfl, fun _ => .inr (.inl (cmpq_gt0.1 e6))⟩, h.trans (hw1.trans hb)⟩
    refine rd_boxN V2 (by kernel_rfl) rfl ?_
    refine rd_boxN (Y.up hw1) (by kernel_rfl) rfl ?_
    refine flc_mk (fun w70 hb _ => call_mono (fromQ w70 hfr) fun y w' ⟨hy, hb'⟩ => ⟨hb', fun _ => ⟨y, rfl, hy⟩, fun e => by omega⟩) (fun (x115 : TE) => ?_)
    refine flend_mk fun w116 hb hf => ?_
    obtain ⟨t1, e1, B1⟩ := hf.1.1 (.inr rfl)
    have e1' := exV_inj (t := x115) e1
    subst e1'
    have := hf.2.1.2 rfl
    injection this with _ e7
    rw [e7] at e6
    refine call_mono (cmpX s x115 _ _ (2 + 5 * up.length) 2 w116 (E2.up hb) B1 (by omega) (by omega)) ?_
    rintro x118 w119 ⟨rfl, h4'⟩
    refine ⟨_, rfl, bnd ⟨fun q => ?_, fun q => .inr (.inr (cmpq_lt0.1 (of_decide_eq_true q)))⟩, h.trans ((hw1.trans hb).trans h4')⟩
    rcases q with q | q | q
    · exact absurd q nok
    · exact absurd (cmpq_gt0.2 q) e6
    · exact decide_eq_true (cmpq_lt0.2 q)
end Go.Proofs.YtajpdnphamomjaaGreat

/- Bounds that contradict a combination: the reference. -/

namespace Go.Proofs.YtajpdnphamomjaaGreat
open Go.RowKit Go.Q Go.Q.Num Go.V

theorem ap_box {B : Nat} {k : IntKind} {w : World} {s : Hd} {y : Nat} {x : Addr} {t' : TE} (hN : NumAt B k w s.1 s.2.1 s.2.2 y) (X : Box w x (boxc t')) : Apart x s y := fun ad ha hy e => by
  obtain ⟨l, hs, hd, hv⟩ := hN
  cases l with
  | nil => exact hy (by rw [← hv]; rfl)
  | cons d l =>
    obtain ⟨ad', h1, h2, _⟩ := hs.at' 0 (.int k (d : Int)) rfl
    rw [ha] at h1; cases h1
    rw [Go.Q.add_zero] at h2
    obtain ⟨T, hT⟩ := X.blk
    unfold World.cell? at h2
    rw [e, hT] at h2
    simp only at h2
    split at h2
    · cases h2
    · generalize ad.off = o at h2
      match o, h2 with
      | 0, h2 => simp at h2
      | 1, h2 => simp at h2
      | 2, h2 => simp at h2
      | o + 3, h2 => simp at h2
theorem ApT.bx {L : Nat} {w : World} {t t' : TE} {r : Rat} {x : Addr} (h : BX L w t r) (X : Box w x (boxc t')) : ApT x t r := ⟨ap_box h.2.1 X, ap_box h.2.2.1 X⟩
theorem BX.put {L : Nat} {w w' : World} {t t' : TE} {r : Rat} {x : Addr} (h : BX L w t r) (X : Box w x (boxc t')) (hg : w.grownBy w' (some x.block)) : BX L w' t r := h.grown (ApT.bx h X) hg
abbrev z0 : TE := (false, (none, 0, 0), (none, 0, 0), ())

set_option maxHeartbeats 3200000 in
theorem bnd11 (u r b lo hi m : Hdr) (up : List Int) (T : List (List Int)) (rt ls hs : List Int) (M : List (Int × Int)) (w : World) (H : Sys w u r b up T rt) (HM : Sl w m.1 m.2.1 m.2.2 2 (M.flatMap encF)) (hI : ∀ p ∈ M, I64 p.1 ∧ I64 p.2)
    (HLo : Sl w lo.1 lo.2.1 lo.2.2 1 (ints .i64 ls)) (HHi : Sl w hi.1 hi.2.1 hi.2.2 1 (ints .i64 hs)) :
    call Tryz.prog 53 [sysv u r b, .slice lo.1 lo.2.1 lo.2.2, .slice hi.1 hi.2.1 hi.2.2, .slice m.1 m.2.1 m.2.2] (.one (.one .bool)) w (fun x w' => (x = true ↔ BndP up T rt ls hs M) ∧ bel w w') := by
  refine call_of (S53_calls u.1 u.2.1 u.2.2 r.1 r.2.1 r.2.2 b.1 b.2.1 b.2.2 lo.1 lo.2.1 lo.2.2 hi.1 hi.2.1 hi.2.2 m.1 m.2.1 m.2.2 w _ ?_)
  unfold S53
  have hu := H.u.int
  have hlo := HLo.int
  have hhi := HHi.int
  have klo := HLo.le
  have no : ∀ {w' : World}, bel w w' → (BndP up T rt ls hs M → False) → ∃ v : Bool, Value.bool false = (RS.one (.one .bool)).val v ∧ (v = true ↔ BndP up T rt ls hs M) ∧ bel w w' := fun hb q => ⟨false, rfl, ⟨fun e => (Bool.noConfusion e), fun s => (q s).elim⟩, hb⟩
  refine wr_box fun x1 w2 X h _ _ => ?_
  replace X : Box w2 x1 (sysc u r b) := X
  replace H := H.up h; replace HM := HM.up h; replace HLo := HLo.up h; replace HHi := HHi.up h
  refine rd_boxN X (by kernel_rfl) rfl ?_
  refine call_mono (combR11 u r b m up T rt M w2 H HM hI) ?_
  rintro (x4 : CT) w5 ⟨⟨q1, _, _⟩, h'⟩
  replace h := h.trans h'; replace X := X.up h'; replace H := H.up h'; replace HM := HM.up h'; replace HLo := HLo.up h'; replace HHi := HHi.up h'; clear h'
  refine boxF fun x6 w8 h2' Y _ => ?_
  replace h := h.trans h2'; replace X := X.up h2'; replace H := H.up h2'; replace HM := HM.up h2'; replace HLo := HLo.up h2'; replace HHi := HHi.up h2'; clear h2'
  refine br_ne (fun e => no h fun s => e (q1.trans s.ok)) (fun e => ?_)
  have hok : combE up T rt M = 0 := q1.symm.trans e
  obtain ⟨ce1, ce2, ce3, hfit, hfr⟩ := combE_ok hok
  have v1 := (sysE_ok ce1).1
  refine rd_box0 (by kernel_rfl) X rfl rfl ?_
  refine br_ne (fun e1 => no h fun s => ?_) (fun e1 => ?_)
  · have := s.llo; dsimp only at e1; omega
  refine rd_box0 (by kernel_rfl) X rfl rfl ?_
  refine br_ne (fun e2 => no h fun s => ?_) (fun e2 => ?_)
  · have := s.lhi; dsimp only at e2; omega
  dsimp only at e1 e2
  have l1 : ls.length = up.length := by omega
  have l3 : hs.length = up.length := by omega
  refine loop_up lo.2.1 (fun i w' => bel w8 w' ∧ (∀ j, j < i → ∀ x, ls[j]? = some x → Win x) ∧ (∀ j, j < i → ∀ x, hs[j]? = some x → Win x)) ⟨bel.refl _, pre_zero, pre_zero⟩ fun i w13 hi' ⟨hw, hq1, hq2⟩ again hag _ => ?_
  refine br_dec (fun e3 => ?_) (fun e3 => ?_)
  · dsimp only at e3
    refine at_int tyI64 (by kernel_rfl) (HLo.up hw) rfl (by omega) fun la hla => ?_
    refine call_mono (withinF la 1000000000 w13 (by omega)) ?_
    rintro _ w17 ⟨rfl, h'⟩
    replace hw := hw.trans h'
    refine br_not (fun e4 => no (h.trans hw) fun s => ?_) (fun e4 => ?_)
    · have := s.wlo la (mem_at hla); simp at e4; omega
    refine at_int tyI64 (by kernel_rfl) (HHi.up hw) rfl (by omega) fun ha hha => ?_
    refine call_mono (withinF ha 1000000000 w17 (by omega)) ?_
    rintro _ w21 ⟨rfl, h'⟩
    replace hw := hw.trans h'
    refine br_not (fun e5 => no (h.trans hw) fun s => ?_) (fun e5 => ?_)
    · have := s.whi ha (mem_at hha); simp at e5; omega
    refine z_i64 (by dsimp only; omega) ?_
    simp only [Bool.and_eq_true, decide_eq_true_eq] at e4 e5
    exact hag _ (by omega) ⟨hw, pre_step hq1 hla e4, pre_step hq2 hha e5⟩
  dsimp only at e3
  have l2 := pre_all hq1 (by omega)
  have l4 := pre_all hq2 (by omega)
  clear hq1 hq2 hag again
  replace h := h.trans hw; replace X := X.up hw; replace H := H.up hw; replace HM := HM.up hw; replace HLo := HLo.up hw; replace HHi := HHi.up hw; clear hw hi' e3
  have bnd : ∀ {x : Bool}, ((∃ (k : Nat) (a b : Int), ls[k]? = some a ∧ hs[k]? = some b ∧ b < a) ∨ rhsQ T rt M < lowN T M ls hs up.length ∨ lowN T M hs ls up.length < rhsQ T rt M ↔ x = true) → (x = true ↔ BndP up T rt ls hs M) := fun q => ⟨fun e => ⟨hok, l1, l3, l2, l4, q.2 e⟩, fun s => q.1 s.out⟩
  refine loop_up lo.2.1 (fun i w' => bel w13 w' ∧ ∀ j, j < i → ∀ a b, ls[j]? = some a → hs[j]? = some b → ¬ b < a) ⟨bel.refl _, fun j q => by omega⟩ fun i w25 hi' ⟨hw, hq⟩ again hag _ => ?_
  refine br_dec (fun e3 => ?_) (fun e3 => ?_)
  · dsimp only at e3
    refine drw_mk fun w26 h' _ => ?_
    replace hw := hw.trans h'
    refine at_int tyI64 (by kernel_rfl) (HLo.up hw) rfl (by omega) fun la hla => ?_
    refine at_int tyI64 (by kernel_rfl) (HHi.up hw) rfl (by omega) fun ha hha => ?_
    refine br_dec (fun e4 => ⟨true, rfl, bnd ⟨fun _ => rfl, fun _ => .inl ⟨i, la, ha, hla, hha, e4⟩⟩, h.trans hw⟩) (fun e4 => ?_)
    refine z_i64 (by dsimp only; omega) ?_
    refine hag _ (by omega) ⟨hw, fun j hj a b c1 c2 => ?_⟩
    rcases Nat.lt_or_ge j i with q | q
    · exact hq j q a b c1 c2
    · have : j = i := by omega
      subst this
      rw [hla] at c1; cases c1
      rw [hha] at c2; cases c2
      exact e4
  dsimp only at e3
  have nok : ¬ ∃ (k : Nat) (a b : Int), ls[k]? = some a ∧ hs[k]? = some b ∧ b < a := by
    rintro ⟨k, a, b, c1, c2, c3⟩
    exact hq k (by have := (List.getElem?_eq_some_iff.1 c1).1; omega) a b c1 c2 c3
  clear hq hag again
  replace h := h.trans hw; replace X := X.up hw; replace H := H.up hw; replace HM := HM.up hw; replace HLo := HLo.up hw; replace HHi := HHi.up hw; clear hw hi' e3
  refine rd_boxN X (by kernel_rfl) rfl ?_
  refine call_mono (comb11 u r b m up T rt M w25 H HM hI) ?_
  rintro (x33 : BT) w34 ⟨⟨_, hR⟩, h'⟩
  obtain ⟨⟨ts, hS, hts, hB⟩, hBr⟩ := hR (preE_0 ce1 ce2 ce3)
  replace h := h.trans h'; replace X := X.up h'; replace H := H.up h'; replace HM := HM.up h'; replace HLo := HLo.up h'; replace HHi := HHi.up h'; clear h'
  refine var_mk (z := .agg #[.bool false, .slice none 0 0, .slice none 0 0]) (by kernel_rfl) (by kernel_rfl) rfl rfl fun x35 w37 V hv _ => ?_
  replace V : Box w37 x35 (boxc x33.2.1) := V
  refine call_mono (wholeX 0 w37 ⟨by omega, by omega⟩) ?_
  rintro (t0 : TE) w39 ⟨hA0, _, _, h'⟩
  have hv2 := hv.trans h'
  replace V := V.up h'
  refine call_mono (wholeX 0 w39 ⟨by omega, by omega⟩) ?_
  rintro (t1 : TE) w41 ⟨hB0, _, _, h'⟩
  replace hA0 := hA0.up h'
  have hv3 := hv2.trans h'
  replace V := V.up h'
  replace hS := hS.up hv3
  replace hB : ∀ (k : Nat) t, ts[k]? = some t → BX 1000 w41 t (colQ T M k) := fun k t q => (hB k t q).up hv3
  replace hBr := hBr.up hv3
  replace h := h.trans hv3; replace X := X.up hv3; replace H := H.up hv3; replace HM := HM.up hv3; replace HLo := HLo.up hv3; replace HHi := HHi.up hv3; clear hv3
  have hln : ts.length = x33.1.2.1 := by
    have := hS.len
    rw [flat_len boxc_len] at this
    omega
  refine var2_mk (z := .agg #[.bool false, .slice none 0 0, .slice none 0 0]) (by kernel_rfl) (by kernel_rfl) (by kernel_rfl) rfl rfl rfl rfl fun x42 x44 w47 V1 V2 h' n42 n44 n4244 => ?_
  replace V1 : Box w47 x42 (boxc t0) := V1
  replace V2 : Box w47 x44 (boxc t1) := V2
  have ne : some x42.block ≠ some x44.block := by intro e; injection e; omega
  refine loop_up x33.1.2.1 (fun i w' => bel w41 w' ∧ ∃ t s : TE, Box w' x42 (boxc t) ∧ Box w' x44 (boxc s) ∧ BX (3 + 1006 * i) w' t (lowN T M ls hs i) ∧ BX (3 + 1006 * i) w' s (lowN T M hs ls i))
    ⟨h', t0, t1, V1, V2, hA0.up h', hB0.up h'⟩ fun i w50 hi' ⟨hw, t, s, V1, V2, E1, E2⟩ again hag _ => ?_
  refine br_dec (fun e3 => ?_) (fun e3 => ?_)
  · dsimp only at e3
    obtain ⟨la, hla⟩ : ∃ la, ls[i]? = some la := ⟨_, List.getElem?_eq_getElem (by omega)⟩
    obtain ⟨ha, hha⟩ : ∃ ha, hs[i]? = some ha := ⟨_, List.getElem?_eq_getElem (by omega)⟩
    obtain ⟨tc, htc⟩ : ∃ tc, ts[i]? = some tc := ⟨_, List.getElem?_eq_getElem (by omega)⟩
    have wla := l2 la (mem_at hla)
    have wha := l4 ha (mem_at hha)
    have hBq := hB i tc htc
    obtain ⟨q, hq0⟩ : ∃ q, q = colQ T M i := ⟨_, rfl⟩
    rw [← hq0] at hBq
    have st1 : lowN T M ls hs (i + 1) = lowN T M ls hs i + q * ((if q < 0 then ha else la : Int) : Rat) := by
      show lowN T M ls hs i + colQ T M i * ((pickB (colQ T M i) ls hs i : Int) : Rat) = _
      rw [pick_at hla hha, hq0]
    have st2 : lowN T M hs ls (i + 1) = lowN T M hs ls i + q * ((if q < 0 then la else ha : Int) : Rat) := by
      show lowN T M hs ls i + colQ T M i * ((pickB (colQ T M i) hs ls i : Int) : Rat) = _
      rw [pick_at hha hla, hq0]
    refine join_mk (fun _ w' => bel w41 w' ∧ ∃ t s : TE, Box w' x42 (boxc t) ∧ Box w' x44 (boxc s) ∧ BX (3 + 1006 * (i + 1)) w' t (lowN T M ls hs (i + 1)) ∧ BX (3 + 1006 * (i + 1)) w' s (lowN T M hs ls (i + 1))) (fun K hK => ?_) (fun _ w' hh _ => z_i64 (by dsimp only; omega) (hag _ (by omega) hh))
    refine drw_mk fun w55 h' _ => ?_
    have hw1 := hw.trans h'
    replace V1 := V1.up h'; replace V2 := V2.up h'; replace E1 := E1.up h'; replace E2 := E2.up h'
    have l42 := V1.lt
    have l44 := V2.lt
    refine flEx_mk (fun i _ v w' => (i = 8 → ∃ t : TE, v = exV t ∧ BX 3 w' t (la : Rat)) ∧ (i = 9 → ∃ t : TE, v = exV t ∧ BX 1004 w' t (q * (la : Rat))) ∧ (i = 18 → ∃ t : TE, v = exV t ∧ BX 3 w' t (ha : Rat)) ∧ (i = 19 → ∃ t : TE, v = exV t ∧ BX 1004 w' t (q * (ha : Rat))) ∧
        (i = 20 ∨ i = 21 → ∃ a : Addr, v = .pointer (some a) ∧ Box w' a (boxc z0) ∧ w55.heap.size ≤ a.block))
      (fun _ _ _ _ _ h hb => ⟨fun e => by obtain ⟨t, q1, q2⟩ := h.1 e; exact ⟨t, q1, q2.up hb⟩, fun e => by obtain ⟨t, q1, q2⟩ := h.2.1 e; exact ⟨t, q1, q2.up hb⟩, fun e => by obtain ⟨t, q1, q2⟩ := h.2.2.1 e; exact ⟨t, q1, q2.up hb⟩, fun e => by obtain ⟨t, q1, q2⟩ := h.2.2.2.1 e; exact ⟨t, q1, q2.up hb⟩, fun e => by obtain ⟨a, q1, q2, q3⟩ := h.2.2.2.2 e; exact ⟨a, q1, q2.up hb, q3⟩⟩) ?_
    refine at_agg tyBigs agBig boxc_len (by omega) (hS.up hw1) rfl htc rfl ?_
    refine at_int tyI64 (by kernel_rfl) (HLo.up hw1) rfl (by omega) fun a' q' => ?_
    rw [hla] at q'; cases q'
    refine flc_mk (fun w61 hb _ => call_mono (wholeX la w61 ⟨by omega, by omega⟩) fun y w' ⟨hy, _, _, hb'⟩ => ⟨hb', fun _ => ⟨y, rfl, hy⟩, fun e => by omega, fun e => by omega, fun e => by omega, fun e => by omega⟩) (fun (x65 : TE) => ?_)
    refine flc_mk (fun w66 hb hf => ?_) (fun (x70 : TE) => ?_)
    · obtain ⟨t1, e1, B1⟩ := hf.1.1 rfl
      have e1' := exV_inj (t := x65) e1
      subst e1'
      exact call_mono (timesX tc x65 _ _ 1000 3 w66 (hBq.up (hw1.trans hb)) B1 (by omega) (by omega)) fun y w' ⟨hy, _, _, hb'⟩ => ⟨hb', fun e => by omega, fun _ => ⟨y, rfl, hy⟩, fun e => by omega, fun e => by omega, fun e => by omega⟩
    refine at_agg tyBigs agBig boxc_len (by omega) (hS.up hw1) rfl htc rfl ?_
    refine at_int tyI64 (by kernel_rfl) (HHi.up hw1) rfl (by omega) fun a' q' => ?_
    rw [hha] at q'; cases q'
    refine flc_mk (fun w75 hb _ => call_mono (wholeX ha w75 ⟨by omega, by omega⟩) fun y w' ⟨hy, _, _, hb'⟩ => ⟨hb', fun e => by omega, fun e => by omega, fun _ => ⟨y, rfl, hy⟩, fun e => by omega, fun e => by omega⟩) (fun (x79 : TE) => ?_)
    refine flc_mk (fun w80 hb hf => ?_) (fun (x84 : TE) => ?_)
    · obtain ⟨t1, e1, B1⟩ := hf.1.2.2.1 rfl
      have e1' := exV_inj (t := x79) e1
      subst e1'
      exact call_mono (timesX tc x79 _ _ 1000 3 w80 (hBq.up (hw1.trans hb)) B1 (by omega) (by omega)) fun y w' ⟨hy, _, _, hb'⟩ => ⟨hb', fun e => by omega, fun e => by omega, fun e => by omega, fun _ => ⟨y, rfl, hy⟩, fun e => by omega⟩
    refine flc_mk (fun w85 hb _ => wr_alloc (z := .agg #[.bool false, .slice none 0 0, .slice none 0 0]) (by kernel_rfl) fun a w' A hb' ha' _ => ⟨hb', fun e => by omega, fun e => by omega, fun e => by omega, fun e => by omega, fun _ => ⟨a, rfl, A, by have := hb.size; omega⟩⟩) (fun x89 => ?_)
    refine flc_mk (fun w90 hb _ => wr_alloc (z := .agg #[.bool false, .slice none 0 0, .slice none 0 0]) (by kernel_rfl) fun a w' A hb' ha' _ => ⟨hb', fun e => by omega, fun e => by omega, fun e => by omega, fun e => by omega, fun _ => ⟨a, rfl, A, by have := hb.size; omega⟩⟩) (fun x94 => ?_)
    refine flend_mk fun w95 hb hf => ?_
    obtain ⟨⟨f21, f20, f19, _, f9, _⟩, hpw⟩ := hf
    obtain ⟨a94, e94, B94, n94⟩ := f21.2.2.2.2 (.inr rfl)
    obtain ⟨a89, e89, B89, n89⟩ := f20.2.2.2.2 (.inl rfl)
    obtain ⟨t84, et84, P84⟩ := f19.2.2.2.1 rfl
    obtain ⟨t70, et70, P70⟩ := f9.2.1 rfl
    have e1 := exV_inj (t := x84) et84
    have e2 := exV_inj (t := x70) et70
    injection e94 with e94
    injection e94 with e94
    injection e89 with e89
    injection e89 with e89
    subst e1 e2 e94 e89
    have hd : some x89.block ≠ some x94.block := by
      intro e
      injection e with e
      have := (List.pairwise_cons.1 hpw).1 (.pointer (some x89)) (List.mem_cons_self ..)
      apply this
      rw [B94.eq, B89.eq, e]
    replace V1 := V1.up hb; replace V2 := V2.up hb; replace E1 := E1.up hb; replace E2 := E2.up hb
    have hw2 := hw1.trans hb
    have l41 : w41.heap.size ≤ w55.heap.size := hw1.size
    have nA : ∀ {x : Addr}, x.block < w55.heap.size → some x.block ≠ some x89.block := fun q e => by injection e; omega
    have nB : ∀ {x : Addr}, x.block < w55.heap.size → some x.block ≠ some x94.block := fun q e => by injection e; omega
    refine wu_box B89 (by kernel_rfl) (Nat.le_refl 3) rfl fun w97 C89 hg _ => ?_
    replace C89 : Box w97 x89 (boxc x70) := C89
    have C94 := B94.grown hg (fun e => hd e.symm)
    have R70 := P70.put B89 hg
    have R84 := P84.put B89 hg
    have W1 := V1.grown hg (nA l42)
    have W2 := V2.grown hg (nA l44)
    have F1 := E1.put B89 hg
    have F2 := E2.put B89 hg
    have hw3 := hw2.grownAt hg (by omega)
    refine wu_box C94 (by kernel_rfl) (Nat.le_refl 3) rfl fun w98 D94 hg2 _ => ?_
    replace D94 : Box w98 x94 (boxc x84) := D94
    have D89 := C89.grown hg2 hd
    replace R70 := R70.put C94 hg2
    replace R84 := R84.put C94 hg2
    replace W1 := W1.grown hg2 (nB l42)
    replace W2 := W2.grown hg2 (nB l44)
    replace F1 := F1.put C94 hg2
    replace F2 := F2.put C94 hg2
    have hw4 := hw3.grownAt hg2 (by omega)
    refine join_mk (fun _ w' => bel w41 w' ∧ Box w' x42 (boxc t) ∧ Box w' x44 (boxc s) ∧ BX (3 + 1006 * i) w' t (lowN T M ls hs i) ∧ BX (3 + 1006 * i) w' s (lowN T M hs ls i) ∧ ∃ ta tb : TE, Box w' x89 (boxc ta) ∧ Box w' x94 (boxc tb) ∧ BX 1004 w' ta (q * ((if q < 0 then ha else la : Int) : Rat)) ∧ BX 1004 w' tb (q * ((if q < 0 then la else ha : Int) : Rat))) (fun K' hK' => ?_) (fun _ w101 hh _ => ?_)
    · refine at_agg tyBigs agBig boxc_len (by omega) (hS.up hw4) rfl htc rfl ?_
      refine call_mono (signX tc q _ w98 (hBq.up hw4) (by omega)) ?_
      rintro _ w122 ⟨rfl, h'⟩
      replace hw4 := hw4.trans h'
      replace D94 := D94.up h'; replace D89 := D89.up h'; replace R70 := R70.up h'; replace R84 := R84.up h'; replace W1 := W1.up h'; replace W2 := W2.up h'; replace F1 := F1.up h'; replace F2 := F2.up h'
      refine br_dec (fun e5 => ?_) (fun e5 => ?_)
      · have qn := rsign_neg.1 e5
        refine rd_boxN D94 (by kernel_rfl) rfl ?_
        refine rd_boxN D89 (by kernel_rfl) rfl ?_
        refine wu_box D89 (by kernel_rfl) (Nat.le_refl 3) rfl fun w125 G89 hg3 _ => ?_
        replace G89 : Box w125 x89 (boxc x84) := G89
        have G94 := D94.grown hg3 (fun e => hd e.symm)
        replace R70 := R70.put D89 hg3
        replace R84 := R84.put D89 hg3
        replace W1 := W1.grown hg3 (nA l42)
        replace W2 := W2.grown hg3 (nA l44)
        replace F1 := F1.put D89 hg3
        replace F2 := F2.put D89 hg3
        have hw5 := hw4.grownAt hg3 (by omega)
        refine wu_box G94 (by kernel_rfl) (Nat.le_refl 3) rfl fun w126 I94 hg4 _ => ?_
        replace I94 : Box w126 x94 (boxc x70) := I94
        refine hK' _ _ ⟨hw5.grownAt hg4 (by omega), W1.grown hg4 (nB l42), W2.grown hg4 (nB l44), F1.put G94 hg4, F2.put G94 hg4, x84, x70, G89.grown hg4 hd, I94, ?_, ?_⟩
        · rw [if_pos qn]; exact R84.put G94 hg4
        · rw [if_pos qn]; exact R70.put G94 hg4
      · have qn : ¬ q < 0 := fun c => e5 (rsign_neg.2 c)
        refine hK' _ _ ⟨hw4, W1, W2, F1, F2, x70, x84, D89, D94, ?_, ?_⟩
        · rw [if_neg qn]; exact R70
        · rw [if_neg qn]; exact R84
    · obtain ⟨hw5, W1, W2, F1, F2, ta, tb, A1, A2, Q1, Q2⟩ := hh
      refine drw_mk fun w102 h' _ => ?_
      replace hw5 := hw5.trans h'
      replace W1 := W1.up h'; replace W2 := W2.up h'; replace F1 := F1.up h'; replace F2 := F2.up h'; replace A1 := A1.up h'; replace A2 := A2.up h'; replace Q1 := Q1.up h'; replace Q2 := Q2.up h'
      refine flEx_mk (fun _ _ v w' => ∃ y : TE, v = exV y ∧ BX (3 + 1006 * (i + 1)) w' y (lowN T M ls hs (i + 1))) (fun _ _ _ _ _ ⟨y, q1, q2⟩ hb => ⟨y, q1, q2.up hb⟩) ?_
      refine rd_boxN W1 (by kernel_rfl) rfl ?_
      refine rd_boxN A1 (by kernel_rfl) rfl ?_
      refine flc_mk (fun w106 hb _ => call_mono (plusX t ta _ _ (3 + 1006 * i) 1004 w106 (F1.up hb) (Q1.up hb) (by omega) (by omega)) fun y w' ⟨hy, _, _, hb'⟩ => ⟨hb', y, rfl, by rw [st1]; exact BX.le hy (by omega)⟩) (fun (x110 : TE) => ?_)
      refine rd_boxN W2 (by kernel_rfl) rfl ?_
      refine rd_boxN A2 (by kernel_rfl) rfl ?_
      refine flend_mk fun w113 hb hf => ?_
      obtain ⟨⟨y, ey, By⟩, _⟩ := hf
      have ey' := exV_inj (t := x110) ey
      subst ey'
      refine call_mono (plusX s tb _ _ (3 + 1006 * i) 1004 w113 (F2.up hb) (Q2.up hb) (by omega) (by omega)) ?_
      rintro (x115 : TE) w116 ⟨hy, _, _, h2'⟩
      have hy2 : BX (3 + 1006 * (i + 1)) w116 x115 (lowN T M hs ls (i + 1)) := by rw [st2]; exact BX.le hy (by omega)
      replace By := By.up h2'
      have hw6 := (hw5.trans hb).trans h2'
      replace W1 := (W1.up hb).up h2'; replace W2 := (W2.up hb).up h2'
      refine wu_box W1 (by kernel_rfl) (Nat.le_refl 3) rfl fun w117 U1 hg _ => ?_
      replace U1 : Box w117 x42 (boxc x110) := U1
      have U2 := W2.grown hg (fun e => ne e.symm)
      have By2 := By.put W1 hg
      have hy3 := hy2.put W1 hg
      have hw7 := hw6.grownAt hg n42
      refine wu_box U2 (by kernel_rfl) (Nat.le_refl 3) rfl fun w118 T2 hg2 _ => ?_
      exact hK _ _ ⟨hw7.grownAt hg2 n44, x110, x115, U1.grown hg2 ne, T2, By2.put U2 hg2, hy3.put U2 hg2⟩
  · dsimp only at e3
    have hi2 : i = up.length := by omega
    subst hi2
    refine rd_boxN (V.up hw) (by kernel_rfl) rfl ?_
    refine rd_boxN V1 (by kernel_rfl) rfl ?_
    refine call_mono (lessX x33.2.1 t _ _ 1000 (3 + 1006 * up.length) w50 (hBr.up hw) E1 (by omega) (by omega)) ?_
    rintro _ w130 ⟨rfl, h'⟩
    replace V1 := V1.up h'; replace V2 := V2.up h'; replace E1 := E1.up h'; replace E2 := E2.up h'
    have hw1 := hw.trans h'
    refine br_dec (fun e5 => ⟨true, rfl, bnd ⟨fun _ => rfl, fun _ => .inr (.inl (less_iff.1 e5))⟩, h.trans hw1⟩) (fun e5 => ?_)
    refine rd_boxN V2 (by kernel_rfl) rfl ?_
    refine rd_boxN (V.up hw1) (by kernel_rfl) rfl ?_
    refine call_mono (lessX s x33.2.1 _ _ (3 + 1006 * up.length) 1000 w130 E2 (hBr.up hw1) (by omega) (by omega)) ?_
    rintro _ w134 ⟨rfl, h'⟩
    refine ⟨_, rfl, bnd ⟨fun q => ?_, fun q => .inr (.inr (less_iff.1 (of_decide_eq_true q)))⟩, h.trans (hw1.trans h')⟩
    rcases q with q | q | q
    · exact absurd q nok
    · exact absurd (less_iff.2 q) e5
    · exact decide_eq_true (less_iff.2 q)
end Go.Proofs.YtajpdnphamomjaaGreat

/- The walk of LinearRaw. -/

namespace Go.Proofs.YtajpdnphamomjaaGreat
open Go.RowKit Go.Q Go.Q.Num Go.V

end Go.Proofs.YtajpdnphamomjaaGreat

/- The conditions of functions, printed by our tool; each is checked against the code by the kernel. -/



namespace Go.Proofs
open Go Go.V Go.RowKit
open Tryz (prog)
set_option maxRecDepth 100000
def S17 (t_ : OA) (n_ : Int) (w0 : World) (R : KR) : Prop :=
 br (decide (n_ < 1)) (R (ji 0) w0)
 (join (T := (Int × Unit)) (fun (s2 : Int × Unit) w3 => ∀ _ : NV,
 nn t_ fun (a4 : Addr) =>
 rd prog (jL 3 (Addr.add a4 1)) oI w3 fun (x5 : Int) =>
 z (IntKind.wrap .i64 (x5 + 1)) fun (z6 : Int) =>
 nn t_ fun (a7 : Addr) =>
 wu prog (jS 3 (Addr.add a7 1) (ji z6)) w3 fun w8 =>
 R (ji s2.1) w8)
  fun (K1 : Int × Unit → World → Prop) =>
 drw w0 fun w9 =>
 nn t_ fun (a10 : Addr) =>
 rd prog (jL 3 (Addr.add a10 1)) oI w9 fun (x11 : Int) =>
 nn t_ fun (a12 : Addr) =>
 rd prog (jL 22 a12) oS w9 fun (x13 : Hd3) =>
 br (decide (x11 < ((x13.2.1 : Nat) : Int))) (drw w9 fun w14 =>
 nn t_ fun (a15 : Addr) =>
 rd prog (jL 22 a15) oS w14 fun (x16 : Hd3) =>
 nn t_ fun (a17 : Addr) =>
 rd prog (jL 3 (Addr.add a17 1)) oI w14 fun (x18 : Int) =>
 rdp prog (jI 22 x16 x18) oA fun (x19 : Addr) =>
 rd prog (jL 3 x19) oI w14 fun (x20 : Int) =>
 rdp prog (cmpS .rem 3 (.tmp 27) (.tmp 28) (ji x20) (ji n_)) oI fun (x21 : Int) =>
 br (decide (x21 < 0)) (z (IntKind.wrap .i64 (x21 + n_)) fun (z22 : Int) =>
 K1 (z22, ()) w14)
 (K1 (x21, ()) w14))
 (K1 (0, ()) w9))
def H17 : Hints := ⟨[(0, 17, [(5, (.one (.int .i64)))])], [(4, 9), (5, 11)], [], []⟩
theorem S17_calls (t_ : OA) (n_ : Int) (w0 : World) (R : KR) (h : S17 t_ n_ w0 R) : Calls prog 17 #[.pointer t_, ji n_] w0 (ret R) :=
 vcFn_sound (H := H17) follows_ Tryz.func17 (Eq.mpr (by kernel_rfl) h)
def S7 (t_ : OA) (vars_ rows_ most_ : Int) (w0 : World) (R : KR) : Prop :=
 wr prog (Instr.alloc 29 true (.tuple #[])) oA w0 fun (x1 : Addr) w2 =>
 wr prog (Instr.alloc 29 true (.tuple #[])) oA w2 fun (x3 : Addr) w4 =>
 call prog 17 [.pointer t_, ji vars_] (.one oI) w4 fun (x5 : Int) w6 =>
 z (IntKind.wrap .i64 (1 + x5)) fun (z7 : Int) =>
 loop (T := (Int × Unit)) (0, ()) w6 fun (g8 : Int × Unit → World → Prop) (s9 : Int × Unit) w10 => ∀ _ : NV,
 br (decide (s9.1 < z7)) (drw w10 fun w11 => flExC w11 fun E14 G13 Y12 F15 =>
 rdE prog (ER Y12 [7, 9] E14) (jL 26 x3) oS w11 fun (x16 : Hd3) =>
 z (IntKind.wrap .i64 (most_ + 1)) fun (z17 : Int) =>
 flcC Y12 5 E14 w11 (fun _w19 => True) (fun (D20 : Nat → Bool) w18 =>
   call prog 17 [.pointer t_, ji z17] (.one oI) w18 fun (x21 : Int) w22 =>
 (E14 w18 w22 ∧ G13 5 w18 w22 ∧ Y12 (setD D20 5) w22 ∧ F15 5 [.pointer t_, ji z17] (ji x21) w22))
  fun (x23 : Int) =>
 flcC Y12 6 E14 w11 (fun w25 => F15 5 [.pointer t_, ji z17] (ji x23) w25 ∧ True) (fun (D26 : Nat → Bool) w24 =>
   wr prog (Instr.buildSlice 26 1 #[(0, (ji x23))]) oS w24 fun (x27 : Hd3) w28 =>
 (E14 w24 w28 ∧ G13 6 w24 w28 ∧ Y12 (setD D26 6) w28 ∧ F15 6 [ji x23] (jw x27) w28))
  fun (x29 : Hd3) =>
 flendC Y12 [6, 5] E14 w11 (fun w31 => F15 6 [ji x23] (jw x29) w31 ∧ F15 5 [.pointer t_, ji z17] (ji x23) w31 ∧ True) fun w30 =>
 wr prog (Builtin.append_ #[26, 26] 26 #[.slice x16.1 x16.2.1 x16.2.2, .slice x29.1 x29.2.1 x29.2.2]) oS w30 fun (x32 : Hd3) w33 =>
 wu prog (jS 26 x3 (jw x32)) w33 fun w34 =>
 z (IntKind.wrap .i64 (s9.1 + 1)) fun (z35 : Int) =>
 g8 (z35, ()) w34)
 (wr prog (Instr.makeSlice 26 (ji z7) (ji z7)) oS w10 fun (x36 : Hd3) w37 =>
 loop (T := (Int × Unit)) (0, ()) w37 fun (g38 : Int × Unit → World → Prop) (s39 : Int × Unit) w40 => ∀ _ : NV,
 br (decide (s39.1 < z7)) (rd prog (jL 26 x3) oS w40 fun (x41 : Hd3) =>
 rdp prog (jI 26 x41 s39.1) oA fun (x42 : Addr) =>
 rd prog (jL 2 x42) oI w40 fun (x43 : Int) =>
 z (IntKind.wrap .i64 (x43 + 1)) fun (z44 : Int) =>
 call prog 17 [.pointer t_, ji z44] (.one oI) w40 fun (x45 : Int) w46 =>
 rdp prog (jI 26 x36 s39.1) oA fun (x47 : Addr) =>
 wu prog (jS 2 x47 (ji x45)) w46 fun w48 =>
 z (IntKind.wrap .i64 (s39.1 + 1)) fun (z49 : Int) =>
 g38 (z49, ()) w48)
 (call prog 17 [.pointer t_, ji 2] (.one oI) w40 fun (x50 : Int) w51 =>
 z (IntKind.wrap .i64 (rows_ + 1)) fun (z52 : Int) =>
 call prog 17 [.pointer t_, ji z52] (.one oI) w51 fun (x53 : Int) w54 =>
 loop (T := (Int × Unit)) (x53, ()) w54 fun (g55 : Int × Unit → World → Prop) (s56 : Int × Unit) w57 => ∀ _ : NV,
 br (decide (s56.1 > 0)) (join (T := Unit) (fun (_s59 : Unit) w60 => ∀ _ : NV,
 z (IntKind.wrap .i64 (s56.1 - 1)) fun (z61 : Int) =>
 g55 (z61, ()) w60)
  fun (K58 : Unit → World → Prop) =>
 loop (T := (Hd3 × Int × Int × Unit)) ((none, 0, 0), 0, 0, ()) w57 fun (g62 : Hd3 × Int × Int × Unit → World → Prop) (s63 : Hd3 × Int × Int × Unit) w64 => ∀ _ : NV,
 br (decide (s63.2.2.1 < z7)) (call prog 17 [.pointer t_, ji 11] (.one oI) w64 fun (x65 : Int) w66 =>
 z (IntKind.wrap .i64 (x65 - 5)) fun (z67 : Int) =>
 wr prog (Instr.buildSlice 26 1 #[(0, (ji z67))]) oS w66 fun (x68 : Hd3) w69 =>
 wr prog (Builtin.append_ #[26, 26] 26 #[.slice s63.1.1 s63.1.2.1 s63.1.2.2, .slice x68.1 x68.2.1 x68.2.2]) oS w69 fun (x70 : Hd3) w71 =>
 rdp prog (jI 26 x36 s63.2.2.1) oA fun (x72 : Addr) =>
 rd prog (jL 2 x72) oI w71 fun (x73 : Int) =>
 z (IntKind.wrap .i64 (z67 * x73)) fun (z74 : Int) =>
 z (IntKind.wrap .i64 (s63.2.1 + z74)) fun (z75 : Int) =>
 z (IntKind.wrap .i64 (s63.2.2.1 + 1)) fun (z76 : Int) =>
 g62 ((x70.1, x70.2.1, x70.2.2), z75, z76, ()) w71)
 (join (T := (Int × Unit)) (fun (s78 : Int × Unit) w79 => ∀ _ : NV,
 drw w79 fun w80 => flExC w80 fun E83 G82 Y81 F84 =>
 rdE prog (ER Y81 [4, 9, 11, 13] E83) (jL 27 (Addr.add x3 1)) oS w80 fun (x85 : Hd3) =>
 flcC Y81 3 E83 w80 (fun _w87 => True) (fun (D88 : Nat → Bool) w86 =>
   wr prog (Instr.buildSlice 27 1 #[(0, (jw s63.1))]) oS w86 fun (x89 : Hd3) w90 =>
 (E83 w86 w90 ∧ G82 3 w86 w90 ∧ Y81 (setD D88 3) w90 ∧ F84 3 [jw s63.1] (jw x89) w90))
  fun (x91 : Hd3) =>
 flcC Y81 4 E83 w80 (fun w93 => F84 3 [jw s63.1] (jw x91) w93 ∧ True) (fun (D94 : Nat → Bool) w92 =>
   wr prog (Builtin.append_ #[27, 27] 27 #[.slice x85.1 x85.2.1 x85.2.2, .slice x91.1 x91.2.1 x91.2.2]) oS w92 fun (x95 : Hd3) w96 =>
 (E83 w92 w96 ∧ G82 4 w92 w96 ∧ Y81 (setD D94 4) w96 ∧ F84 4 [jw x85, jw x91] (jw x95) w96))
  fun (x97 : Hd3) =>
 rdE prog (ER Y81 [9, 11, 13] E83) (jL 26 (Addr.add x3 2)) oS w80 fun (x98 : Hd3) =>
 flcC Y81 8 E83 w80 (fun _w100 => True) (fun (D101 : Nat → Bool) w99 =>
   wr prog (Instr.buildSlice 26 1 #[(0, (ji s78.1))]) oS w99 fun (x102 : Hd3) w103 =>
 (E83 w99 w103 ∧ G82 8 w99 w103 ∧ Y81 (setD D101 8) w103 ∧ F84 8 [ji s78.1] (jw x102) w103))
  fun (x104 : Hd3) =>
 flcC Y81 9 E83 w80 (fun w106 => F84 8 [ji s78.1] (jw x104) w106 ∧ F84 4 [jw x85, jw x91] (jw x97) w106 ∧ F84 3 [jw s63.1] (jw x91) w106 ∧ True) (fun (D107 : Nat → Bool) w105 =>
   wr prog (Builtin.append_ #[26, 26] 26 #[.slice x98.1 x98.2.1 x98.2.2, .slice x104.1 x104.2.1 x104.2.2]) oS w105 fun (x108 : Hd3) w109 =>
 (E83 w105 w109 ∧ G82 9 w105 w109 ∧ Y81 (setD D107 9) w109 ∧ F84 9 [jw x98, jw x104] (jw x108) w109))
  fun (x110 : Hd3) =>
 flendC Y81 [9, 8, 4, 3] E83 w80 (fun w112 => F84 9 [jw x98, jw x104] (jw x110) w112 ∧ F84 8 [ji s78.1] (jw x104) w112 ∧ F84 4 [jw x85, jw x91] (jw x97) w112 ∧ F84 3 [jw s63.1] (jw x91) w112 ∧ True) fun w111 =>
 wu prog (jS 27 (Addr.add x3 1) (jw x97)) w111 fun w113 =>
 wu prog (jS 26 (Addr.add x3 2) (jw x110)) w113 fun w114 =>
 K58 (()) w114)
  fun (K77 : Int × Unit → World → Prop) =>
 br (!(x50 == 0)) (call prog 17 [.pointer t_, ji 7] (.one oI) w64 fun (x115 : Int) w116 =>
 z (IntKind.wrap .i64 (x115 - 3)) fun (z117 : Int) =>
 z (IntKind.wrap .i64 (s63.2.1 + z117)) fun (z118 : Int) =>
 K77 (z118, ()) w116)
 (K77 (s63.2.1, ()) w64)))
 (rd prog (jL 29 x3) aS w57 fun (x119 : TS) =>
 wu prog (jS 29 x1 (.agg #[jw x119.1, jw x119.2.1, jw x119.2.2.1])) w57 fun w120 =>
 rd prog (loadVar 29 x1) aS w120 fun (x121 : TS) =>
 R (.agg #[jw x121.1, jw x121.2.1, jw x121.2.2.1]) w120)))
def H7 : Hints := ⟨[(2, 0, [(11, (.one (.int .i64)))]), (2, 2, [(13, (.one (.int .i64)))]), (2, 4, [(15, (.one (.int .i64)))]), (2, 6, [(16, (.one .slice)), (17, (.one (.int .i64))), (18, (.one (.int .i64)))]), (0, 88, [(17, (.one (.int .i64)))]), (1, 5, [])], [(6, 7), (26, 11)], [], [1000026, 1000006]⟩
theorem S7_calls (t_ : OA) (vars_ rows_ most_ : Int) (w0 : World) (R : KR) (h : S7 t_ vars_ rows_ most_ w0 R) : Calls prog 7 #[.pointer t_, ji vars_, ji rows_, ji most_] w0 (ret R) :=
 vcFn_sound (H := H7) follows_ Tryz.func7 (Eq.mpr (by kernel_rfl) h)
end Go.Proofs

/- The tape of numbers that made worlds are read from. -/



namespace Go.Proofs.YtajpdnphamomjaaGreat
open Go.RowKit Go.Q Go.Q.Num Go.V

theorem tyInts : TyS Tryz.prog 22 3 (.int .i64 0) 1 8 := ⟨by kernel_rfl, by kernel_rfl⟩
structure Tape (w : World) (tb : Addr) (l : Hdr) (L : List Int) (p : Nat) : Prop where
  box : Box w tb [.slice l.1 l.2.1 l.2.2, .int .i64 (p : Int)]
  sl : Sl w l.1 l.2.1 l.2.2 1 (ints .i64 L)
  old : ∀ ad, l.1 = some ad → L ≠ [] → ad.block < tb.block
  i64 : ∀ x ∈ L, I64 x
theorem Tape.up {w w' : World} {tb : Addr} {l : Hdr} {L : List Int} {p : Nat} (h : Tape w tb l L p) (hb : bel w w') : Tape w' tb l L p := ⟨h.box.up hb, h.sl.up hb, h.old, h.i64⟩
theorem Tape.grown {w w' : World} {tb : Addr} {l : Hdr} {L : List Int} {p b : Nat} (h : Tape w tb l L p) (hg : w.grownBy w' (some b)) (hb : tb.block < b) : Tape w' tb l L p :=
  ⟨h.box.xg hg (by omega), Sl.xg h.sl hg (fun ad ha hx => by have := h.old ad ha (by rintro rfl; exact hx rfl); omega), h.old, h.i64⟩
theorem Tape.xb {S : Nat → Prop} {w w' : World} {tb : Addr} {l : Hdr} {L : List Int} {p : Nat} (h : Tape w tb l L p) (hX : Xb S w w') (hs : ∀ k, S k → tb.block < k) : Tape w' tb l L p :=
  ⟨h.box.xb hX (fun q => by have := hs _ q; omega), h.sl.xb hX (fun ad ha hx q => by have := h.old ad ha (by rintro rfl; exact hx rfl); have := hs _ q; omega), h.old, h.i64⟩
set_option maxHeartbeats 400000 in
theorem nextF {w : World} {tb : Addr} {l : Hdr} {L : List Int} {p : Nat} (n : Int) (h : Tape w tb l L p) (hp : p ≤ 1000000) (hn : 1 ≤ n ∧ n ≤ 9223372036854775807) :
    call Tryz.prog 17 [.pointer (some tb), .int .i64 n] (.one (.one (.int .i64))) w (fun (x : Int) w' => (0 ≤ x ∧ x < n) ∧ Tape w' tb l L (p + 1) ∧ w.grownBy w' (some tb.block)) := by
  refine call_of (S17_calls (some tb) n w _ ?_)
  unfold S17
  have hl := h.sl.int
  refine br_dec (fun e => by omega) (fun _ => ?_)
  refine join_mk (fun s w' => (0 ≤ s.1 ∧ s.1 < n) ∧ bel w w') (fun K hK => ?_) (fun s w3 hh _ => ?_)
  · refine drw_mk fun w9 h9 _ => ?_
    refine nn_mk rfl ?_
    refine rd_box (by kernel_rfl) (h.box.up h9) (i := 1) rfl rfl ?_
    refine nn_mk rfl ?_
    refine rd_box0 (by kernel_rfl) (h.box.up h9) rfl rfl ?_
    refine br_dec (fun e => ?_) (fun e => hK _ _ ⟨⟨by dsimp only; omega, by dsimp only; omega⟩, h9⟩)
    dsimp only at e
    refine drw_mk fun w14 h14 _ => ?_
    have h14' := h9.trans h14
    refine nn_mk rfl ?_
    refine rd_box0 (by kernel_rfl) (h.box.up h14') rfl rfl ?_
    refine nn_mk rfl ?_
    refine rd_box (by kernel_rfl) (h.box.up h14') (i := 1) rfl rfl ?_
    refine at_int tyInts (by kernel_rfl) (h.sl.up h14') rfl (by omega) fun x hx => ?_
    refine rdp_rem (by omega) ?_
    have b1 := Int.tmod_lt_of_pos x (show 0 < n by omega)
    have b2 := Int.lt_tmod_of_pos x (show 0 < n by omega)
    refine br_dec (fun e2 => ?_) (fun e2 => hK _ _ ⟨⟨by dsimp only; omega, by dsimp only; omega⟩, h14'⟩)
    refine z_i64 (by omega) ?_
    exact hK _ _ ⟨⟨by dsimp only; omega, by dsimp only; omega⟩, h14'⟩
  · obtain ⟨x, _⟩ := s
    obtain ⟨hx, hb⟩ := hh
    refine nn_mk rfl ?_
    refine rd_box (by kernel_rfl) (h.box.up hb) (i := 1) rfl rfl ?_
    refine z_i64 (by omega) ?_
    refine nn_mk rfl ?_
    refine wu_boxi (h.box.up hb) (by kernel_rfl) (by simp) rfl fun w8 X hg _ => ?_
    have X' : Box w8 tb [.slice l.1 l.2.1 l.2.2, .int .i64 ((p + 1 : Nat) : Int)] := X
    exact ⟨x, rfl, hx, ⟨X', Sl.xg (h.sl.up hb) hg (fun ad ha hx => by have := h.old ad ha (by rintro rfl; exact hx rfl); omega), h.old, h.i64⟩, (grown_of_bel hb _).trans hg⟩
end Go.Proofs.YtajpdnphamomjaaGreat

/- Made systems. -/


namespace Go.Proofs.YtajpdnphamomjaaGreat
open Go.RowKit Go.Q Go.Q.Num Go.V

structure MadeS (up : List Int) (T : List (List Int)) (rt : List Int) (vars rows most : Nat) : Prop where
  n1 : 1 ≤ up.length
  n2 : up.length ≤ vars
  t : T.length ≤ rows
  r : rt.length = T.length
  row : ∀ q ∈ T, q.length = up.length ∧ ∀ x ∈ q, -5 ≤ x ∧ x ≤ 5
  up : ∀ x ∈ up, 0 ≤ x ∧ x ≤ (most : Int)
  rt : ∀ x ∈ rt, x.natAbs ≤ vars * 50000 + 3
abbrev nil3 : List Value := [.slice none 0 0, .slice none 0 0, .slice none 0 0]
def RowsAt (w : World) (hs : List Hdr) (T : List (List Int)) (B : Nat) (o1 o2 : Option Nat) : Prop :=
  hs.length = T.length ∧ ∀ (i : Nat) (x : Hdr) (q : List Int), hs[i]? = some x → T[i]? = some q → Sl w x.1 x.2.1 x.2.2 1 (ints .i64 q) ∧ ∀ ad, x.1 = some ad → B ≤ ad.block ∧ ad.block < w.heap.size ∧ some ad.block ≠ o1 ∧ some ad.block ≠ o2
theorem RowsAt.grown {w w' : World} {hs : List Hdr} {T : List (List Int)} {B : Nat} {o1 o2 o : Option Nat} (h : RowsAt w hs T B o1 o2) (hg : w.grownBy w' o) (ho : (∀ k, o = some k → k < B) ∨ o = o1 ∨ o = o2) : RowsAt w' hs T B o1 o2 := by
  refine ⟨h.1, fun i x q h1 h2 => ?_⟩
  obtain ⟨s, f⟩ := h.2 i x q h1 h2
  refine ⟨s.grown hg fun ad ha _ e => ?_, fun ad ha => ?_⟩
  · obtain ⟨a1, a2, a3, a4⟩ := f ad ha
    rcases ho with ho | ho | ho
    · have := ho _ e.symm; omega
    · exact a3 (e.trans ho)
    · exact a4 (e.trans ho)
  · obtain ⟨a1, a2, a3, a4⟩ := f ad ha
    exact ⟨a1, by have := hg.size; omega, a3, a4⟩
abbrev TabH (w : World) (B : Nat) (rh : Hdr) (hs : List Hdr) : Prop := Own w B 26 1 rh.1 rh.2.1 rh.2.2 (hs.map hv)
theorem TabH.len {w : World} {B : Nat} {h : Hdr} {xs : List Hdr} (H : TabH w B h xs) : xs.length = h.2.1 := by have := H.sl.len; simpa using this

theorem TabH.apart {w : World} {B B' : Nat} {rh bh : Hdr} {hs : List Hdr} {rt : List Int} (OR : TabH w B rh hs) (OB : OwnI w B' bh rt) : ∀ k, blk rh.1 = some k → blk bh.1 = some k → False := Own.apart OR OB (by decide)

theorem RowsAt.xb {S : Nat → Prop} {w w' : World} {hs : List Hdr} {T : List (List Int)} {B : Nat} {o1 o2 : Option Nat} (h : RowsAt w hs T B o1 o2) (hX : Xb S w w') (ho : ∀ k, S k → o1 = some k ∨ o2 = some k) : RowsAt w' hs T B o1 o2 := by
  refine ⟨h.1, fun i x q h1 h2 => ?_⟩
  obtain ⟨s, f⟩ := h.2 i x q h1 h2
  refine ⟨s.xb hX fun ad ha _ e => ?_, fun ad ha => ?_⟩
  · obtain ⟨a1, a2, a3, a4⟩ := f ad ha
    rcases ho _ e with q | q
    · exact a3 q.symm
    · exact a4 q.symm
  · obtain ⟨a1, a2, a3, a4⟩ := f ad ha
    exact ⟨a1, by have := hX.size; omega, a3, a4⟩
theorem dotI_snoc {row xs : List Int} {c : Int} : ∀ {k : Nat}, k ≤ row.length → dotI (row ++ [c]) xs k = dotI row xs k
  | 0, _ => rfl
  | k + 1, h => by
    show dotI (row ++ [c]) xs k + dotJ (row ++ [c]) xs k = dotI row xs k + dotJ row xs k
    rw [dotI_snoc (by omega)]
    unfold dotJ
    rw [List.getElem?_append_left (by omega)]
set_option maxHeartbeats 4000000 in
theorem systemF {w : World} {tb : Addr} {l : Hdr} {L : List Int} {p : Nat} (vars rows most : Nat) (h : Tape w tb l L p) (hp : p ≤ 100000) (hv1 : 1 ≤ vars) (hv2 : vars ≤ 20) (hr : rows ≤ 20) (hm : most ≤ 10000) :
    call Tryz.prog 7 [.pointer (some tb), .int .i64 (vars : Int), .int .i64 (rows : Int), .int .i64 (most : Int)] (.one (.agg [.slice, .slice, .slice])) w (fun (x : Hdr × Hdr × Hdr × Unit) w' =>
      ∃ up T rt p', MadeS up T rt vars rows most ∧ (∀ w2, w'.grownBy w2 (some tb.block) → Sys w2 x.1 x.2.1 x.2.2.1 up T rt) ∧ Tape w' tb l L p' ∧ p' ≤ p + 1000 ∧ w.grownBy w' (some tb.block)) := by
  refine call_of (S7_calls (some tb) vars rows most w _ ?_)
  unfold S7
  have htb := h.box.lt
  refine wr_alloc (z := .agg #[.slice none 0 0, .slice none 0 0, .slice none 0 0]) (by kernel_rfl) fun x1 w2 A h1 hx1 _ => ?_
  refine wr_alloc (z := .agg #[.slice none 0 0, .slice none 0 0, .slice none 0 0]) (by kernel_rfl) fun x3 w4 V h2 hx3 _ => ?_
  replace A : Box w4 x1 nil3 := A.up h2
  replace V : Box w4 x3 nil3 := V
  have l1 := A.lt
  have l3 := V.lt
  have hb4 := h1.trans h2
  have hsz4 : w.heap.size ≤ w4.heap.size := hb4.size
  have n13 : x1.block < x3.block := by have := h1.size; omega
  have hw1 : w.heap.size ≤ x1.block := by omega
  have hw3 : w.heap.size ≤ x3.block := by omega
  refine call_mono (nextF (vars : Int) (h.up hb4) (by omega) ⟨by omega, by omega⟩) ?_
  rintro (x5 : Int) w6 ⟨hx5, ht, hg⟩
  obtain ⟨n, hn⟩ : ∃ n : Nat, 1 + x5 = (n : Int) := ⟨(1 + x5).toNat, by have := hx5.1; omega⟩
  have hn1 : 1 ≤ n := by have := hx5.1; omega
  have hn2 : n ≤ vars := by have := hx5.2; omega
  refine z_eq (m := (n : Int)) (by rw [IntWalk.i64_in _ ⟨by omega, by omega⟩]; exact hn) ?_
  have hf6 : w.grownBy w6 (some tb.block) := (grown_of_bel hb4 _).trans hg
  replace A := A.xg hg (by omega)
  replace V := V.xg hg (by omega)
  -- the bounds
  refine loop_up n (fun i w' => w.grownBy w' (some tb.block) ∧ Box w' x1 nil3 ∧ w4.heap.size ≤ w'.heap.size ∧ ∃ p' uh up, Tape w' tb l L p' ∧ p' ≤ p + 1 + i ∧ Box w' x3 [.slice (uh : Hdr).1 uh.2.1 uh.2.2, .slice none 0 0, .slice none 0 0] ∧ OwnI w' w4.heap.size uh up ∧ up.length = i ∧ ∀ x ∈ up, 0 ≤ x ∧ x ≤ (most : Int))
    ⟨hf6, A, hg.size, p + 1, (none, 0, 0), [], ht, by omega, V, Own.nil _ _ _ _, rfl, by simp⟩ fun i w10 hi ⟨hf, A, hs4, p', uh, up, ht, hp', V, O, hul, hub⟩ again hag _ => ?_
  have hol := O.len
  refine br_dec (fun e => ?_) (fun e => ?_)
  · dsimp only at e
    refine drw_mk fun w11 h11 _ => ?_
    replace A := A.up h11; replace V := V.up h11; replace ht := ht.up h11
    have O : OwnI w11 w4.heap.size uh up := O.kept h11
    replace hf := hf.trans (grown_of_bel h11 _)
    have hs11 : w4.heap.size ≤ w11.heap.size := by have := h11.size; omega
    refine flExC_mk (Xg tb.block) (fun _ _ _ => True) (fun D w' => ∃ q, Tape w' tb l L q ∧ q ≤ p' + (if D 5 = true then 1 else 0)) (fun i _ v w' => (i = 5 → ∃ x, v = .int .i64 x ∧ 0 ≤ x ∧ x ≤ (most : Int)) ∧ (i = 6 → ∃ ad x, v = .slice (some ad) 1 1 ∧ (0 ≤ x ∧ x ≤ (most : Int)) ∧ Sl w' (some ad) 1 1 1 (ints .i64 [x]) ∧ w11.heap.size ≤ ad.block))
      (fun w => grown_refl w _) (fun _ _ _ a b => grown_trans a b) (fun i j ags v w w' _ hΦ hE _ => ⟨hΦ.1, fun e => by
        obtain ⟨ad, x, q1, q2, q3, q4⟩ := hΦ.2 e
        exact ⟨ad, x, q1, q2, q3.xg hE (fun ad' ha _ => by cases ha; omega), q4⟩⟩) ⟨p', ht, by simp⟩ ?_
    refine rdE_box0 (by kernel_rfl) (fun w' hE => V.xg hE.1 (by omega)) rfl rfl ?_
    refine z_i64 (by omega) ?_
    refine flcC_mk (fun D w' hD hE hS _ => ?_) (fun x23 => ?_)
    · obtain ⟨q, hq1, hq2⟩ := hS
      rw [hD] at hq2
      refine call_mono (nextF ((most : Int) + 1) hq1 (by simp at hq2; omega) ⟨by omega, by omega⟩) ?_
      rintro (x : Int) w'' ⟨hx, ht', hg⟩
      exact ⟨hg, trivial, ⟨q + 1, ht', by rw [setD_self]; simp at hq2 ⊢; omega⟩, ⟨fun _ => ⟨x, rfl, hx.1, by have := hx.2; omega⟩, fun e => by omega⟩⟩
    refine flcC_mk (fun D w' hD hE hS hf => ?_) (fun x29 => ?_)
    · obtain ⟨q, hq1, hq2⟩ := hS
      obtain ⟨x', hx', hx2⟩ := hf.1.1 rfl
      injection hx' with _ hx'
      rw [← hx'] at hx2
      refine wr_lit tyI64 #[.int .i64 x23] (fill_one 1 (.int .i64 x23) _ rfl (by simp)) (by omega) (by omega) rfl (by unfold maxLen; omega) fun ad w'' O' hb hbl _ => ?_
      exact ⟨hb.xg _, trivial, ⟨q, hq1.up hb, by rw [setD_ne (by decide)]; exact hq2⟩, ⟨fun e => by omega, fun _ => ⟨ad, x23, rfl, hx2, (O' w'.heap.size (Nat.le_refl _)).sl, by have := hE.size; omega⟩⟩⟩
    refine flendC_mk fun w30 hE hS hfa => ?_
    obtain ⟨q, hq1, hq2⟩ := hS
    obtain ⟨ad, xv, ev, hxv, S, hS11⟩ := hfa.1.2 rfl
    have hq3 : q ≤ p' + 1 := hq2
    simp only [Value.slice.injEq] at ev
    obtain ⟨ev1, ev2, ev3⟩ := ev
    rw [ev1, ev2, ev3]
    have O30 : OwnI w30 w4.heap.size uh up := Own.xg O hE (by omega)
    replace A := A.xg hE (by omega); replace V := V.xg hE (by omega)
    replace hf := hf.trans hE
    refine wr_app tyI64 O30 S (by have := hE.size; omega) rfl (by omega) rfl (by omega) (by unfold maxLen; omega) fun a' c' w33 O33 hg33 _ _ => ?_
    have ho : ∀ k, blk uh.1 = some k → w4.heap.size ≤ k := fun k hk => (O30.lt k hk).1
    have hne1 : some x1.block ≠ blk uh.1 := fun e => by have := ho _ e.symm; omega
    have hne3 : some x3.block ≠ blk uh.1 := fun e => by have := ho _ e.symm; omega
    have htt : Tape w33 tb l L q := ⟨hq1.box.grown hg33 (fun e => by have := ho _ e.symm; omega), hq1.sl.grown hg33 (fun ad ha hx e => by have := hq1.old ad ha (by rintro rfl; exact hx rfl); have := ho _ e.symm; omega), hq1.old, hq1.i64⟩
    refine wu_box (V.grown hg33 hne3) (by kernel_rfl) (show 1 ≤ 3 by omega) rfl fun w34 V' hg34 _ => ?_
    refine z_i64 (by dsimp only; omega) ?_
    refine hag _ (by omega) ⟨xg_put (xg_put hf hg33 fun k hk => .inl (by have := ho k hk; have := hb4.size; omega)) hg34 (fun k hk => .inl (by injection hk; omega)), (A.grown hg33 hne1).xg hg34 (by omega), by have := hg33.size; have := hg34.size; have := hE.size; omega, q, (a', uh.2.1 + 1, c'), up ++ [xv], htt.grown hg34 (by omega), by omega, V', ?_, by simp [hul], ?_⟩
    · have : OwnI w33 w4.heap.size (a', uh.2.1 + 1, c') (up ++ [xv]) := by
        show Own w33 _ _ 1 a' (uh.2.1 + 1) c' (ints .i64 (up ++ [xv]))
        rw [ints_app]; exact O33
      exact Own.xg this hg34 l3
    · intro x hx
      rcases List.mem_append.1 hx with hx | hx
      · exact hub x hx
      · simp at hx; subst hx; exact hxv
  -- all bounds are there
  dsimp only at e
  have hin : i = n := by omega
  subst hin
  clear hag again
  have hol' := O.len
  have SU := O.sl
  have lu : ∀ ad, uh.1 = some ad → ints .i64 up ≠ [] → w4.heap.size ≤ ad.block ∧ ad.block < w10.heap.size := fun ad ha hx => ⟨(O.lt ad.block (by rw [ha]; rfl)).1, SU.lt ad ha hx⟩
  have l10 : w4.heap.size ≤ w10.heap.size := hs4
  refine wr_make tyI64 i rfl rfl (by omega) (by unfold maxLen; omega) fun xd w37 OX h37 hxd _ => ?_
  have OX' : OwnI w37 w10.heap.size (some xd, i, i) (List.replicate i 0) := by
    have := OX w10.heap.size (Nat.le_refl _)
    have hq : (madeCells (Value.int .i64 0).cells (i * 1)).toList = ints .i64 (List.replicate i 0) := by rw [Nat.mul_one]; exact made_int .i64 i
    rw [hq] at this
    exact this
  -- frames from here on: the tape, the system's variable, and what is new
  refine loop_up i (fun j w' => w10.grownBy w' (some tb.block) ∧ ∃ p' xs, Tape w' tb l L p' ∧ p' ≤ p + 1 + i + j ∧ OwnI w' w10.heap.size (some xd, i, i) xs ∧ ∀ x ∈ xs, 0 ≤ x ∧ x ≤ (most : Int))
    ⟨h37.xg _, p', List.replicate i 0, ht.up h37, by omega, OX', fun x hx => by rw [List.eq_of_mem_replicate hx]; omega⟩ fun j w40 hj ⟨hf40, p2, xs, ht, hp2, OX, hxb⟩ again hag _ => ?_
  have hxl := OX.len
  have V40 := V.xg hf40 (by omega)
  have SU40 := SU.xg hf40 (fun ad ha hx => by have := lu ad ha hx; omega)
  refine br_dec (fun e2 => ?_) (fun e2 => ?_)
  · dsimp only at e2
    refine rd_box0 (by kernel_rfl) V40 rfl rfl ?_
    refine at_int tyI64 (by kernel_rfl) SU40 rfl (by omega) fun u hu => ?_
    have hub' := hub u (mem_at hu)
    refine z_i64 (by omega) ?_
    refine call_mono (nextF (u + 1) ht (by omega) ⟨by omega, by omega⟩) ?_
    rintro (x45 : Int) w46 ⟨hx45, ht2, hg46⟩
    have OX46 : OwnI w46 w10.heap.size (some xd, i, i) xs := Own.xg OX hg46 (by omega)
    refine set_mk tyI64 OX46 rfl (show j < i by omega) rfl fun w48 OX48 hg48 _ => ?_
    rw [ints_set] at OX48
    refine z_i64 (by dsimp only; omega) ?_
    have hxd' : w10.heap.size ≤ xd.block := by omega
    refine hag _ (by omega) ⟨xg_put (hf40.trans hg46) hg48 (fun k hk => .inl (by simp [blk] at hk; omega)), p2 + 1, xs.set j x45, Tape.grown (b := xd.block) ht2 hg48 (by omega), by omega, OX48, fun x hx => ?_⟩
    rcases List.mem_or_eq_of_mem_set hx with hx | rfl
    · exact hxb x hx
    · exact ⟨hx45.1, by have := hx45.2; omega⟩
  dsimp only at e2
  clear hag again
  have hji : j = i := by omega
  subst hji
  have SX := OX.sl
  have lx : w10.heap.size ≤ xd.block ∧ xd.block < w40.heap.size := ⟨by omega, (OX.lt xd.block rfl).2⟩
  refine call_mono (nextF 2 ht (by omega) ⟨by omega, by omega⟩) ?_
  rintro (x50 : Int) w51 ⟨_, ht, hg51⟩
  refine z_i64 (by omega) ?_
  refine call_mono (nextF ((rows : Int) + 1) ht (by omega) ⟨by omega, by omega⟩) ?_
  rintro (x53 : Int) w54 ⟨hx53, ht, hg54⟩
  have hf54 := hg51.trans hg54
  have hsz54 := hf54.size
  have hsz40 := hf40.size
  obtain ⟨K, hK⟩ : ∃ K : Nat, x53 = (K : Int) := ⟨x53.toNat, by have := hx53.1; omega⟩
  subst hK
  have hKr : K ≤ rows := by have := hx53.2; omega
  have V54 := V40.xg hf54 (by omega)
  have A54 := (A.xg hf40 (by omega)).xg hf54 (by omega)
  have SU54 := SU40.xg hf54 (fun ad ha hx => by have := lu ad ha hx; omega)
  have SX54 := Sl.xg SX hf54 (fun ad ha _ => by cases ha; omega)
  have hfw54 : w.grownBy w54 (some tb.block) := (hf.trans hf40).trans hf54
  have hA1 : x1.block ≠ tb.block ∧ x1.block ≠ x3.block := ⟨by omega, by omega⟩
  -- what stays while rows are made
  have Kx : ∀ {w' : World}, Xb (fun k => k = tb.block ∨ k = x3.block) w54 w' → Sl w' (some xd) j j 1 (ints .i64 xs) := fun hX => by
    refine ⟨SX54.len, SX54.cap, SX54.most, SX54.nil', fun k u hu => ?_⟩
    obtain ⟨ad, q1, q2, q3⟩ := SX54.at' k u hu
    cases q1
    refine ⟨xd, rfl, ?_, by have := hX.size; omega⟩
    have := hX.block xd.block q3 (by omega)
    unfold World.cell? at q2 ⊢
    rw [add_block] at q2 ⊢
    rw [this]; exact q2
  have Ku : ∀ {w' : World}, Xb (fun k => k = tb.block ∨ k = x3.block) w54 w' → Sl w' uh.1 uh.2.1 uh.2.2 1 (ints .i64 up) := fun hX => by
    refine ⟨SU54.len, SU54.cap, SU54.most, SU54.nil', fun k u hu => ?_⟩
    obtain ⟨ad, q1, q2, q3⟩ := SU54.at' k u hu
    have hne : ints .i64 up ≠ [] := by rintro h0; rw [h0] at hu; simp at hu
    have := lu ad q1 hne
    refine ⟨ad, q1, ?_, by have := hX.size; omega⟩
    have := hX.block ad.block q3 (by omega)
    unfold World.cell? at q2 ⊢
    rw [add_block] at q2 ⊢
    rw [this]; exact q2
  refine loop_gh (G := Nat) (fun m s w' => s = (((K - m : Nat) : Int), ()) ∧ m ≤ K ∧ Xb (fun k => k = tb.block ∨ k = x3.block) w54 w' ∧ Box w' x1 nil3 ∧ ∃ p' rh bh hs T rt, Tape w' tb l L p' ∧ p' ≤ p + 3 + 2 * j + m * (j + 1) ∧
      Box w' x3 [.slice uh.1 uh.2.1 uh.2.2, .slice (rh : Hdr).1 rh.2.1 rh.2.2, .slice (bh : Hdr).1 bh.2.1 bh.2.2] ∧ TabH w' w54.heap.size rh hs ∧ OwnI w' w54.heap.size bh rt ∧ RowsAt w' hs T w54.heap.size (blk rh.1) (blk bh.1) ∧ T.length = m ∧ rt.length = m ∧
      (∀ q ∈ T, q.length = up.length ∧ ∀ x ∈ q, -5 ≤ x ∧ x ≤ 5) ∧ (∀ x ∈ rt, x.natAbs ≤ vars * 50000 + 3)) (fun m => K - m) 0
    ⟨rfl, Nat.zero_le _, Xb.refl _ _, A54, p2 + 1 + 1, (none, 0, 0), (none, 0, 0), [], [], [], ht, by omega, V54, Own.nil _ _ _ _, Own.nil _ _ _ _, ⟨rfl, fun i x q h1 _ => by simp at h1⟩, rfl, rfl, by simp, by simp⟩ ?_
  rintro m s w57 ⟨rfl, hmK, hX, A57, p3, rh, bh, hs, T, rt, ht, hp3, V57, OR, OB, RA, hTl, hrl, hTp, hrp⟩ again hag _
  have hX57 := hX.size
  refine br_dec (fun e3 => ?_) (fun e3 => ?_)
  · dsimp only at e3
    have SX57 := Kx hX
    have hrl0 := OR.len
    have hbl0 := OB.len
    have hhs := RA.1
    have apt : ∀ k, blk rh.1 = some k → blk bh.1 = some k → False := TabH.apart OR OB
    have lR : ∀ k, blk rh.1 = some k → w54.heap.size ≤ k ∧ k < w57.heap.size := fun k hk => OR.lt k hk
    have lB : ∀ k, blk bh.1 = some k → w54.heap.size ≤ k ∧ k < w57.heap.size := fun k hk => OB.lt k hk
    refine join_mk (fun _ w' => Xb (fun k => k = tb.block ∨ k = x3.block) w54 w' ∧ Box w' x1 nil3 ∧ ∃ p' rh bh hs T rt, Tape w' tb l L p' ∧ p' ≤ p + 3 + 2 * j + (m + 1) * (j + 1) ∧
      Box w' x3 [.slice uh.1 uh.2.1 uh.2.2, .slice (rh : Hdr).1 rh.2.1 rh.2.2, .slice (bh : Hdr).1 bh.2.1 bh.2.2] ∧ TabH w' w54.heap.size rh hs ∧ OwnI w' w54.heap.size bh rt ∧ RowsAt w' hs T w54.heap.size (blk rh.1) (blk bh.1) ∧ T.length = m + 1 ∧ rt.length = m + 1 ∧
      (∀ q ∈ T, q.length = up.length ∧ ∀ x ∈ q, -5 ≤ x ∧ x ≤ 5) ∧ (∀ x ∈ rt, x.natAbs ≤ vars * 50000 + 3)) (fun K' hK' => ?_) (fun _ w60 hJ _ => ?_)
    · refine loop_gh (G := Nat) (fun i s w' => ∃ (a : Hdr) (row : List Int) (p' : Nat), s = (a, dotI row xs i, ((i : Nat) : Int), ()) ∧ i ≤ j ∧ w57.grownBy w' (some tb.block) ∧ Tape w' tb l L p' ∧ p' ≤ p3 + i ∧ OwnI w' w57.heap.size a row ∧ row.length = i ∧ (∀ x ∈ row, -5 ≤ x ∧ x ≤ 5) ∧ (dotI row xs i).natAbs ≤ i * 50000) (fun i => j - i) 0
        ⟨(none, 0, 0), [], p3, rfl, Nat.zero_le _, grown_refl _ _, ht, by omega, Own.nil _ _ _ _, rfl, by simp, by simp [dotI]⟩ ?_
      rintro i s w64 ⟨a, row, p4, rfl, hij, hf57, ht, hp4, OA, hrow, hrb, hsum⟩ again2 hag2 _
      have hal := OA.len
      have hs64 := hf57.size
      refine br_dec (fun e4 => ?_) (fun e4 => ?_)
      · dsimp only at e4
        refine call_mono (nextF 11 ht (by have : m * (j + 1) ≤ 20 * 21 := Nat.mul_le_mul (by omega) (by omega); omega) ⟨by omega, by omega⟩) ?_
        rintro (x65 : Int) w66 ⟨hx65, ht, hg66⟩
        refine z_i64 (by omega) ?_
        have OA66 : OwnI w66 w57.heap.size a row := Own.xg OA hg66 (by omega)
        refine wr_app1 tyI64 OA66 (by have := hg66.size; omega) rfl (by omega) (by omega) rfl rfl (by omega) (by unfold maxLen; omega) fun a' c' w71 O71 hg71 _ _ => ?_
        have hoA : ∀ k, blk a.1 = some k → w57.heap.size ≤ k := fun k hk => (OA66.lt k hk).1
        have SX66 := Sl.xg (Sl.xg SX57 hf57 (fun ad ha _ => by cases ha; omega)) hg66 (fun ad ha _ => by cases ha; omega)
        have SX71 := Sl.grown SX66 hg71 (fun ad ha _ e => by cases ha; have := hoA _ e.symm; omega)
        refine at_int tyI64 (by kernel_rfl) SX71 rfl (by omega) fun xv hxv => ?_
        have bx := hxb xv (mem_at hxv)
        have hc : (row ++ [x65 - 5])[i]? = some (x65 - 5) := by rw [List.getElem?_append_right (by omega), hrow, Nat.sub_self]; rfl
        have st : dotI (row ++ [x65 - 5]) xs (i + 1) = dotI row xs i + (x65 - 5) * xv := by rw [dotI_step hc hxv, dotI_snoc (by omega)]
        have bp : ((x65 - 5) * xv).natAbs ≤ 50000 := by
          rw [Int.natAbs_mul]
          exact Nat.le_trans (Nat.mul_le_mul (show (x65 - 5).natAbs ≤ 5 by omega) (show xv.natAbs ≤ 10000 by omega)) (by omega)
        have bs : (dotI (row ++ [x65 - 5]) xs (i + 1)).natAbs ≤ (i + 1) * 50000 := by rw [st]; omega
        refine z_i64 (by omega) ?_
        refine z_i64 (by dsimp only; omega) ?_
        refine z_i64 (by dsimp only; omega) ?_
        have htt : Tape w71 tb l L (p4 + 1) := ⟨ht.box.grown hg71 (fun e => by have := hoA _ e.symm; omega), ht.sl.grown hg71 (fun ad ha hx e => by have := ht.old ad ha (by rintro rfl; exact hx rfl); have := hoA _ e.symm; omega), ht.old, ht.i64⟩
        refine hag2 (i + 1) _ _ ⟨(a', i + 1, c'), row ++ [x65 - 5], p4 + 1, ?_, by omega, xg_put (hf57.trans hg66) hg71 (fun k hk => .inl (hoA k hk)), htt, by omega, ?_, by simp [hrow], fun x hx => ?_, bs⟩ (by omega)
        · rw [st]
          have : a.2.1 = i := by omega
          rw [this]; rfl
        · show Own w71 _ _ 1 a' (i + 1) c' (ints .i64 (row ++ [x65 - 5]))
          have : a.2.1 = i := by omega
          rw [ints_app, ← this]; exact O71
        · rcases List.mem_append.1 hx with hx | hx
          · exact hrb x hx
          · simp at hx; subst hx; omega
      dsimp only at e4
      have hij' : i = j := by omega
      subst hij'
      have bmul : m * (i + 1) ≤ 20 * 21 := Nat.mul_le_mul (by omega) (by omega)
      have bi : i * 50000 ≤ vars * 50000 := Nat.mul_le_mul (by omega) (Nat.le_refl _)
      refine join_mk (fun s w' => s.1.natAbs ≤ vars * 50000 + 3 ∧ w57.grownBy w' (some tb.block) ∧ OwnI w' w57.heap.size a row ∧ ∃ p', Tape w' tb l L p' ∧ p' ≤ p3 + i + 1) (fun K'' hK'' => ?_) (fun s w79 hh _ => ?_)
      · refine br_not (fun _ => ?_) (fun _ => hK'' _ _ ⟨Nat.le_trans hsum (Nat.le_trans bi (Nat.le_add_right _ _)), hf57, OA, p4, ht, by omega⟩)
        refine call_mono (nextF 7 ht (by omega) ⟨by omega, by omega⟩) ?_
        rintro (x115 : Int) w116 ⟨hx115, ht, hg116⟩
        refine z_i64 (by omega) ?_
        refine z_i64 (by dsimp only; omega) ?_
        exact hK'' _ _ ⟨by dsimp only; omega, hf57.trans hg116, Own.xg OA hg116 (by omega), p4 + 1, ht, by omega⟩
      obtain ⟨sv, _⟩ := s
      obtain ⟨hsv, hf79, OA, p5, ht, hp5⟩ := hh
      dsimp only at hsv
      have hs79 := hf79.size
      refine drw_mk fun w80 h80 _ => ?_
      replace ht := ht.up h80
      have hf80 : w57.grownBy w80 (some tb.block) := hf79.trans (grown_of_bel h80 _)
      have hs80 := hf80.size
      have OR80 : TabH w80 w54.heap.size rh hs := Own.xg OR hf80 (by omega)
      have OB80 : OwnI w80 w54.heap.size bh rt := Own.xg OB hf80 (by omega)
      have OA80 : OwnI w80 w57.heap.size a row := Own.kept OA h80
      have V80 := V57.xg hf80 (by omega)
      have nx3 : ¬ (blk rh.1 = some x3.block ∨ blk bh.1 = some x3.block) := by rintro (q | q); have := lR _ q; omega; have := lB _ q; omega
      have blB : ∀ {k w'}, blk rh.1 = some k ∨ blk bh.1 = some k → w80.heap.size ≤ w'.heap.size → k < (w' : World).heap.size := by
        rintro k w' (q | q) h
        · have := lR _ q; omega
        · have := lB _ q; omega
      refine flExC_mk (Xb (fun k => blk rh.1 = some k ∨ blk bh.1 = some k)) (fun jj w w' => (jj = 4 → w.grownBy w' (blk rh.1)) ∧ (jj = 9 → w.grownBy w' (blk bh.1)) ∧ (jj ≠ 4 → jj ≠ 9 → bel w w'))
        (fun D w' => (D 4 = false → TabH w' w54.heap.size rh hs) ∧ (D 9 = false → OwnI w' w54.heap.size bh rt))
        (fun i _ v w' => (i = 3 → ∃ ad, v = .slice (some ad) 1 1 ∧ Sl w' (some ad) 1 1 1 [hv a] ∧ w80.heap.size ≤ ad.block) ∧ (i = 8 → ∃ ad, v = .slice (some ad) 1 1 ∧ Sl w' (some ad) 1 1 1 (ints .i64 [sv]) ∧ w80.heap.size ≤ ad.block) ∧
          (i = 4 → ∃ a' c', v = .slice a' (rh.2.1 + 1) c' ∧ TabH w' w54.heap.size (a', rh.2.1 + 1, c') (hs ++ [a]) ∧ (blk a' = blk rh.1 ∨ ∀ k, blk a' = some k → w80.heap.size ≤ k)) ∧
          (i = 9 → ∃ a' c', v = .slice a' (bh.2.1 + 1) c' ∧ OwnI w' w54.heap.size (a', bh.2.1 + 1, c') (rt ++ [sv]) ∧ (blk a' = blk bh.1 ∨ ∀ k, blk a' = some k → w80.heap.size ≤ k)))
        (fun w => Xb.refl _ w) (fun _ _ _ x y => Xb.trans x y) (fun i jj ags v w w' hne hΦ hE hG => ⟨fun e => ?_, fun e => ?_, fun e => ?_, fun e => ?_⟩) ⟨fun _ => OR80, fun _ => OB80⟩ ?_
      · obtain ⟨ad, q1, q2, q3⟩ := hΦ.1 e
        exact ⟨ad, q1, q2.xb hE (fun ad' ha _ q => by cases ha; have := blB q (Nat.le_refl _); omega), q3⟩
      · obtain ⟨ad, q1, q2, q3⟩ := hΦ.2.1 e
        exact ⟨ad, q1, q2.xb hE (fun ad' ha _ q => by cases ha; have := blB q (Nat.le_refl _); omega), q3⟩
      · obtain ⟨a', c', q1, q2, q3⟩ := hΦ.2.2.1 e
        refine ⟨a', c', q1, ?_, q3⟩
        by_cases hj9 : jj = 9
        · refine Own.keptBy q2 (hG.2.1 hj9) ?_
          cases hk : blk a' with
          | none => exact .inl rfl
          | some k =>
            refine .inr fun q => ?_
            rcases q3 with q3 | q3
            · exact apt k (by rw [← q3, hk]) q.symm
            · have := q3 k hk; have := lB k q.symm; omega
        · exact Own.kept q2 (hG.2.2 (fun q => hne (e.trans q.symm)) hj9)
      · obtain ⟨a', c', q1, q2, q3⟩ := hΦ.2.2.2 e
        refine ⟨a', c', q1, ?_, q3⟩
        by_cases hj4 : jj = 4
        · refine Own.keptBy q2 (hG.1 hj4) ?_
          cases hk : blk a' with
          | none => exact .inl rfl
          | some k =>
            refine .inr fun q => ?_
            rcases q3 with q3 | q3
            · exact apt k q.symm (by rw [← q3, hk])
            · have := q3 k hk; have := lR k q.symm; omega
        · exact Own.kept q2 (hG.2.2 hj4 (fun q => hne (e.trans q.symm)))
      have xbel : ∀ {w w' : World}, bel w w' → Xb (fun k => blk rh.1 = some k ∨ blk bh.1 = some k) w w' := fun hb => Xb.of (grown_of_bel hb none) (fun k hk => by cases hk)
      refine rdE_box (by kernel_rfl) (fun w' hE => V80.xb hE.1 nx3) (i := 1) rfl rfl ?_
      refine flcC_mk (fun D w' hD hE hS _ => ?_) (fun (x91 : Hdr) => ?_)
      · refine wr_lit tyTab #[.slice a.1 a.2.1 a.2.2] (fill_one 1 (.slice a.1 a.2.1 a.2.2) _ rfl (by simp)) (by omega) (by omega) rfl (by unfold maxLen; omega) fun ad w'' O' hb hbl _ => ?_
        exact ⟨xbel hb, ⟨fun e => by omega, fun e => by omega, fun _ _ => hb⟩, ⟨fun q => Own.kept (hS.1 (by rw [setD_ne (by decide)] at q; exact q)) hb, fun q => Own.kept (hS.2 (by rw [setD_ne (by decide)] at q; exact q)) hb⟩, ⟨fun _ => ⟨ad, rfl, (O' w'.heap.size (Nat.le_refl _)).sl, by have := hE.size; omega⟩, fun e => by omega, fun e => by omega, fun e => by omega⟩⟩
      refine flcC_mk (fun D w' hD hE hS hf => ?_) (fun (x97 : Hdr) => ?_)
      · obtain ⟨ad, ev, S, hS80⟩ := hf.1.1 rfl
        simp only [Value.slice.injEq] at ev
        obtain ⟨ev1, ev2, ev3⟩ := ev
        rw [ev1, ev2, ev3]
        have OR' := hS.1 hD
        refine wr_app tyTab OR' S (by have := hE.size; omega) rfl (by omega) rfl (by omega) (by unfold maxLen; omega) fun a' c' w'' O' hg hnew _ => ?_
        refine ⟨Xb.of hg (fun k hk => .inl hk), ⟨fun _ => hg, fun e => by omega, fun e => absurd rfl e⟩, ⟨(fun q => by rw [setD_self] at q; cases q), fun q => Own.keptBy (hS.2 (by rw [setD_ne (by decide)] at q; exact q)) hg ?_⟩, ⟨fun e => by omega, fun e => by omega, fun _ => ⟨a', c', rfl, ?_, ?_⟩, fun e => by omega⟩⟩
        · cases hk : blk bh.1 with
          | none => exact .inl rfl
          | some k => exact .inr fun q => apt k q.symm hk
        · show Own w'' _ _ 1 a' (rh.2.1 + 1) c' ((hs ++ [a]).map hv)
          rw [List.map_append]; exact O'
        · rcases hnew with q | q
          · exact .inl q
          · exact .inr fun k hk => by have := q k hk; have := hE.size; omega
      refine rdE_box (by kernel_rfl) (fun w' hE => V80.xb hE.1 nx3) (i := 2) rfl rfl ?_
      refine flcC_mk (fun D w' hD hE hS _ => ?_) (fun (x104 : Hdr) => ?_)
      · refine wr_lit tyI64 #[.int .i64 sv] (fill_one 1 (.int .i64 sv) _ rfl (by simp)) (by omega) (by omega) rfl (by unfold maxLen; omega) fun ad w'' O' hb hbl _ => ?_
        exact ⟨xbel hb, ⟨fun e => by omega, fun e => by omega, fun _ _ => hb⟩, ⟨fun q => Own.kept (hS.1 (by rw [setD_ne (by decide)] at q; exact q)) hb, fun q => Own.kept (hS.2 (by rw [setD_ne (by decide)] at q; exact q)) hb⟩, ⟨fun e => by omega, fun _ => ⟨ad, rfl, (O' w'.heap.size (Nat.le_refl _)).sl, by have := hE.size; omega⟩, fun e => by omega, fun e => by omega⟩⟩
      refine flcC_mk (fun D w' hD hE hS hf => ?_) (fun (x110 : Hdr) => ?_)
      · obtain ⟨ad, ev, S, hS80⟩ := hf.1.2.1 rfl
        simp only [Value.slice.injEq] at ev
        obtain ⟨ev1, ev2, ev3⟩ := ev
        rw [ev1, ev2, ev3]
        have OB' := hS.2 hD
        refine wr_app tyI64 OB' S (by have := hE.size; omega) rfl (by omega) rfl (by omega) (by unfold maxLen; omega) fun a' c' w'' O' hg hnew _ => ?_
        refine ⟨Xb.of hg (fun k hk => .inr hk), ⟨fun e => by omega, fun _ => hg, fun _ e => absurd rfl e⟩, ⟨fun q => Own.keptBy (hS.1 (by rw [setD_ne (by decide)] at q; exact q)) hg ?_, (fun q => by rw [setD_self] at q; cases q)⟩, ⟨fun e => by omega, fun e => by omega, fun e => by omega, fun _ => ⟨a', c', rfl, ?_, ?_⟩⟩⟩
        · cases hk : blk rh.1 with
          | none => exact .inl rfl
          | some k => exact .inr fun q => apt k hk q.symm
        · show Own w'' _ _ 1 a' (bh.2.1 + 1) c' (ints .i64 (rt ++ [sv]))
          rw [ints_app]; exact O'
        · rcases hnew with q | q
          · exact .inl q
          · exact .inr fun k hk => by have := q k hk; have := hE.size; omega
      refine flendC_mk fun w111 hE hS hfa => ?_
      obtain ⟨f9, _, f4, _⟩ := hfa
      obtain ⟨b1, d1, ev, OB1, hb1⟩ := f9.2.2.2 rfl
      have e9 : x110 = (b1, bh.2.1 + 1, d1) := sl_inj ev
      obtain ⟨a1, c1, ev, OR1, ha1⟩ := f4.2.2.1 rfl
      have e4' : x97 = (a1, rh.2.1 + 1, c1) := sl_inj ev
      subst e9 e4'
      have hs111 := hE.size
      have V111 := V80.xb hE nx3
      have ht111 := ht.xb hE (by rintro k (q | q); have := lR _ q; omega; have := lB _ q; omega)
      have A111 := (A57.xg hf80 (by omega)).xb hE (by rintro (q | q); have := lR _ q; omega; have := lB _ q; omega)
      have RA80 := RA.grown hf80 (.inl fun k hk => by injection hk; omega)
      have RA111 := RA80.xb hE (fun k q => q)
      have SA := OA80.sl
      have lA : ∀ ad, a.1 = some ad → w57.heap.size ≤ ad.block ∧ ad.block < w80.heap.size := fun ad ha => OA80.lt ad.block (by rw [ha]; rfl)
      have SA111 := SA.xb hE (fun ad ha _ q => by
        rcases q with q | q
        · have := lR _ q; have := lA ad ha; omega
        · have := lB _ q; have := lA ad ha; omega)
      have RA2 : RowsAt w111 (hs ++ [a]) (T ++ [row]) w54.heap.size (blk a1) (blk b1) := by
        refine ⟨by simp [hhs], fun k x q g1 g2 => ?_⟩
        have off : ∀ ad : Addr, w54.heap.size ≤ ad.block → ad.block < w80.heap.size → some ad.block ≠ blk rh.1 → some ad.block ≠ blk bh.1 → some ad.block ≠ blk a1 ∧ some ad.block ≠ blk b1 := by
          intro ad q1 q2 q3 q4
          constructor
          · intro e
            rcases ha1 with r | r
            · exact q3 (e.trans r)
            · have := r _ e.symm; omega
          · intro e
            rcases hb1 with r | r
            · exact q4 (e.trans r)
            · have := r _ e.symm; omega
        rcases Nat.lt_or_ge k hs.length with r | r
        · rw [List.getElem?_append_left r] at g1
          rw [List.getElem?_append_left (by omega)] at g2
          obtain ⟨s1, s2⟩ := RA111.2 k x q g1 g2
          obtain ⟨_, s3⟩ := RA80.2 k x q g1 g2
          refine ⟨s1, fun ad ha => ?_⟩
          obtain ⟨r1, r2, r3, r4⟩ := s3 ad ha
          obtain ⟨o1, o2⟩ := off ad r1 r2 r3 r4
          exact ⟨r1, by omega, o1, o2⟩
        · rw [List.getElem?_append_right r] at g1
          rw [List.getElem?_append_right (by omega)] at g2
          have hk0 : k - hs.length = 0 := by
            rcases Nat.eq_zero_or_pos (k - hs.length) with z | z
            · exact z
            · rw [List.getElem?_eq_none (by simp; omega)] at g1; cases g1
          rw [hk0] at g1
          rw [show k - T.length = 0 by omega] at g2
          cases g1; cases g2
          refine ⟨SA111, fun ad ha => ?_⟩
          have := lA ad ha
          obtain ⟨o1, o2⟩ := off ad (by omega) (by omega) (fun e => by have := lR _ e.symm; omega) (fun e => by have := lB _ e.symm; omega)
          exact ⟨by omega, by omega, o1, o2⟩
      refine wu_boxi V111 (by kernel_rfl) (show 1 < 3 by omega) rfl fun w113 V113 hg113 _ => ?_
      refine wu_boxi V113 (by kernel_rfl) (show 2 < 3 by omega) rfl fun w114 V114 hg114 _ => ?_
      have hg2 : w111.grownBy w114 (some x3.block) := hg113.trans hg114
      refine hK' _ _ ⟨?_, A111.xg hg2 (by omega), p5, (a1, rh.2.1 + 1, c1), (b1, bh.2.1 + 1, d1), hs ++ [a], T ++ [row], rt ++ [sv], ht111.grown hg2 (by omega), ?_, V114, Own.xg OR1 hg2 (by omega), Own.xg OB1 hg2 (by omega), RA2.grown hg2 (.inl fun k hk => by injection hk; omega), by simp [hTl], by simp [hrl], ?_, ?_⟩
      · refine ((hX.more (Xb.of (S := fun k => k = tb.block) hf80 (fun k hk => by injection hk with hk; exact hk.symm)) (fun k q => .inl (.inl q))).more hE (fun k q => .inr ?_)).more (Xb.of (S := fun k => k = x3.block) hg2 (fun k hk => by injection hk with hk; exact hk.symm)) (fun k q => .inl (.inr q))
        rcases q with q | q
        · exact (lR k q).1
        · exact (lB k q).1
      · have : (m + 1) * (i + 1) = m * (i + 1) + (i + 1) := by rw [Nat.add_mul, Nat.one_mul]
        omega
      · intro q hq
        rcases List.mem_append.1 hq with hq | hq
        · exact hTp q hq
        · simp at hq; subst hq; exact ⟨by omega, hrb⟩
      · intro x hx
        rcases List.mem_append.1 hx with hx | hx
        · exact hrp x hx
        · simp at hx; subst hx; exact hsv
    · obtain ⟨g1, g2, g3⟩ := hJ
      refine z_i64 (by dsimp only; omega) ?_
      refine hag (m + 1) _ _ ⟨?_, by omega, g1, g2, g3⟩ (by omega)
      have : (((K - m : Nat) : Int) - 1) = ((K - (m + 1) : Nat) : Int) := by omega
      rw [this]
  · dsimp only at e3
    have hmK' : m = K := by omega
    subst hmK'
    refine rd_boxN V57 (by kernel_rfl) rfl ?_
    refine wu_box A57 (by kernel_rfl) (Nat.le_refl 3) rfl fun w108 A108 hg108 _ => ?_
    have hhl := OR.len
    refine rd_boxV A108 (by kernel_rfl) rfl ⟨((uh, rh, bh, ()) : Hdr × Hdr × Hdr × Unit), rfl, up, T, rt, p3, ⟨by omega, by omega, by omega, by omega, hTp, hub, hrp⟩, fun w2 hg2 => ⟨?_, ?_, ?_⟩, ht.grown hg108 (by omega), ?_, ?_⟩
    · exact Sl.xg (Sl.xg (Ku hX) hg108 (fun ad ha hx => by have := lu ad ha hx; omega)) hg2 (fun ad ha hx => by have := lu ad ha hx; omega)
    · have OR2 := Own.xg (Own.xg OR hg108 (by omega)) hg2 (by omega)
      have RA2 := (RA.grown hg108 (.inl fun k hk => by injection hk; omega)).grown hg2 (.inl fun k hk => by injection hk; omega)
      exact ⟨hs, OR2.sl, RA2.1, fun i x q h1 h2 => (RA2.2 i x q h1 h2).1⟩
    · exact Own.sl (Own.xg (Own.xg OB hg108 (by omega)) hg2 (by omega))
    · have : m * (j + 1) ≤ 20 * 21 := Nat.mul_le_mul (by omega) (by omega)
      omega
    · refine xg_put (o := some x1.block) ?_ hg108 (fun k hk => .inl (by injection hk; omega))
      exact ⟨hX.os.trans hfw54.os, hX.tape.trans hfw54.tape, hX.output.trans hfw54.output, by have := hfw54.size; omega, fun k hk hne => by
        rw [hX.block k (by have := hfw54.size; omega) (by rintro (q | q); exact hne (by rw [q]); omega), hfw54.block k hk hne]⟩
end Go.Proofs.YtajpdnphamomjaaGreat

/- The walk of LinearCombines. -/

namespace Go.Proofs.YtajpdnphamomjaaGreat
open Go.RowKit Go.Q Go.Q.Num Go.V

theorem tyFracTab : TyS Tryz.prog 95 32 (.slice none 0 0) 1 24 := ⟨by kernel_rfl, by kernel_rfl⟩
theorem tape_new {w w' : World} {tb : Addr} {l : Hdr} {L : List Int} (S : Sl w l.1 l.2.1 l.2.2 1 (ints .i64 L)) (hI : ∀ x ∈ L, I64 x) (X : Box w' tb [.slice l.1 l.2.1 l.2.2, .int .i64 0]) (hb : bel w w') (hn : tb.block = w.heap.size) : Tape w' tb l L 0 :=
  ⟨X, S.up hb, fun ad ha hx => by have := S.lt ad ha (by intro e; cases L with | nil => exact hx rfl | cons x L => cases e); omega, hI⟩
abbrev OwnF (w : World) (B : Nat) (h : Hdr) (M : List (Int × Int)) : Prop := Own w B 60 2 h.1 h.2.1 h.2.2 (M.flatMap encF)
set_option maxRecDepth 100000 in
theorem argTape {w : World} {v : Value} (h : Go.Q.Arg Tryz.prog w 22 v) : ∃ x xs, v = hv x ∧ Sl w x.1 x.2.1 x.2.2 1 (ints .i64 xs) ∧ ∀ n ∈ xs, I64 n := by
  obtain ⟨a, n, c, rfl, h⟩ := Go.V.Arg.slice Tryz.underlying22 h
  obtain ⟨a1, n1, c1, xs, q1, _, s1, b1⟩ := Go.V.Read.ints Tryz.underlying22 Tryz.underlying3 (by kernel_rfl) h
  cases q1
  exact ⟨(a, n, c), xs, rfl, s1, fun x hx => bounds_i64 (b1 x hx)⟩
end Go.Proofs.YtajpdnphamomjaaGreat

/- The tableau in memory. -/




namespace Go.Proofs.YtajpdnphamomjaaGreat
open Go.RowKit Go.Q Go.Q.Num Go.V

abbrev encQ (r : Rat) : List Value := [.int .i64 r.num, .int .i64 ((r.den : Nat) : Int)]
theorem encQ_len (r : Rat) : (encQ r).length = 2 := rfl
theorem atQ {w : World} {a : Option Addr} {n c j : Nat} {L : List Rat} {r : Rat} {K : Int × Int × Unit → Prop} (H : Sl w a n c 2 (L.flatMap encQ)) {i : Int} (hj : i = (j : Int)) (hp : L[j]? = some r) (hk : K (qv r)) :
    rdp Tryz.prog (Instr.indexAt 32 (.slice a n c) (.int .i64 i)) (.one .addr) fun ad => rd Tryz.prog (Instr.loadAt 60 (.pointer (some ad))) (.agg [.int .i64, .int .i64]) w K :=
  at_agg tyFracs agFrac encQ_len (by omega) H hj hp rfl hk
theorem slQ_len {w : World} {a : Option Addr} {n c : Nat} {L : List Rat} (H : Sl w a n c 2 (L.flatMap encQ)) : L.length = n := by
  have := H.len
  rw [flat_len encQ_len] at this
  omega
theorem cmpQ {r s : Rat} (w : World) (hr : Fits r) (hs : Fits s) : call Tryz.prog 91 [fracv r.num r.den, fracv s.num s.den] (.one (.one (.int .i64))) w (fun x w' => x = cmpq r s ∧ bel w w') :=
  call_mono (compF' _ _ _ _ w (i64_fits hr) (i64_fits hs)) fun x w' ⟨h, hb⟩ => ⟨by rw [h]; unfold compv; rw [if_pos ⟨frac_fits hr, frac_fits hs⟩]; rfl, hb⟩

/-! ### a family of slices of numbers, all apart -/
abbrev OwnQ (w : World) (B : Nat) (h : Hdr) (L : List Rat) : Prop := Own w B 60 2 h.1 h.2.1 h.2.2 (L.flatMap encQ)
structure FS (w : World) (B : Nat) (hs : List Hdr) (Ls : List (List Rat)) : Prop where
  len : hs.length = Ls.length
  own : ∀ (i : Nat) h L, hs[i]? = some h → Ls[i]? = some L → OwnQ w B h L
  ap : ∀ (i j : Nat) h g k, i ≠ j → hs[i]? = some h → hs[j]? = some g → blk h.1 = some k → blk g.1 = some k → False
theorem FS.get {w : World} {B : Nat} {hs : List Hdr} {Ls : List (List Rat)} (F : FS w B hs Ls) {i : Nat} {L : List Rat} (h : Ls[i]? = some L) : ∃ g, hs[i]? = some g ∧ OwnQ w B g L := by
  have hi := (List.getElem?_eq_some_iff.1 h).1
  have := F.len
  have e : hs[i]? = some hs[i] := by simp
  exact ⟨_, e, F.own i _ _ e h⟩
theorem FS.keep {w w' : World} {B : Nat} {hs : List Hdr} {Ls : List (List Rat)} {o : Option Nat} (F : FS w B hs Ls) (hg : w.grownBy w' o) (ho : ∀ (i : Nat) h k, hs[i]? = some h → blk h.1 = some k → o ≠ some k) : FS w' B hs Ls :=
  ⟨F.len, fun i h L e1 e2 => (F.own i h L e1 e2).keptBy hg (by
    cases hb : blk h.1 with
    | none => exact .inl rfl
    | some k => exact .inr fun e => ho i h k e1 hb e.symm), F.ap⟩
theorem FS.up {w w' : World} {B : Nat} {hs : List Hdr} {Ls : List (List Rat)} (F : FS w B hs Ls) (hb : bel w w') : FS w' B hs Ls := F.keep (grown_of_bel hb none) fun _ _ _ _ _ e => by cases e
theorem FS.old {w w' : World} {B b : Nat} {hs : List Hdr} {Ls : List (List Rat)} (F : FS w B hs Ls) (hg : w.grownBy w' (some b)) (hb : b < B) : FS w' B hs Ls := F.keep hg fun i h k e1 e2 e => by
  injection e with e; subst e
  have hi := (List.getElem?_eq_some_iff.1 e1).1
  have := (F.own i h _ e1 (by rw [List.getElem?_eq_getElem (by rw [← F.len]; exact hi)])).lt _ e2
  omega
theorem FS.sort {w w' : World} {B B' : Nat} {hs : List Hdr} {Ls : List (List Rat)} {e : TypeId} {sz n c : Nat} {a : Option Addr} {xs : List Value} (F : FS w B hs Ls) (O : Own w B' e sz a n c xs) (he : e ≠ 60) (hg : w.grownBy w' (blk a)) : FS w' B hs Ls := F.keep hg fun i h k e1 e2 e3 => by
  have hi := (List.getElem?_eq_some_iff.1 e1).1
  exact Own.apart O (F.own i h _ e1 (by rw [List.getElem?_eq_getElem (by rw [← F.len]; exact hi)])) he k e3 e2
theorem FS.put {w w' : World} {B : Nat} {hs : List Hdr} {Ls : List (List Rat)} {i : Nat} {h : Hdr} {L : List Rat} (F : FS w B hs Ls) (hi : hs[i]? = some h) (O : OwnQ w' B h L) (hg : w.grownBy w' (blk h.1)) : FS w' B hs (Ls.set i L) := by
  have hlt := (List.getElem?_eq_some_iff.1 hi).1
  refine ⟨by rw [List.length_set]; exact F.len, fun j g K e1 e2 => ?_, F.ap⟩
  by_cases hij : i = j
  · subst hij
    rw [List.getElem?_set_self (by rw [← F.len]; exact hlt)] at e2
    rw [hi] at e1
    cases e1; cases e2; exact O
  · rw [List.getElem?_set_ne hij] at e2
    refine (F.own j g K e1 e2).keptBy hg ?_
    cases hb : blk g.1 with
    | none => exact .inl rfl
    | some k => exact .inr fun e => F.ap i j h g k hij hi e1 e.symm hb

/-! ### the tableau -/
structure Tb where
  low : List Rat
  high : List Rat
  val : List Rat
  bas : List Nat
  rows : List (List Rat)
def Tb.lo (T : Tb) (j : Nat) : Rat := T.low.getD j 0
def Tb.hi (T : Tb) (j : Nat) : Rat := T.high.getD j 0
def Tb.v (T : Tb) (j : Nat) : Rat := T.val.getD j 0
def Tb.b (T : Tb) (i : Nat) : Nat := T.bas.getD i 0
def Tb.a (T : Tb) (i j : Nat) : Rat := (T.rows.getD i []).getD j 0
structure TbOk (N M : Nat) (T : Tb) : Prop where
  ll : T.low.length = N
  lh : T.high.length = N
  lv : T.val.length = N
  lb : T.bas.length = M
  lr : T.rows.length = M
  row : ∀ r ∈ T.rows, r.length = N
  blt : ∀ b ∈ T.bas, b < N
  fl : ∀ x ∈ T.low, Fits x
  fh : ∀ x ∈ T.high, Fits x
  fv : ∀ x ∈ T.val, Fits x
  fr : ∀ r ∈ T.rows, ∀ x ∈ r, Fits x
  sN : N ≤ 1000
  sM : M ≤ 1000
structure TH where
  l : Hdr
  h : Hdr
  v : Hdr
  b : Hdr
  r : Hdr
  s : List Hdr
abbrev tcells (H : TH) (p : Int) : List Value := [.slice H.l.1 H.l.2.1 H.l.2.2, .slice H.h.1 H.h.2.1 H.h.2.2, .slice H.v.1 H.v.2.1 H.v.2.2, .slice H.b.1 H.b.2.1 H.b.2.2, .slice H.r.1 H.r.2.1 H.r.2.2, .int .i64 p]
abbrev natv (l : List Nat) : List Value := ints .i64 (l.map fun (b : Nat) => (b : Int))
structure TabAt (w : World) (t : Addr) (H : TH) (p : Int) (T : Tb) : Prop where
  box : Box w t (tcells H p)
  fs : FS w (t.block + 1) (H.l :: H.h :: H.v :: H.s) (T.low :: T.high :: T.val :: T.rows)
  bs : Own w (t.block + 1) 3 1 H.b.1 H.b.2.1 H.b.2.2 (natv T.bas)
  rs : Own w (t.block + 1) 32 1 H.r.1 H.r.2.1 H.r.2.2 (H.s.map hv)
theorem TabAt.up {w w' : World} {t : Addr} {H : TH} {p : Int} {T : Tb} (A : TabAt w t H p T) (hb : bel w w') : TabAt w' t H p T := ⟨A.box.up hb, A.fs.up hb, A.bs.kept hb, A.rs.kept hb⟩

section
variable {w : World} {t : Addr} {H : TH} {p : Int} {T : Tb} {N M : Nat}
theorem TbOk.val_get (ok : TbOk N M T) {j : Nat} (hj : j < N) : T.val[j]? = some (T.v j) := by
  unfold Tb.v; rw [List.getD_eq_getElem?_getD, List.getElem?_eq_getElem (by rw [ok.lv]; exact hj)]; rfl
theorem TbOk.low_get (ok : TbOk N M T) {j : Nat} (hj : j < N) : T.low[j]? = some (T.lo j) := by
  unfold Tb.lo; rw [List.getD_eq_getElem?_getD, List.getElem?_eq_getElem (by rw [ok.ll]; exact hj)]; rfl
theorem TbOk.high_get (ok : TbOk N M T) {j : Nat} (hj : j < N) : T.high[j]? = some (T.hi j) := by
  unfold Tb.hi; rw [List.getD_eq_getElem?_getD, List.getElem?_eq_getElem (by rw [ok.lh]; exact hj)]; rfl
theorem TbOk.bas_get (ok : TbOk N M T) {i : Nat} (hi : i < M) : T.bas[i]? = some (T.b i) := by
  unfold Tb.b; rw [List.getD_eq_getElem?_getD, List.getElem?_eq_getElem (by rw [ok.lb]; exact hi)]; rfl
theorem TbOk.row_get (ok : TbOk N M T) {i : Nat} (hi : i < M) : T.rows[i]? = some (T.rows.getD i []) := by
  rw [List.getD_eq_getElem?_getD, List.getElem?_eq_getElem (by rw [ok.lr]; exact hi)]; rfl
theorem TbOk.row_len (ok : TbOk N M T) {i : Nat} (hi : i < M) : (T.rows.getD i []).length = N := ok.row _ (mem_at (ok.row_get hi))
theorem TbOk.el_get (ok : TbOk N M T) {i j : Nat} (hi : i < M) (hj : j < N) : (T.rows.getD i [])[j]? = some (T.a i j) := by
  unfold Tb.a
  rw [List.getD_eq_getElem?_getD (l := T.rows.getD i []), List.getElem?_eq_getElem (by rw [ok.row_len hi]; exact hj)]; rfl
theorem TbOk.b_lt (ok : TbOk N M T) {i : Nat} (hi : i < M) : T.b i < N := ok.blt _ (mem_at (ok.bas_get hi))
theorem TbOk.v_fit (ok : TbOk N M T) {j : Nat} (hj : j < N) : Fits (T.v j) := ok.fv _ (mem_at (ok.val_get hj))
theorem TbOk.lo_fit (ok : TbOk N M T) {j : Nat} (hj : j < N) : Fits (T.lo j) := ok.fl _ (mem_at (ok.low_get hj))
theorem TbOk.hi_fit (ok : TbOk N M T) {j : Nat} (hj : j < N) : Fits (T.hi j) := ok.fh _ (mem_at (ok.high_get hj))
theorem TbOk.a_fit (ok : TbOk N M T) {i j : Nat} (hi : i < M) (hj : j < N) : Fits (T.a i j) := ok.fr _ (mem_at (ok.row_get hi)) _ (mem_at (ok.el_get hi hj))
theorem TabAt.hs_get (A : TabAt w t H p T) (ok : TbOk N M T) {i : Nat} (hi : i < M) : ∃ g, H.s[i]? = some g ∧ OwnQ w (t.block + 1) g (T.rows.getD i []) := by
  obtain ⟨g, h1, h2⟩ := A.fs.get (i := i + 3) (L := T.rows.getD i []) (ok.row_get hi)
  exact ⟨g, h1, h2⟩
theorem TabAt.rl (A : TabAt w t H p T) (ok : TbOk N M T) : H.r.2.1 = M := by
  have h1 := A.rs.sl.len
  have h2 := A.fs.len
  simp only [List.length_map, List.length_cons] at h1 h2
  have := ok.lr
  omega
theorem TabAt.bl (A : TabAt w t H p T) (ok : TbOk N M T) : H.b.2.1 = M := by
  have h1 := A.bs.sl.int
  simp only [List.length_map] at h1
  have := ok.lb
  omega
theorem TabAt.hvl (A : TabAt w t H p T) : OwnQ w (t.block + 1) H.v T.val := A.fs.own 2 _ _ rfl rfl
theorem TabAt.val_at (A : TabAt w t H p T) (ok : TbOk N M T) {j : Nat} {i : Int} (hi : i = (j : Int)) (hj : j < N) {K : Int × Int × Unit → Prop} (hk : K (qv (T.v j))) :
    nn (some t) fun a => rd Tryz.prog (Instr.loadAt 32 (.pointer (some (a.add 2)))) (.one .slice) w fun x => rdp Tryz.prog (Instr.indexAt 32 (.slice x.1 x.2.1 x.2.2) (.int .i64 i)) (.one .addr) fun ad => rd Tryz.prog (Instr.loadAt 60 (.pointer (some ad))) (.agg [.int .i64, .int .i64]) w K :=
  nn_mk rfl (rd_box (by kernel_rfl) A.box rfl rfl (atQ A.hvl.sl hi (ok.val_get hj) hk))
theorem TabAt.low_at (A : TabAt w t H p T) (ok : TbOk N M T) {j : Nat} {i : Int} (hi : i = (j : Int)) (hj : j < N) {K : Int × Int × Unit → Prop} (hk : K (qv (T.lo j))) :
    nn (some t) fun a => rd Tryz.prog (Instr.loadAt 32 (.pointer (some a))) (.one .slice) w fun x => rdp Tryz.prog (Instr.indexAt 32 (.slice x.1 x.2.1 x.2.2) (.int .i64 i)) (.one .addr) fun ad => rd Tryz.prog (Instr.loadAt 60 (.pointer (some ad))) (.agg [.int .i64, .int .i64]) w K :=
  nn_mk rfl (rd_box0 (by kernel_rfl) A.box rfl rfl (atQ (A.fs.own 0 _ _ rfl rfl).sl hi (ok.low_get hj) hk))
theorem TabAt.high_at (A : TabAt w t H p T) (ok : TbOk N M T) {j : Nat} {i : Int} (hi : i = (j : Int)) (hj : j < N) {K : Int × Int × Unit → Prop} (hk : K (qv (T.hi j))) :
    nn (some t) fun a => rd Tryz.prog (Instr.loadAt 32 (.pointer (some (a.add 1)))) (.one .slice) w fun x => rdp Tryz.prog (Instr.indexAt 32 (.slice x.1 x.2.1 x.2.2) (.int .i64 i)) (.one .addr) fun ad => rd Tryz.prog (Instr.loadAt 60 (.pointer (some ad))) (.agg [.int .i64, .int .i64]) w K :=
  nn_mk rfl (rd_box (by kernel_rfl) A.box rfl rfl (atQ (A.fs.own 1 _ _ rfl rfl).sl hi (ok.high_get hj) hk))
theorem TabAt.bas_at (A : TabAt w t H p T) (ok : TbOk N M T) {j : Nat} {i : Int} (hi : i = (j : Int)) (hj : j < M) {K : Int → Prop} (hk : K (T.b j : Nat)) :
    nn (some t) fun a => rd Tryz.prog (Instr.loadAt 22 (.pointer (some (a.add 3)))) (.one .slice) w fun x => rdp Tryz.prog (Instr.indexAt 22 (.slice x.1 x.2.1 x.2.2) (.int .i64 i)) (.one .addr) fun ad => rd Tryz.prog (Instr.loadAt 3 (.pointer (some ad))) (.one (.int .i64)) w K :=
  nn_mk rfl (rd_box (by kernel_rfl) A.box rfl rfl (at_int tyInts (by kernel_rfl) A.bs.sl hi (by rw [A.bl ok]; exact hj) fun x hx => by
    rw [List.getElem?_map, ok.bas_get hj] at hx; cases hx; exact hk))
theorem TabAt.row_at (A : TabAt w t H p T) (ok : TbOk N M T) {j : Nat} {i : Int} (hi : i = (j : Int)) (hj : j < M) {K : Hdr → Prop} (hk : ∀ g, H.s[j]? = some g → OwnQ w (t.block + 1) g (T.rows.getD j []) → K g) :
    nn (some t) fun a => rd Tryz.prog (Instr.loadAt 95 (.pointer (some (a.add 4)))) (.one .slice) w fun x => rdp Tryz.prog (Instr.indexAt 95 (.slice x.1 x.2.1 x.2.2) (.int .i64 i)) (.one .addr) fun ad => rd Tryz.prog (Instr.loadAt 32 (.pointer (some ad))) (.one .slice) w K := by
  obtain ⟨g, h1, h2⟩ := A.hs_get ok hj
  exact nn_mk rfl (rd_box (by kernel_rfl) A.box rfl rfl (at_hdr tyFracTab (by kernel_rfl) A.rs.sl hi (by rw [A.rl ok]; exact hj) fun x hx => hk x hx (by rw [h1] at hx; cases hx; exact h2)))
theorem TabAt.el_at (A : TabAt w t H p T) (ok : TbOk N M T) {r j : Nat} {i i' : Int} (hi : i = (r : Int)) (hr : r < M) (hi' : i' = (j : Int)) (hj : j < N) {K : Int × Int × Unit → Prop} (hk : K (qv (T.a r j))) :
    nn (some t) fun a => rd Tryz.prog (Instr.loadAt 95 (.pointer (some (a.add 4)))) (.one .slice) w fun x => rdp Tryz.prog (Instr.indexAt 95 (.slice x.1 x.2.1 x.2.2) (.int .i64 i)) (.one .addr) fun ad => rd Tryz.prog (Instr.loadAt 32 (.pointer (some ad))) (.one .slice) w fun x =>
      rdp Tryz.prog (Instr.indexAt 32 (.slice x.1 x.2.1 x.2.2) (.int .i64 i')) (.one .addr) fun ad => rd Tryz.prog (Instr.loadAt 60 (.pointer (some ad))) (.agg [.int .i64, .int .i64]) w K :=
  A.row_at ok hi hr fun _ _ O => atQ O.sl hi' (ok.el_get hr hj) hk
end
end Go.Proofs.YtajpdnphamomjaaGreat

/- Which row is wrong, and which variable helps. -/

namespace Go.Proofs.YtajpdnphamomjaaGreat
open Go.RowKit Go.Q Go.Q.Num Go.V

def Tb.wr (T : Tb) : Nat → Option (Nat × Bool)
  | 0 => none
  | i + 1 => if T.v (T.b i) < T.lo (T.b i) ∨ T.hi (T.b i) < T.v (T.b i) then
      (match T.wr i with
      | none => some (i, decide (T.v (T.b i) < T.lo (T.b i)))
      | some p => if T.b i < T.b p.1 then some (i, decide (T.v (T.b i) < T.lo (T.b i))) else some p)
    else T.wr i
def wri : Option (Nat × Bool) → Int
  | none => -1
  | some p => (p.1 : Int)
def wrb : Option (Nat × Bool) → Bool
  | none => false
  | some p => p.2
theorem wr_succ (T : Tb) (i : Nat) : T.wr (i + 1) = if T.v (T.b i) < T.lo (T.b i) ∨ T.hi (T.b i) < T.v (T.b i) then
      (match T.wr i with
      | none => some (i, decide (T.v (T.b i) < T.lo (T.b i)))
      | some p => if T.b i < T.b p.1 then some (i, decide (T.v (T.b i) < T.lo (T.b i))) else some p)
    else T.wr i := rfl
theorem wr_lt {T : Tb} : ∀ {i : Nat} {p : Nat × Bool}, T.wr i = some p → p.1 < i
  | 0, p, h => by cases h
  | i + 1, p, h => by
    unfold Tb.wr at h
    split at h
    · split at h
      · cases h; exact Nat.lt_succ_self _
      · rename_i q hq
        split at h
        · cases h; exact Nat.lt_succ_self _
        · cases h; have := wr_lt hq; omega
    · have := wr_lt h; omega

theorem wrongF {w : World} {t : Addr} {H : TH} {p : Int} {T : Tb} {N M : Nat} (A : TabAt w t H p T) (ok : TbOk N M T) :
    call Tryz.prog 62 [.pointer (some t)] (.many [.one (.int .i64), .one .bool]) w (fun x w' => x = (wri (T.wr M), wrb (T.wr M), ()) ∧ bel w w') := by
  refine call_of (S62_calls (some t) w _ ?_)
  unfold S62
  refine nn_mk rfl ?_
  refine rd_box (by kernel_rfl) A.box rfl rfl ?_
  have hbl := A.bl ok
  have hM := ok.sM
  have hN := ok.sN
  refine loop_gh (G := Nat) (fun i x w' => i ≤ M ∧ x = (wri (T.wr i), wrb (T.wr i), (i : Int), ()) ∧ bel w w') (fun i => M - i) 0 ⟨Nat.zero_le _, rfl, bel.refl _⟩ ?_
  rintro i x w1 ⟨hi, rfl, hb⟩ again hag _
  have A1 := A.up hb
  refine br_dec (fun hlt => ?_) (fun hge => ?_)
  case refine_2 =>
    have : i = M := by dsimp only at hge; rw [hbl] at hge; omega
    subst this
    exact ⟨(wri (T.wr i), wrb (T.wr i), ()), rfl, rfl, hb⟩
  have hiM : i < M := by dsimp only at hlt; rw [hbl] at hlt; omega
  have hbi := ok.b_lt hiM
  refine join_mk (fun (x : Int × Bool × Unit) w' => x = (wri (T.wr (i + 1)), wrb (T.wr (i + 1)), ()) ∧ bel w w') (fun K6 hK => ?_) (fun x w2 q => ?_)
  case refine_2 =>
    obtain ⟨rfl, hb2⟩ := q
    intro _
    refine z_eq (by exact IntWalk.i64_in _ ⟨by dsimp only; omega, by dsimp only; omega⟩) ?_
    exact hag (i + 1) _ _ ⟨hiM, by rw [Int.natCast_add]; rfl, hb2⟩ (by omega)
  refine at_int tyInts (by kernel_rfl) A1.bs.sl rfl (by rw [hbl]; exact hiM) fun x hx => ?_
  have hx : x = (T.b i : Nat) := by rw [List.getElem?_map, ok.bas_get hiM] at hx; cases hx; rfl
  subst hx
  refine drw_mk fun w2 hb2 _ => ?_
  have A2 := A1.up hb2
  refine flEx_mk (fun _ _ v _ => v = .int .i64 (cmpq (T.v (T.b i)) (T.lo (T.b i)))) (fun _ _ _ _ _ h _ => h) ?_
  refine A2.val_at ok rfl hbi ?_
  refine A2.low_at ok rfl hbi ?_
  refine flc_mk (fun w3 hb3 _ => ?_) fun (x26 : Int) => ?_
  · exact (call_mono (cmpQ w3 (ok.v_fit hbi) (ok.lo_fit hbi)) fun (x : Int) w4 ⟨h1, h2⟩ => ⟨h2, by rw [h1]⟩)
  refine A2.val_at ok rfl hbi ?_
  refine A2.high_at ok rfl hbi ?_
  refine flend_mk fun w3 hb3 q => ?_
  have h26 : x26 = cmpq (T.v (T.b i)) (T.lo (T.b i)) := by
    have := q.1
    simpa using this
  refine call_mono (cmpQ w3 (ok.v_fit hbi) (ok.hi_fit hbi)) fun (x37 : Int) w4 ⟨h37, h4⟩ => ?_
  have hb4 : bel w w4 := ((hb.trans hb2).trans hb3).trans h4
  have A4 := A2.up (hb3.trans h4)
  have e26 : (x26 < 0) ↔ T.v (T.b i) < T.lo (T.b i) := by rw [h26]; exact cmpq_lt0
  have e37 : (x37 > 0) ↔ T.hi (T.b i) < T.v (T.b i) := by rw [h37]; exact cmpq_gt0
  have hdec : decide (x26 < 0) = decide (T.v (T.b i) < T.lo (T.b i)) := by
    by_cases h : x26 < 0
    · rw [decide_eq_true h, decide_eq_true (e26.1 h)]
    · rw [decide_eq_false h, decide_eq_false (fun q => h (e26.2 q))]
  -- what is done with a wrong row
  have wrong : (T.v (T.b i) < T.lo (T.b i) ∨ T.hi (T.b i) < T.v (T.b i)) →
      br (decide (wri (T.wr i) < 0)) (K6 ((i : Int), decide (x26 < 0), ()) w4)
        (nn (some t) fun a => rd Tryz.prog (Instr.loadAt 22 (.pointer (some (a.add 3)))) (.one .slice) w4 fun x => rdp Tryz.prog (Instr.indexAt 22 (.slice x.1 x.2.1 x.2.2) (.int .i64 (wri (T.wr i)))) (.one .addr) fun ad => rd Tryz.prog (Instr.loadAt 3 (.pointer (some ad))) (.one (.int .i64)) w4 fun (y : Int) =>
          br (decide (((T.b i : Nat) : Int) < y)) (K6 ((i : Int), decide (x26 < 0), ()) w4) (K6 (wri (T.wr i), wrb (T.wr i), ()) w4)) := by
    intro hw
    cases hp : T.wr i with
    | none =>
      refine br_t rfl ?_
      refine hK _ _ ⟨?_, hb4⟩
      rw [wr_succ, if_pos hw, hp, hdec]; rfl
    | some pr =>
      have hpl := wr_lt hp
      have hnn : ¬ (wri (some pr) < 0) := by show ¬ ((pr.1 : Int) < 0); omega
      refine br_f (decide_eq_false hnn) ?_
      refine A4.bas_at ok (i := wri (some pr)) rfl (by omega) ?_
      refine br_dec (fun hl => ?_) (fun hl => ?_)
      · refine hK _ _ ⟨?_, hb4⟩
        have hl' : T.b i < T.b pr.1 := by omega
        rw [wr_succ, if_pos hw, hp]; dsimp only; rw [if_pos hl', hdec]; rfl
      · refine hK _ _ ⟨?_, hb4⟩
        have hl' : ¬ T.b i < T.b pr.1 := by omega
        rw [wr_succ, if_pos hw, hp]; dsimp only; rw [if_neg hl']
  refine br_dec (fun h => wrong (.inl (e26.1 h))) (fun h => ?_)
  refine br_dec (fun h' => wrong (.inr (e37.1 h'))) (fun h' => ?_)
  refine hK _ _ ⟨?_, hb4⟩
  rw [wr_succ, if_neg]
  rintro (q | q)
  · exact h (e26.2 q)
  · exact h' (e37.2 q)

def Tb.can (T : Tb) (row : Nat) (up : Bool) (k : Nat) : Prop := T.a row k ≠ 0 ∧ k ≠ T.b row ∧ (if decide (0 < T.a row k) = up then T.v k < T.hi k else T.lo k < T.v k)
theorem num_pos' {r : Rat} : r.num > 0 ↔ 0 < r := by
  have h1 := num_neg (r := r)
  have h2 := Rat.num_eq_zero (q := r)
  constructor
  · intro h
    have h3 : ¬ r < 0 := fun q => by have := h1.2 q; omega
    have h4 : r ≠ 0 := fun q => by have := h2.2 q; omega
    grind
  · intro h
    have h3 : ¬ r.num < 0 := fun q => by have := h1.1 q; grind
    have h4 : r.num ≠ 0 := fun q => by have := h2.1 q; grind
    omega
theorem helperF {w : World} {t : Addr} {H : TH} {p : Int} {T : Tb} {N M : Nat} (A : TabAt w t H p T) (ok : TbOk N M T) {row : Nat} (hr : row < M) (up : Bool) :
    call Tryz.prog 64 [.pointer (some t), .int .i64 (row : Int), .bool up] (.one (.one (.int .i64))) w (fun (x : Int) w' => ((x = -1 ∧ ∀ k, k < N → ¬ T.can row up k) ∨ ∃ k : Nat, k < N ∧ x = (k : Int) ∧ T.can row up k ∧ ∀ k', k' < k → ¬ T.can row up k') ∧ bel w w') := by
  refine call_of (S64_calls (some t) (row : Int) up w _ ?_)
  unfold S64
  have hM := ok.sM
  have hN := ok.sN
  refine A.row_at ok rfl hr fun g hg O => ?_
  have hgl : g.2.1 = N := by have := slQ_len O.sl; rw [ok.row_len hr] at this; exact this.symm
  refine loop_up N (fun k w' => (∀ k', k' < k → ¬ T.can row up k') ∧ bel w w') ⟨fun k' h => by omega, bel.refl _⟩ ?_
  rintro k w1 hk ⟨hno, hb⟩ again hag _
  have A1 := A.up hb
  refine br_dec (fun hlt => ?_) (fun hge => ?_)
  case refine_2 =>
    have : k = N := by dsimp only at hge; rw [hgl] at hge; omega
    subst this
    exact ⟨(-1 : Int), rfl, .inl ⟨rfl, hno⟩, hb⟩
  have hkN : k < N := by dsimp only at hlt; rw [hgl] at hlt; omega
  refine join_mk (fun (_ : Unit) w' => ¬ T.can row up k ∧ bel w w') (fun K8 hK => ?_) (fun x w2 q => ?_)
  case refine_2 =>
    obtain ⟨hc, hb2⟩ := q
    intro _
    refine z_eq (by exact IntWalk.i64_in _ ⟨by dsimp only; omega, by dsimp only; omega⟩) ?_
    refine hag _ hkN ⟨fun k' h => ?_, hb2⟩
    rcases Nat.lt_or_ge k' k with h' | h'
    · exact hno k' h'
    · have : k' = k := by omega
      subst this; exact hc
  have O1 : OwnQ w1 (t.block + 1) g (T.rows.getD row []) := O.kept hb
  refine atQ O1.sl rfl (ok.el_get hr hkN) ?_
  refine boxF fun x14 w2 hb2 X14 h14 => ?_
  refine rd_box0 (by kernel_rfl) X14 rfl rfl ?_
  have A2 := A1.up hb2
  have hb2' := hb.trans hb2
  refine br_eq (fun h0 => ?_) (fun h0 => ?_)
  · exact hK _ _ ⟨fun q => q.1 (Rat.num_eq_zero.1 h0), hb2'⟩
  have ha0 : T.a row k ≠ 0 := fun q => h0 (Rat.num_eq_zero.2 q)
  refine A2.bas_at ok rfl hr ?_
  refine br_eq (fun h1 => ?_) (fun h1 => ?_)
  · exact hK _ _ ⟨fun q => q.2.1 (by dsimp only at h1; omega), hb2'⟩
  have hkb : k ≠ T.b row := fun q => h1 (by rw [q])
  refine rd_box0 (by kernel_rfl) X14 rfl rfl ?_
  have hdec : decide ((T.a row k).num > 0) = decide (0 < T.a row k) := by
    by_cases h : (T.a row k).num > 0
    · rw [decide_eq_true h, decide_eq_true (num_pos'.1 h)]
    · rw [decide_eq_false h, decide_eq_false (fun q => h (num_pos'.2 q))]
  refine br_mk (fun hd => ?_) (fun hd => ?_)
  · have hd' : decide (0 < T.a row k) = up := by replace hd : (decide ((T.a row k).num > 0) == up) = _ := hd; rw [hdec] at hd; simpa using hd
    refine drw_mk fun w3 hb3 _ => ?_
    have A3 := A2.up hb3
    refine A3.val_at ok rfl hkN ?_
    refine A3.high_at ok rfl hkN ?_
    refine call_mono (cmpQ w3 (ok.v_fit hkN) (ok.hi_fit hkN)) fun (x : Int) w4 ⟨hx, h4⟩ => ?_
    have e : x < 0 ↔ T.v k < T.hi k := by rw [hx]; exact cmpq_lt0
    refine br_dec (fun h => ?_) (fun h => ?_)
    · exact ⟨(k : Int), rfl, .inr ⟨k, hkN, rfl, ⟨ha0, hkb, by rw [if_pos hd']; exact e.1 h⟩, hno⟩, (hb2'.trans hb3).trans h4⟩
    · exact hK _ _ ⟨fun q => h (e.2 (by have := q.2.2; rw [if_pos hd'] at this; exact this)), (hb2'.trans hb3).trans h4⟩
  · have hd' : ¬ decide (0 < T.a row k) = up := by replace hd : (decide ((T.a row k).num > 0) == up) = _ := hd; rw [hdec] at hd; simpa using hd
    refine drw_mk fun w3 hb3 _ => ?_
    have A3 := A2.up hb3
    refine A3.val_at ok rfl hkN ?_
    refine A3.low_at ok rfl hkN ?_
    refine call_mono (cmpQ w3 (ok.v_fit hkN) (ok.lo_fit hkN)) fun (x : Int) w4 ⟨hx, h4⟩ => ?_
    have e : x > 0 ↔ T.lo k < T.v k := by rw [hx]; exact cmpq_gt0
    refine br_dec (fun h => ?_) (fun h => ?_)
    · exact ⟨(k : Int), rfl, .inr ⟨k, hkN, rfl, ⟨ha0, hkb, by rw [if_neg hd']; exact e.1 h⟩, hno⟩, (hb2'.trans hb3).trans h4⟩
    · exact hK _ _ ⟨fun q => h (e.2 (by have := q.2.2; rw [if_neg hd'] at this; exact this)), (hb2'.trans hb3).trans h4⟩
end Go.Proofs.YtajpdnphamomjaaGreat

/- Writing into a tableau; the values of a move. -/


namespace Go.Proofs.YtajpdnphamomjaaGreat
open Go.RowKit Go.Q Go.Q.Num Go.V

def HB (H : TH) (S : Nat) : Prop := ∀ h, (h = H.v ∨ h = H.b ∨ h ∈ H.s) → ∀ k, blk h.1 = some k → k < S
abbrev Xa (B : Nat) : Rel := Xb fun k => B ≤ k
theorem bel_xa {w w' : World} (h : bel w w') (B : Nat) : Xa B w w' := Xb.of (grown_of_bel h none) fun k e => by cases e
def PnX (A : Prop) (B : Nat) (w : World) : List PanicEntry → World → Prop := fun ch w' => A ∧ ch = [{ v := failV, recovered := false }] ∧ Xa B w w'
theorem PnX.of {A A' : Prop} {B : Nat} {w w1 w2 : World} (hA : A' → A) (hx : Xa B w w1) (hb : bel w1 w2) (ch : List PanicEntry) (w' : World) (h : PnF A' w2 ch w') : PnX A B w ch w' :=
  ⟨hA h.1, h.2.1, hx.trans (bel_xa (hb.trans h.2.2) B)⟩
theorem TabAt.hb {w : World} {t : Addr} {H : TH} {p : Int} {T : Tb} (A : TabAt w t H p T) : HB H w.heap.size := by
  rintro h (rfl | rfl | hm) k hk
  · exact (A.hvl.lt k hk).2
  · exact (A.bs.lt k hk).2
  · obtain ⟨i, hi, he⟩ := List.mem_iff_getElem.1 hm
    have hl := A.fs.len
    simp only [List.length_cons] at hl
    have e1 : (H.l :: H.h :: H.v :: H.s)[i + 3]? = some h := by
      show H.s[i]? = some h
      rw [List.getElem?_eq_getElem hi, he]
    have e2 : (T.low :: T.high :: T.val :: T.rows)[i + 3]? = some (T.rows.getD i []) := by
      show T.rows[i]? = _
      rw [List.getD_eq_getElem?_getD, List.getElem?_eq_getElem (by omega)]; rfl
    exact ((A.fs.own (i + 3) h _ e1 e2).lt k hk).2

section
variable {w : World} {t : Addr} {H : TH} {p : Int} {T : Tb} {N M S : Nat}
theorem xa_blk {w' : World} {a : Option Addr} {B : Nat} (hg : w.grownBy w' (blk a)) (h : ∀ k, blk a = some k → B ≤ k) : Xa B w w' := Xb.of hg h
theorem TabAt.setV (A : TabAt w t H p T) (ok : TbOk N M T) (hS : HB H S) {j : Nat} {i : Int} (hi : i = (j : Int)) (hj : j < N) (r : Rat) {K : World → Prop}
    (hk : ∀ w', TabAt w' t H p { T with val := T.val.set j r } → Xa (t.block + 1) w w' → (∀ a cs, S ≤ a.block → Box w a cs → Box w' a cs) → K w') :
    rdp Tryz.prog (Instr.indexAt 32 (.slice H.v.1 H.v.2.1 H.v.2.2) (.int .i64 i)) (.one .addr) fun ad => wu Tryz.prog (Instr.storeAt 60 (.pointer (some ad)) (.agg #[.int .i64 (qv r).1, .int .i64 (qv r).2.1])) w K := by
  refine set_agg tyFracs encQ_len A.hvl hi (by rw [ok.lv]; exact hj) (p := r) rfl (by omega) rfl fun w' O hg _ => ?_
  refine hk w' ⟨?_, A.fs.put (i := 2) rfl O hg, ?_, ?_⟩ (xa_blk hg fun k hk => (A.hvl.lt k hk).1) (fun a cs ha X => X.grown hg fun e => ?_)
  · exact A.box.grown hg fun e => by have := (A.hvl.lt _ e.symm).1; omega
  · exact A.bs.keptBy hg (by
      cases hb : blk H.b.1 with
      | none => exact .inl rfl
      | some k => exact .inr fun e => Own.apart A.bs A.hvl (by decide) k hb e.symm)
  · exact A.rs.keptBy hg (by
      cases hb : blk H.r.1 with
      | none => exact .inl rfl
      | some k => exact .inr fun e => Own.apart A.rs A.hvl (by decide) k hb e.symm)
  · have := hS H.v (.inl rfl) _ e.symm; omega
theorem TabAt.setR (A : TabAt w t H p T) (ok : TbOk N M T) (hS : HB H S) {q j : Nat} {g : Hdr} {i : Int} (hg0 : H.s[q]? = some g) (hq : q < M) (hi : i = (j : Int)) (hj : j < N) (r : Rat) {K : World → Prop}
    (hk : ∀ w', TabAt w' t H p { T with rows := T.rows.set q ((T.rows.getD q []).set j r) } → Xa (t.block + 1) w w' → (∀ a cs, S ≤ a.block → Box w a cs → Box w' a cs) → K w') :
    rdp Tryz.prog (Instr.indexAt 32 (.slice g.1 g.2.1 g.2.2) (.int .i64 i)) (.one .addr) fun ad => wu Tryz.prog (Instr.storeAt 60 (.pointer (some ad)) (.agg #[.int .i64 (qv r).1, .int .i64 (qv r).2.1])) w K := by
  have O0 : OwnQ w (t.block + 1) g (T.rows.getD q []) := A.fs.own (q + 3) g _ hg0 (ok.row_get hq)
  refine set_agg tyFracs encQ_len O0 hi (by rw [ok.row_len hq]; exact hj) (p := r) rfl (by omega) rfl fun w' O hg _ => ?_
  refine hk w' ⟨?_, A.fs.put (i := q + 3) hg0 O hg, ?_, ?_⟩ (xa_blk hg fun k hk => (O0.lt k hk).1) (fun a cs ha X => X.grown hg fun e => ?_)
  · exact A.box.grown hg fun e => by have := (O0.lt _ e.symm).1; omega
  · exact A.bs.keptBy hg (by
      cases hb : blk H.b.1 with
      | none => exact .inl rfl
      | some k => exact .inr fun e => Own.apart A.bs O0 (by decide) k hb e.symm)
  · exact A.rs.keptBy hg (by
      cases hb : blk H.r.1 with
      | none => exact .inl rfl
      | some k => exact .inr fun e => Own.apart A.rs O0 (by decide) k hb e.symm)
  · have := hS g (.inr (.inr (mem_at hg0))) _ e.symm; omega
theorem nat_set (l : List Nat) (j k : Nat) : (natv l).set j (.int .i64 (k : Int)) = natv (l.set j k) := by
  unfold natv ints
  rw [List.map_map, List.map_map, List.map_set]; rfl
theorem TabAt.setB (A : TabAt w t H p T) (ok : TbOk N M T) (hS : HB H S) {j k : Nat} {i : Int} (hi : i = (j : Int)) (hj : j < M) {K : World → Prop}
    (hk : ∀ w', TabAt w' t H p { T with bas := T.bas.set j k } → Xa (t.block + 1) w w' → (∀ a cs, S ≤ a.block → Box w a cs → Box w' a cs) → K w') :
    rdp Tryz.prog (Instr.indexAt 22 (.slice H.b.1 H.b.2.1 H.b.2.2) (.int .i64 i)) (.one .addr) fun ad => wu Tryz.prog (Instr.storeAt 3 (.pointer (some ad)) (.int .i64 (k : Int))) w K := by
  refine set_mk tyInts A.bs hi (by rw [A.bl ok]; exact hj) rfl fun w' O hg _ => ?_
  rw [nat_set] at O
  refine hk w' ⟨?_, A.fs.sort A.bs (by decide) hg, O, ?_⟩ (xa_blk hg fun k hk => (A.bs.lt k hk).1) (fun a cs ha X => X.grown hg fun e => ?_)
  · exact A.box.grown hg fun e => by have := (A.bs.lt _ e.symm).1; omega
  · exact A.rs.keptBy hg (by
      cases hb : blk H.r.1 with
      | none => exact .inl rfl
      | some k => exact .inr fun e => Own.apart A.rs A.bs (by decide) k hb e.symm)
  · have := hS H.b (.inr (.inl rfl)) _ e.symm; omega

theorem mem_set {α : Type} {l : List α} {j : Nat} {r x : α} (h : x ∈ l.set j r) : x = r ∨ x ∈ l := by
  rcases List.mem_or_eq_of_mem_set h with h | h
  · exact .inr h
  · exact .inl h
theorem TbOk.setV (ok : TbOk N M T) {j : Nat} {r : Rat} (hr : Fits r) : TbOk N M { T with val := T.val.set j r } :=
  ⟨ok.ll, ok.lh, by simpa using ok.lv, ok.lb, ok.lr, ok.row, ok.blt, ok.fl, ok.fh, fun x hx => (mem_set hx).elim (fun e => e ▸ hr) (ok.fv x), ok.fr, ok.sN, ok.sM⟩
theorem TbOk.setR (ok : TbOk N M T) {q j : Nat} {r : Rat} (hq : q < M) (hr : Fits r) : TbOk N M { T with rows := T.rows.set q ((T.rows.getD q []).set j r) } :=
  ⟨ok.ll, ok.lh, ok.lv, ok.lb, by simpa using ok.lr, fun r hr => (mem_set hr).elim (fun e => by rw [e, List.length_set]; exact ok.row_len hq) (ok.row r), ok.blt, ok.fl, ok.fh, ok.fv,
    fun l hl => (mem_set hl).elim (fun e x hx => by rw [e] at hx; exact (mem_set hx).elim (fun e => e ▸ hr) (ok.fr _ (mem_at (ok.row_get hq)) x)) (ok.fr l), ok.sN, ok.sM⟩
theorem TbOk.setB (ok : TbOk N M T) {j k : Nat} (hk : k < N) : TbOk N M { T with bas := T.bas.set j k } :=
  ⟨ok.ll, ok.lh, ok.lv, by simpa using ok.lb, ok.lr, ok.row, fun b hb => (mem_set hb).elim (fun e => e ▸ hk) (ok.blt b), ok.fl, ok.fh, ok.fv, ok.fr, ok.sN, ok.sM⟩
end
end Go.Proofs.YtajpdnphamomjaaGreat

/- Appending to the slices of a tableau. -/

namespace Go.Proofs.YtajpdnphamomjaaGreat
open Go.RowKit Go.Q Go.Q.Num Go.V

theorem wr_appX {P : Program} {t e : TypeId} {z : Value} {sz bytes : Nat} (T : TyS P t e z sz bytes) {w : World} {B : Nat} {sa : Option Addr} {n c : Nat} {xs : List Value} (O : Own w B e sz sa n c xs) {ty : TypeId} {ad : Addr} {m mc : Nat} {ys : List Value} (H : Sl w (some ad) m mc sz ys) {k : (Option Addr × Nat × Nat) → World → Prop}
    (hB : B ≤ w.heap.size) (hz : z.cells.size = sz) (hs : 0 < sz) (hp : plainV ys = true) (hb : (n + m) * bytes ≤ 140737488355328) (hn : n + m ≤ maxLen) (hm : 0 < m)
    (hk : ∀ a' c' w', Own w' B e sz a' (n + m) c' (xs ++ ys) → w.grownBy w' (blk sa) → (n + m ≤ c → blk a' = blk sa) → (c < n + m → blk a' = some w.heap.size) → k (a', n + m, c') w') :
    wr P (Builtin.append_ #[t, t] ty #[.slice sa n c, .slice (some ad) m mc]) (.one .slice) w k := by
  have hy : ∀ j u, ys[j]? = some u → w.cell? (ad.add j) = some u := fun j u hj => by
    obtain ⟨ad', q1, q2, _⟩ := H.at' j u hj
    cases q1; exact q2
  have h1 : ∀ u ∈ ys, u.oneCell' = true := fun u hu => by unfold plainV at hp; rw [List.all_eq_true] at hp; exact hp u hu
  obtain ⟨a', c', w2, hr, hA⟩ := run_app (P := P) w t ty B e z sz bytes T.ht T.hi hz hs sa n c xs O ad m mc ys H.len hy h1 hb hn hB
  obtain ⟨i, hi0, hz0, hz1, hz2⟩ := info_parts T.hi
  have two : (n + m ≤ c → blk a' = blk sa) ∧ (c < n + m → blk a' = some w.heap.size) := by
    rcases O.2 with ⟨h1', h2⟩ | ⟨g, cap, cur, h1', h2, h3, h4, h5, h6, h7⟩
    · cases h1'
      refine ⟨fun h => by omega, fun _ => ?_⟩
      rcases hA.at' with q | q | q
      · cases a' with
        | none => have := hA.own.sl.nil' rfl; omega
        | some x => cases q
      · exact q
      · cases a' with
        | none => have := hA.own.sl.nil' rfl; omega
        | some x => cases q
    · cases h1'
      refine ⟨fun hroom => ?_, fun hc => ?_⟩
      · have hfit : n * i.size + ys.length ≤ cur.size := by rw [hz1, H.len, h6, ← Nat.add_mul]; exact Nat.mul_le_mul_right _ hroom
        have hr2 := run_append_room (P := P) w t ty e i T.ht hi0 g n c cur h3 ad m mc ys (by rw [hz1]; exact H.len) hy h1 hroom hfit
        have e := hr.symm.trans hr2
        injection e with e1 e2
        injection e1 with e1 e3 e4
        rw [e1]
      · have holds : ∀ j u, xs[j]? = some u → w.cell? ((⟨g, 0, none⟩ : Addr).add j) = some u := World.ownsRow.cells O (g := g) rfl
        have hr2 := run_append_grow (P := P) w t ty e i z T.ht hi0 hz0 ⟨g, 0, none⟩ n c xs (by rw [hz1]; exact O.1) holds ad m mc ys (by rw [hz1]; exact H.len) hy (by omega) (by unfold maxLen at hn; omega) (growslice_fits (by omega) (by rw [hz2]; exact hb))
        have e := hr.symm.trans hr2
        injection e with e1 e2
        injection e1 with e1 e3 e4
        rw [e1]; rfl
  exact ⟨(a', n + m, c'), w2, hr, hk a' c' w2 hA.own hA.grown two.1 two.2⟩

theorem Own_xb {w w' : World} {S : Nat → Prop} {B : Nat} {e : TypeId} {sz : Nat} {a : Option Addr} {n c : Nat} {xs : List Value} (h : Own w B e sz a n c xs) (hX : Xb S w w') (hn : ∀ k, blk a = some k → ¬ S k) : Own w' B e sz a n c xs := by
  refine ⟨h.1, ?_⟩
  rcases h.2 with h2 | ⟨g, cap, cur, h1, h2, h3, h4⟩
  · exact .inl h2
  · cases h1
    exact .inr ⟨g, c, cur, rfl, h2, (hX.block g (Array.getElem?_eq_some_iff.1 h3).1 (hn g rfl)).trans h3, h4⟩

theorem FS.app {w w' : World} {B : Nat} {hs : List Hdr} {Ls : List (List Rat)} {i : Nat} {h h' : Hdr} {L' : List Rat} (F : FS w B hs Ls) (hi : hs[i]? = some h) (O : OwnQ w' B h' L') (hg : w.grownBy w' (blk h.1)) (hn : blk h'.1 = blk h.1 ∨ ∀ b, blk h'.1 = some b → w.heap.size ≤ b) :
    FS w' B (hs.set i h') (Ls.set i L') := by
  have hlt := (List.getElem?_eq_some_iff.1 hi).1
  have old : ∀ (j : Nat) g k, hs[j]? = some g → blk g.1 = some k → k < w.heap.size := fun j g k e1 e2 => by
    have hj := (List.getElem?_eq_some_iff.1 e1).1
    exact ((F.own j g _ e1 (by rw [List.getElem?_eq_getElem (by rw [← F.len]; exact hj)])).lt _ e2).2
  have one : ∀ (j : Nat) g k, i ≠ j → hs[j]? = some g → blk h'.1 = some k → blk g.1 = some k → False := by
    intro j g k hij e1 e2 e3
    rcases hn with q | q
    · exact F.ap i j h g k hij hi e1 (by rw [← q]; exact e2) e3
    · have := q k e2; have := old j g k e1 e3; omega
  refine ⟨by rw [List.length_set, List.length_set]; exact F.len, fun j g K e1 e2 => ?_, fun j j' g g' k hjj e1 e2 e3 e4 => ?_⟩
  · by_cases hij : i = j
    · subst hij
      rw [List.getElem?_set_self (by rw [← F.len]; exact hlt)] at e2
      rw [List.getElem?_set_self hlt] at e1
      cases e1; cases e2; exact O
    · rw [List.getElem?_set_ne hij] at e1 e2
      refine (F.own j g K e1 e2).keptBy hg ?_
      cases hb : blk g.1 with
      | none => exact .inl rfl
      | some k => exact .inr fun e => F.ap i j h g k hij hi e1 e.symm hb
  · by_cases h1 : i = j <;> by_cases h2 : i = j'
    · omega
    · subst h1
      rw [List.getElem?_set_self hlt] at e1
      rw [List.getElem?_set_ne h2] at e2
      cases e1
      exact one j' g' k h2 e2 e3 e4
    · subst h2
      rw [List.getElem?_set_self hlt] at e2
      rw [List.getElem?_set_ne h1] at e1
      cases e2
      exact one j g k h1 e1 e4 e3
    · rw [List.getElem?_set_ne h1] at e1
      rw [List.getElem?_set_ne h2] at e2
      exact F.ap j j' g g' k hjj e1 e2 e3 e4
theorem FS.two {w w' : World} {B : Nat} {h0 h1 g0 g1 : Hdr} {r : List Hdr} {K0 K1 L0 L1 : List Rat} {R : List (List Rat)} {S : Nat → Prop} (F : FS w B (h0 :: h1 :: r) (K0 :: K1 :: R)) (hX : Xb S w w') (hS : ∀ k, S k → blk h0.1 = some k ∨ blk h1.1 = some k)
    (O0 : OwnQ w' B g0 L0) (O1 : OwnQ w' B g1 L1) (n0 : blk g0.1 = blk h0.1 ∨ ∀ b, blk g0.1 = some b → w.heap.size ≤ b) (n1 : blk g1.1 = blk h1.1 ∨ ∀ b, blk g1.1 = some b → w.heap.size ≤ b) (ap : ∀ k, blk g0.1 = some k → blk g1.1 = some k → False) :
    FS w' B (g0 :: g1 :: r) (L0 :: L1 :: R) := by
  have hl := F.len
  simp only [List.length_cons] at hl
  have get : ∀ (j : Nat) g, r[j]? = some g → ∃ K, R[j]? = some K ∧ OwnQ w B g K := fun j g e => by
    have hj := (List.getElem?_eq_some_iff.1 e).1
    have e2 : R[j]? = some R[j] := List.getElem?_eq_getElem (by omega)
    exact ⟨_, e2, F.own (j + 2) g _ e e2⟩
  have one0 : ∀ (j : Nat) g k, r[j]? = some g → blk g0.1 = some k → blk g.1 = some k → False := by
    intro j g k e1 e2 e3
    obtain ⟨K, _, O⟩ := get j g e1
    rcases n0 with q | q
    · exact F.ap 0 (j + 2) h0 g k (by omega) rfl e1 (by rw [← q]; exact e2) e3
    · have := q k e2; have := (O.lt k e3).2; omega
  have one1 : ∀ (j : Nat) g k, r[j]? = some g → blk g1.1 = some k → blk g.1 = some k → False := by
    intro j g k e1 e2 e3
    obtain ⟨K, _, O⟩ := get j g e1
    rcases n1 with q | q
    · exact F.ap 1 (j + 2) h1 g k (by omega) rfl e1 (by rw [← q]; exact e2) e3
    · have := q k e2; have := (O.lt k e3).2; omega
  refine ⟨by simp only [List.length_cons]; omega, fun j g K e1 e2 => ?_, fun j j' g g' k hjj e1 e2 e3 e4 => ?_⟩
  · match j with
    | 0 => cases e1; cases e2; exact O0
    | 1 => cases e1; cases e2; exact O1
    | j + 2 =>
      exact Own_xb (F.own (j + 2) g K e1 e2) hX fun k hk q => (hS k q).elim (fun q => F.ap 0 (j + 2) h0 g k (by omega) rfl e1 q hk) (fun q => F.ap 1 (j + 2) h1 g k (by omega) rfl e1 q hk)
  · match j, j' with
    | 0, 0 => omega
    | 0, 1 => cases e1; cases e2; exact ap k e3 e4
    | 1, 0 => cases e1; cases e2; exact ap k e4 e3
    | 1, 1 => omega
    | 0, j' + 2 => cases e1; exact one0 j' g' k e2 e3 e4
    | 1, j' + 2 => cases e1; exact one1 j' g' k e2 e3 e4
    | j + 2, 0 => cases e2; exact one0 j g k e1 e4 e3
    | j + 2, 1 => cases e2; exact one1 j g k e1 e4 e3
    | j + 2, j' + 2 => exact F.ap (j + 2) (j' + 2) g g' k hjj e1 e2 e3 e4
end Go.Proofs.YtajpdnphamomjaaGreat

/- Queues: the tail of a block of one's own; two stores in one region. -/

namespace Go.V
open Go Go.RowKit Go.Q

theorem rdE_boxN {P : Program} {E : Rel} {t : TypeId} {l : List Sh} {w : World} {a : Addr} {cs : List Value} {x : LT l} {k : LT l → Prop} (h : ∀ w', E w w' → Box w' a cs) (ht : aggOf P t cs.length = true) (hx : Lget l cs = some x) (hk : k x) :
    rdE P E (Instr.loadAt t (.pointer (some a))) (.agg l) w k := ⟨x, fun w' hw => by rw [run_loadAt, run_loadVarN ht (fun _ _ hj => (h w' hw).cell hj), Lget_spec hx]; rfl, hk⟩
end Go.V

/- The first tableau: regions that append in any order. -/


namespace Go.Proofs.YtajpdnphamomjaaGreat
open Go.RowKit Go.Q Go.Q.Num Go.V

theorem lWholeS (n : Int) (w : World) : call Tryz.prog 66 [.int .i64 n] (.one (.agg [.int .i64, .int .i64])) w (fun x w' => x = qv (n : Rat) ∧ bel w w' ∧ w'.heap.size = w.heap.size + 1) := by
  refine call_of (S66_calls n w _ ?_)
  unfold S66
  refine wr_alloc (z := fracv 0 0) (by kernel_rfl) fun ad w1 Z h hz hs => ?_
  refine wu_box Z (by kernel_rfl) (Nat.le_refl 2) rfl fun w2 Z hg hs2 => ?_
  refine rd_boxV Z (by kernel_rfl) rfl ?_
  exact ⟨_, rfl, rfl, h.grownAt hg (by omega), by omega⟩
abbrev RgE (h0 h1 : Hdr) : Rel := Xb fun k => blk h0.1 = some k ∨ blk h1.1 = some k
def RgG (c f : Nat) (h0 h1 : Hdr) (j : Nat) : Rel := fun w w' => w.grownBy w' (if j = c then blk h0.1 else if j = f then blk h1.1 else none)
structure RgS (w9 : World) (B : Nat) (h0 h1 : Hdr) (L1 L2 : List Rat) (a b c d e f g h : Nat) (D : Nat → Bool) (w : World) : Prop where
  o0 : D c = false → OwnQ w B h0 L1
  o1 : D f = false → OwnQ w B h1 L2
  cl : D c = false → D d = false ∧ D e = false ∧ D f = false ∧ D g = false
  up : D c = false → w.heap.size ≤ w9.heap.size + ((D a).toNat + (D b).toNat + (D h).toNat)
  lw : w9.heap.size + ((D a).toNat + (D b).toNat + (D d).toNat + (D e).toNat) ≤ w.heap.size
def LitQ (w9 w : World) (x : Rat) (v : Value) : Prop := ∃ ad, v = .slice (some ad) 1 1 ∧ Sl w (some ad) 1 1 2 (encQ x) ∧ w9.heap.size ≤ ad.block
structure RgF (w9 : World) (B : Nat) (h0 h1 : Hdr) (L1 L2 : List Rat) (x1 x2 x3 : Rat) (a b c d e f g h : Nat) (i : Nat) (v : Value) (w : World) : Prop where
  a : i = a → v = fracv x1.num x1.den
  b : i = b → LitQ w9 w x1 v
  c : i = c → ∃ q : Hdr, v = hv q ∧ OwnQ w B q (L1 ++ [x1]) ∧ (blk q.1 = blk h0.1 ∨ ∀ k, blk q.1 = some k → w9.heap.size ≤ k ∧ k ≤ w9.heap.size + 3)
  d : i = d → v = fracv x2.num x2.den
  e : i = e → LitQ w9 w x2 v
  f : i = f → ∃ q : Hdr, v = hv q ∧ OwnQ w B q (L2 ++ [x2]) ∧ (blk q.1 = blk h1.1 ∨ ∀ k, blk q.1 = some k → w9.heap.size + 4 ≤ k)
  g : i = g → v = fracv x3.num x3.den
  h : i = h → LitQ w9 w x3 v
section
variable {w9 : World} {B : Nat} {h0 h1 : Hdr} {r : List Hdr} {L1 L2 : List Rat} {R : List (List Rat)} {x1 x2 x3 : Rat} {a b c d e f g h : Nat}
theorem blk_lt {h : Hdr} {L : List Rat} {w : World} (O : OwnQ w B h L) {k : Nat} (hk : blk h.1 = some k) : k < w.heap.size := (O.lt k hk).2
theorem LitQ.keep (F : FS w9 B (h0 :: h1 :: r) (L1 :: L2 :: R)) {w w' : World} {x : Rat} {v : Value} (H : LitQ w9 w x v) (hE : RgE h0 h1 w w') : LitQ w9 w' x v := by
  obtain ⟨ad, e1, S, hn⟩ := H
  refine ⟨ad, e1, S.xb hE fun ad' ha _ q => ?_, hn⟩
  cases ha
  rcases q with q | q
  · have := blk_lt (F.own 0 _ _ rfl rfl) q; omega
  · have := blk_lt (F.own 1 _ _ rfl rfl) q; omega
theorem RgF.keep (F : FS w9 B (h0 :: h1 :: r) (L1 :: L2 :: R)) {i j : Nat} {v : Value} {w w' : World} (hij : i ≠ j) (H : RgF w9 B h0 h1 L1 L2 x1 x2 x3 a b c d e f g h i v w) (hE : RgE h0 h1 w w') (hG : RgG c f h0 h1 j w w') : RgF w9 B h0 h1 L1 L2 x1 x2 x3 a b c d e f g h i v w' := by
  refine ⟨H.a, fun q => (H.b q).keep F hE, fun q => ?_, H.d, fun q => (H.e q).keep F hE, fun q => ?_, H.g, fun q => (H.h q).keep F hE⟩
  · obtain ⟨y, e1, O, hn⟩ := H.c q
    refine ⟨y, e1, ?_, hn⟩
    unfold RgG at hG
    rw [if_neg (by omega)] at hG
    refine O.keptBy hG ?_
    split
    · cases hb : blk y.1 with
      | none => exact .inl rfl
      | some k =>
        refine .inr fun e2 => ?_
        rcases hn with hn | hn
        · exact F.ap 0 1 h0 h1 k (by omega) rfl rfl (by rw [← hn]; exact hb) e2.symm
        · have := hn k hb; have := blk_lt (F.own 1 _ _ rfl rfl) e2.symm; omega
    · cases hb : blk y.1 with
      | none => exact .inl rfl
      | some k => exact .inr (by simp)
  · obtain ⟨y, e1, O, hn⟩ := H.f q
    refine ⟨y, e1, ?_, hn⟩
    unfold RgG at hG
    rw [if_neg (c := j = f) (by omega)] at hG
    refine O.keptBy hG ?_
    split
    · cases hb : blk y.1 with
      | none => exact .inl rfl
      | some k =>
        refine .inr fun e2 => ?_
        rcases hn with hn | hn
        · exact F.ap 0 1 h0 h1 k (by omega) rfl rfl e2.symm (by rw [← hn]; exact hb)
        · have := hn k hb; have := blk_lt (F.own 0 _ _ rfl rfl) e2.symm; omega
    · cases hb : blk y.1 with
      | none => exact .inl rfl
      | some k => exact .inr (by simp)
theorem litQ {x : Rat} {w : World} {k : Hdr → World → Prop} (hk : ∀ ad w', Sl w' (some ad) 1 1 2 (encQ x) → bel w w' → ad.block = w.heap.size → w'.heap.size = w.heap.size + 1 → k (some ad, 1, 1) w') :
    wr Tryz.prog (Instr.buildSlice 32 1 #[(0, .agg #[.int .i64 (qv x).1, .int .i64 (qv x).2.1])]) (.one .slice) w k := by
  refine wr_lit tyFracs #[.int .i64 x.num, .int .i64 ((x.den : Nat) : Int)] (fill_one 2 _ _ rfl (by simp)) (by omega) (by omega) rfl (by unfold maxLen; omega) fun ad w' O hb hbl hs => ?_
  exact hk ad w' (O w.heap.size (Nat.le_refl _)).sl hb hbl hs
theorem app_enc (L : List Rat) (x : Rat) : L.flatMap encQ ++ encQ x = (L ++ [x]).flatMap encQ := by simp
end
end Go.Proofs.YtajpdnphamomjaaGreat

/- The first tableau: what stands behind the regions. -/

namespace Go.Proofs.YtajpdnphamomjaaGreat
open Go.RowKit Go.Q Go.Q.Num Go.V

theorem own_keep {w w' : World} {B B' : Nat} {e e' : TypeId} {sz sz' : Nat} {a a' : Option Addr} {n c n' c' : Nat} {xs ys : List Value} (O : Own w B e sz a n c xs) (O' : Own w B' e' sz' a' n' c' ys) (hne : e ≠ e') (hg : w.grownBy w' (blk a')) : Own w' B e sz a n c xs := O.keptBy hg (by
  cases hb : blk a with
  | none => exact .inl rfl
  | some k => exact .inr fun q => Own.apart O O' hne k hb q.symm)
theorem own_box {w w' : World} {B b : Nat} {e : TypeId} {sz : Nat} {a : Option Addr} {n c : Nat} {xs : List Value} (O : Own w B e sz a n c xs) (hg : w.grownBy w' (some b)) (hb : b < B) : Own w' B e sz a n c xs := O.keptBy hg (by
  cases h : blk a with
  | none => exact .inl rfl
  | some k => exact .inr fun q => by have := (O.lt k h).1; injection q; omega)
theorem xa_box {w w' : World} {a : Addr} {cs : List Value} {B : Nat} (X : Box w a cs) (h : Xa B w w') (hn : a.block < B) : Box w' a cs := X.xb h (by omega)

theorem app3 {w : World} {t : Addr} {H : TH} {p : Int} {T : Tb} {g0 g1 : Hdr} {x1 x2 x3 : Rat} {ad : Addr} (F : FS w (t.block + 1) (g0 :: g1 :: H.v :: H.s) ((T.low ++ [x1]) :: (T.high ++ [x2]) :: T.val :: T.rows)) (X : Box w t (tcells H p))
    (bs : Own w (t.block + 1) 3 1 H.b.1 H.b.2.1 H.b.2.2 (natv T.bas)) (rs : Own w (t.block + 1) 32 1 H.r.1 H.r.2.1 H.r.2.2 (H.s.map hv)) (S : Sl w (some ad) 1 1 2 (encQ x3)) (hl : T.val.length ≤ 100000) {K : World → Prop}
    (hk : ∀ (H' : TH) w', H'.l = g0 → H'.h = g1 → (blk H'.v.1 = blk H.v.1 ∨ ∀ b, blk H'.v.1 = some b → w.heap.size ≤ b) → H'.b = H.b → H'.r = H.r → H'.s = H.s → TabAt w' t H' p { T with low := T.low ++ [x1], high := T.high ++ [x2], val := T.val ++ [x3] } → Xb (fun k => k = t.block ∨ blk H.v.1 = some k) w w' → K w') :
    wr Tryz.prog (Builtin.append_ #[32, 32] 32 #[.slice H.v.1 H.v.2.1 H.v.2.2, .slice (some ad) 1 1]) (.one .slice) w fun x w1 => nn (some t) fun a => wu Tryz.prog (Instr.storeAt 32 (.pointer (some a)) (.slice g0.1 g0.2.1 g0.2.2)) w1 fun w2 =>
      nn (some t) fun a => wu Tryz.prog (Instr.storeAt 32 (.pointer (some (a.add 1))) (.slice g1.1 g1.2.1 g1.2.2)) w2 fun w3 => nn (some t) fun a => wu Tryz.prog (Instr.storeAt 32 (.pointer (some (a.add 2))) (.slice x.1 x.2.1 x.2.2)) w3 K := by
  have tl := X.lt
  have O : OwnQ w (t.block + 1) H.v T.val := F.own 2 _ _ rfl rfl
  have hn := slQ_len O.sl
  refine wr_appX tyFracs O S (by omega) rfl (by omega) rfl (by omega) (by unfold maxLen; omega) (by omega) fun a' c' w1 O1 hg hin hout => ?_
  rw [app_enc] at O1
  have hnew : blk a' = blk H.v.1 ∨ ∀ b, blk a' = some b → w.heap.size ≤ b := by
    rcases Nat.lt_or_ge H.v.2.2 (H.v.2.1 + 1) with q | q
    · exact .inr fun b e => by rw [hout q] at e; injection e with e; omega
    · exact .inl (hin q)
  have F1 := F.app (i := 2) (h' := (a', H.v.2.1 + 1, c')) rfl O1 hg hnew
  have X1 : Box w1 t (tcells H p) := X.grown hg fun e => by have := (O.lt _ e.symm).1; omega
  have bs1 := own_keep bs O (by decide) hg
  have rs1 := own_keep rs O (by decide) hg
  have x1 : Xb (fun k => k = t.block ∨ blk H.v.1 = some k) w w1 := Xb.of hg fun k e => .inr e
  refine nn_mk rfl ?_
  refine wu_box X1 (by kernel_rfl) (show 1 ≤ 6 by omega) rfl fun w2 X2 hg2 _ => ?_
  refine nn_mk rfl ?_
  refine wu_boxi X2 (by kernel_rfl) (by show 1 < 6; omega) rfl fun w3 X3 hg3 _ => ?_
  refine nn_mk rfl ?_
  refine wu_boxi X3 (by kernel_rfl) (by show 2 < 6; omega) rfl fun w4 X4 hg4 _ => ?_
  refine hk ⟨g0, g1, (a', H.v.2.1 + 1, c'), H.b, H.r, H.s⟩ w4 rfl rfl hnew rfl rfl rfl ⟨X4, ((F1.old hg2 (Nat.lt_succ_self _)).old hg3 (Nat.lt_succ_self _)).old hg4 (Nat.lt_succ_self _), own_box (own_box (own_box bs1 hg2 (Nat.lt_succ_self _)) hg3 (Nat.lt_succ_self _)) hg4 (Nat.lt_succ_self _),
    own_box (own_box (own_box rs1 hg2 (Nat.lt_succ_self _)) hg3 (Nat.lt_succ_self _)) hg4 (Nat.lt_succ_self _)⟩ ?_
  exact ((x1.trans (Xb.of hg2 fun k e => by injection e with e; exact .inl e.symm)).trans (Xb.of hg3 fun k e => by injection e with e; exact .inl e.symm)).trans (Xb.of hg4 fun k e => by injection e with e; exact .inl e.symm)

theorem atE_int {P : Program} {E : Rel} {t e : TypeId} {z : Value} {bytes : Nat} (T : TyS P t e z 1 bytes) (he : scal P e = true) {w : World} {a : Option Addr} {n c j : Nat} {kk : IntKind} {xs : List Int} (hE : E w w) (H : ∀ w', E w w' → Sl w' a n c 1 (ints kk xs)) {k : IntKind} {i : Int} {K : Int → Prop}
    (hj : i = (j : Int)) {x : Int} (hx : xs[j]? = some x) (hk : K x) : rdp P (Instr.indexAt t (.slice a n c) (.int k i)) (.one .addr) fun ad => rdE P E (Instr.loadAt e (.pointer (some ad))) (.one (.int kk)) w K := by
  have S := H w hE
  have hl := S.int
  have hlt := (List.getElem?_eq_some_iff.1 hx).1
  have hv : ∀ w', E w w' → ∃ ad, a = some ad ∧ w'.cell? (ad.add j) = some (.int kk x) := fun w' hw => by
    obtain ⟨ad, h1, h2, _⟩ := (H w' hw).at' j (.int kk x) (by unfold ints; rw [List.getElem?_map, hx]; rfl)
    exact ⟨ad, h1, h2⟩
  obtain ⟨ad, ha, _⟩ := hv w hE
  refine idx_mk T hj (by omega) ha ⟨x, fun w' hw => ?_, hk⟩
  obtain ⟨ad', ha', hc⟩ := hv w' hw
  rw [ha] at ha'; cases ha'
  rw [Nat.mul_one, run_loadAt, run_loadVar1 he hc]; rfl
theorem FS.push {w : World} {B : Nat} {hs : List Hdr} {Ls : List (List Rat)} {h : Hdr} {L : List Rat} (F : FS w B hs Ls) (O : OwnQ w B h L) (ap : ∀ (j : Nat) g k, hs[j]? = some g → blk g.1 = some k → blk h.1 = some k → False) : FS w B (hs ++ [h]) (Ls ++ [L]) := by
  have hl := F.len
  refine ⟨by simp [hl], fun i g K e1 e2 => ?_, fun i j g g' k hij e1 e2 e3 e4 => ?_⟩
  · rcases Nat.lt_or_ge i hs.length with h1 | h1
    · rw [List.getElem?_append_left h1] at e1
      rw [List.getElem?_append_left (by omega)] at e2
      exact F.own i g K e1 e2
    · have hi : i = hs.length := by
        have := (List.getElem?_eq_some_iff.1 e1).1
        simp at this; omega
      rw [List.getElem?_append_right h1, hi, Nat.sub_self] at e1
      rw [List.getElem?_append_right (by omega), hi, hl, Nat.sub_self] at e2
      cases e1; cases e2; exact O
  · have low : ∀ (i : Nat) g, (hs ++ [h])[i]? = some g → (i < hs.length ∧ hs[i]? = some g) ∨ (i = hs.length ∧ g = h) := by
      intro i g e
      rcases Nat.lt_or_ge i hs.length with h1 | h1
      · rw [List.getElem?_append_left h1] at e; exact .inl ⟨h1, e⟩
      · have hi : i = hs.length := by
          have := (List.getElem?_eq_some_iff.1 e).1
          simp at this; omega
        rw [List.getElem?_append_right h1, hi, Nat.sub_self] at e
        cases e; exact .inr ⟨hi, rfl⟩
    rcases low i g e1 with ⟨_, q1⟩ | ⟨q1, rfl⟩ <;> rcases low j g' e2 with ⟨_, q2⟩ | ⟨q2, rfl⟩
    · exact F.ap i j g g' k hij q1 q2 e3 e4
    · exact ap i g k q1 e3 e4
    · exact ap j g' k q2 e4 e3
    · omega
theorem hv_inj {x q : Hdr} (h : Value.slice x.1 x.2.1 x.2.2 = hv q) : x = q := by
  obtain ⟨a, b, c⟩ := x
  obtain ⟨a', b', c'⟩ := q
  simp only [hv, Value.slice.injEq] at h
  obtain ⟨h1, h2, h3⟩ := h
  subst h1 h2 h3; rfl
end Go.Proofs.YtajpdnphamomjaaGreat

/- The move of a tableau: what it computes. -/

namespace Go.Proofs.YtajpdnphamomjaaGreat
open Go.RowKit Go.Q Go.Q.Num Go.V

def Tb.by (T : Tb) (row k : Nat) (to : Rat) : Rat := (to + -(T.v (T.b row))) / T.a row k
def Tb.v0 (T : Tb) (row k : Nat) (to : Rat) : List Rat := (T.val.set (T.b row) to).set k (T.v k + T.by row k to)
def Tb.vN (T : Tb) (row k : Nat) (to : Rat) : Nat → List Rat
  | 0 => T.v0 row k to
  | i + 1 => if i ≠ row ∧ T.a i k ≠ 0 then (T.vN row k to i).set (T.b i) ((T.vN row k to i).getD (T.b i) 0 + T.a i k * T.by row k to) else T.vN row k to i
def divN (r : List Rat) (c : Rat) : Nat → List Rat
  | 0 => r
  | j + 1 => if r.getD j 0 ≠ 0 then (divN r c j).set j (0 + -(r.getD j 0 / c)) else divN r c j
def addN (r : List Rat) (c : Rat) (nr : List Rat) : Nat → List Rat
  | 0 => r
  | j + 1 => if nr.getD j 0 ≠ 0 then (addN r c nr j).set j ((addN r c nr j).getD j 0 + c * nr.getD j 0) else addN r c nr j
def Tb.nr (T : Tb) (row k : Nat) : List Rat := ((divN (T.rows.getD row []) (T.a row k) (T.rows.getD row []).length).set k 0).set (T.b row) (1 / T.a row k)
def Tb.rN (T : Tb) (row k : Nat) : Nat → List (List Rat)
  | 0 => T.rows.set row (T.nr row k)
  | i + 1 => if i ≠ row ∧ T.a i k ≠ 0 then (T.rN row k i).set i (addN ((T.rows.getD i []).set k 0) (T.a i k) (T.nr row k) (T.nr row k).length) else T.rN row k i
def Tb.move (T : Tb) (row k : Nat) (to : Rat) : Tb := { T with val := T.vN row k to T.bas.length, bas := T.bas.set row k, rows := T.rN row k T.rows.length }
structure MvFit (N M : Nat) (T : Tb) (row k : Nat) (to : Rat) : Prop where
  f1 : Fits (to + -(T.v (T.b row)))
  f2 : Fits (T.by row k to)
  f3 : Fits (T.v k + T.by row k to)
  f4 : ∀ i, i < M → i ≠ row → T.a i k ≠ 0 → Fits (T.a i k * T.by row k to) ∧ Fits ((T.vN row k to i).getD (T.b i) 0 + T.a i k * T.by row k to)
  f5 : ∀ j, j < N → T.a row j ≠ 0 → Fits (T.a row j / T.a row k) ∧ Fits (0 + -(T.a row j / T.a row k))
  f6 : Fits (1 / T.a row k)
  f7 : ∀ i, i < M → i ≠ row → T.a i k ≠ 0 → ∀ j, j < N → (T.nr row k).getD j 0 ≠ 0 → Fits (T.a i k * (T.nr row k).getD j 0) ∧ Fits ((addN ((T.rows.getD i []).set k 0) (T.a i k) (T.nr row k) j).getD j 0 + T.a i k * (T.nr row k).getD j 0)

theorem divN_len (r : List Rat) (c : Rat) : ∀ j, (divN r c j).length = r.length
  | 0 => rfl
  | j + 1 => by unfold divN; split <;> simp [divN_len r c j]
theorem divN_get (r : List Rat) (c : Rat) : ∀ j q, j ≤ q → (divN r c j)[q]? = r[q]?
  | 0, q, _ => rfl
  | j + 1, q, h => by
    unfold divN
    split
    · rw [List.getElem?_set_ne (by omega), divN_get r c j q (by omega)]
    · exact divN_get r c j q (by omega)
theorem addN_len (r : List Rat) (c : Rat) (nr : List Rat) : ∀ j, (addN r c nr j).length = r.length
  | 0 => rfl
  | j + 1 => by unfold addN; split <;> simp [addN_len r c nr j]
section
variable {T : Tb} {N M row k : Nat} {to : Rat}
theorem vN_len : ∀ i, (T.vN row k to i).length = T.val.length
  | 0 => by simp [Tb.vN, Tb.v0]
  | i + 1 => by unfold Tb.vN; split <;> simp [vN_len i]
theorem rN_len : ∀ i, (T.rN row k i).length = T.rows.length
  | 0 => by simp [Tb.rN]
  | i + 1 => by unfold Tb.rN; split <;> simp [rN_len i]
theorem rN_get : ∀ i q, i ≤ q → (T.rN row k i)[q]? = (T.rows.set row (T.nr row k))[q]?
  | 0, q, _ => rfl
  | i + 1, q, h => by
    unfold Tb.rN
    split
    · rw [List.getElem?_set_ne (by omega), rN_get i q (by omega)]
    · exact rN_get i q (by omega)
theorem rN_row : ∀ i, (T.rN row k i)[row]? = (T.rows.set row (T.nr row k))[row]?
  | 0 => rfl
  | i + 1 => by
    unfold Tb.rN
    split
    · rename_i h
      rw [List.getElem?_set_ne h.1, rN_row i]
    · exact rN_row i
theorem nr_len : (T.nr row k).length = (T.rows.getD row []).length := by simp [Tb.nr, divN_len]
end
theorem agg_qv {x : Int × Int × Unit} {r : Rat} (h : (Value.agg #[.int .i64 x.1, .int .i64 x.2.1]) = fracv r.num r.den) : x = qv r := by
  obtain ⟨a, b, u⟩ := x
  simp only [fracv, Value.agg.injEq, Array.mk.injEq, List.cons.injEq, Value.int.injEq, true_and, and_true] at h
  obtain ⟨h1, h2⟩ := h
  rw [h1, h2]; rfl
abbrev tupv (x : FE) : Value := .tuple #[.agg #[.int .i64 x.1.1, .int .i64 x.1.2.1], .int .i64 x.2.1]
theorem tup_eq {x y : FE} (h : tupv x = tupv y) : x = y := by
  obtain ⟨⟨a, b, u⟩, c, v⟩ := x
  obtain ⟨⟨a', b', u'⟩, c', v'⟩ := y
  simp only [tupv, Value.tuple.injEq, Array.mk.injEq, List.cons.injEq, Value.agg.injEq, Value.int.injEq, true_and, and_true] at h
  obtain ⟨⟨h1, h2⟩, h3⟩ := h
  subst h1 h2 h3; rfl
theorem get_some {l : List Rat} {j : Nat} (h : j < l.length) : l[j]? = some (l.getD j 0) := by
  rw [List.getD_eq_getElem?_getD, List.getElem?_eq_getElem h]; rfl
theorem set_self {α : Type} {l : List (List α)} {q : Nat} (hq : q < l.length) : l.set q (l.getD q []) = l := by
  rw [List.getD_eq_getElem?_getD, List.getElem?_eq_getElem hq]; exact List.set_getElem_self hq
theorem getD_set {α : Type} {l : List (List α)} {q : Nat} {Y : List α} (hq : q < l.length) : (l.set q Y).getD q [] = Y := by
  rw [List.getD_eq_getElem?_getD, List.getElem?_set_self hq]; rfl
theorem getD_set_ne' {α : Type} {l : List (List α)} {q q' : Nat} {Y : List α} (hq : q' ≠ q) : (l.set q' Y).getD q [] = l.getD q [] := by
  rw [List.getD_eq_getElem?_getD, List.getElem?_set_ne hq, List.getD_eq_getElem?_getD]
theorem TabAt.own_at {w : World} {t : Addr} {H : TH} {p : Int} {T : Tb} {N M : Nat} (A : TabAt w t H p T) (ok : TbOk N M T) {q : Nat} {g : Hdr} (hg : H.s[q]? = some g) (hq : q < M) : OwnQ w (t.block + 1) g (T.rows.getD q []) := by
  obtain ⟨g', h1, h2⟩ := A.hs_get ok hq
  rw [hg] at h1; cases h1; exact h2
theorem set_twice {α : Type} {l : List (List α)} {q : Nat} {Y : List α} (hq : q < l.length) (j : Nat) (r : α) : (l.set q Y).set q (((l.set q Y).getD q []).set j r) = l.set q (Y.set j r) := by
  rw [List.set_set, List.getD_eq_getElem?_getD, List.getElem?_set_self hq]; rfl
end Go.Proofs.YtajpdnphamomjaaGreat

/- The first tableau: the walk of begin. -/


namespace Go.Proofs.YtajpdnphamomjaaGreat
open Go.RowKit Go.Q Go.Q.Num Go.V

def q1 (l : List Int) : List Rat := l.map fun (x : Int) => (x : Rat)
def sumQ (row ls : List Int) : Nat → Rat
  | 0 => 0
  | k + 1 => if row.getD k 0 ≠ 0 then sumQ row ls k + ((row.getD k 0 : Int) : Rat) * ((ls.getD k 0 : Int) : Rat) else sumQ row ls k
def rowQ (M : Nat) (row : List Int) : List Rat := q1 row ++ List.replicate M 0
def tb0 (up : List Int) (T : List (List Int)) (rt ls hs : List Int) (i : Nat) : Tb :=
  { low := q1 ls ++ q1 (rt.take i), high := q1 hs ++ q1 (rt.take i), val := q1 ls ++ (T.take i).map (fun row => sumQ row ls up.length), bas := (List.range i).map (fun j => up.length + j), rows := (T.take i).map (rowQ T.length) }
def tbA (ls hs : List Int) (k : Nat) : Tb := { low := q1 (ls.take k), high := q1 (hs.take k), val := q1 (ls.take k), bas := [], rows := [] }
def BgFit (n : Nat) (T : List (List Int)) (ls : List Int) : Prop :=
  ∀ row ∈ T, ∀ k, k < n → row.getD k 0 ≠ 0 → Fits (((row.getD k 0 : Int) : Rat) * ((ls.getD k 0 : Int) : Rat)) ∧ Fits (sumQ row ls k + ((row.getD k 0 : Int) : Rat) * ((ls.getD k 0 : Int) : Rat))
theorem q1_snoc {l : List Int} {k : Nat} {x : Int} (h : l[k]? = some x) : q1 (l.take (k + 1)) = q1 (l.take k) ++ [(x : Rat)] := by
  unfold q1; rw [List.take_add_one, h]; simp
def Bg9 (l : List Int) : Prop := ∀ x ∈ l, -1000000000 ≤ x ∧ x ≤ 1000000000

theorem own_box' {w w' : World} {B b : Nat} {e : TypeId} {sz : Nat} {a : Option Addr} {n c : Nat} {xs : List Value} (O : Own w B e sz a n c xs) (hg : w.grownBy w' (some b)) (hb : ∀ k, blk a = some k → k ≠ b) : Own w' B e sz a n c xs := O.keptBy hg (by
  cases h : blk a with
  | none => exact .inl rfl
  | some k => exact .inr fun q => hb k h (by injection q))
abbrev prQ (r : Rat) : Int × Int := (r.num, ((r.den : Nat) : Int))
def rpr (M : Nat) (row : List Int) (N j : Nat) : List (Int × Int) := ((rowQ M row).take j).map prQ ++ List.replicate (N - j) (0, 0)
theorem rowQ_len (M : Nat) (row : List Int) : (rowQ M row).length = row.length + M := by simp [rowQ, q1]
theorem rowQ_get {M : Nat} {row : List Int} {j : Nat} (h : j < row.length + M) : (rowQ M row)[j]? = some ((row.getD j 0 : Int) : Rat) := by
  unfold rowQ q1
  rcases Nat.lt_or_ge j row.length with q | q
  · rw [List.getElem?_append_left (by simpa using q), List.getElem?_map, List.getD_eq_getElem?_getD, List.getElem?_eq_getElem q]; rfl
  · rw [List.getElem?_append_right (by simpa using q), List.getElem?_replicate, if_pos (by simp; omega), List.getD_eq_getElem?_getD, List.getElem?_eq_none q]; rfl
section
variable {row : List Int} {n T N j : Nat}
theorem rpr_len (hrl : row.length = n) (hN : n + T = N) (hj : j ≤ N) : (rpr T row N j).length = N := by
  unfold rpr
  rw [List.length_append, List.length_map, List.length_take, rowQ_len, List.length_replicate]; omega
theorem rpr_step (hrl : row.length = n) (hN : n + T = N) (hj : j < N) : (rpr T row N j).set j (row.getD j 0, 1) = rpr T row N (j + 1) := by
  unfold rpr
  have hl : ((rowQ T row).take j).length = j := by rw [List.length_take, rowQ_len]; omega
  rw [List.set_append_right _ _ (by rw [List.length_map, hl]; exact Nat.le_refl _), List.length_map, hl, Nat.sub_self, show N - j = (N - (j + 1)) + 1 by omega, List.replicate_succ, List.set_cons_zero, List.take_add_one, rowQ_get (by omega)]
  simp [prQ]
theorem rpr_get (hrl : row.length = n) (hN : n + T = N) (hj : j < N) : (rpr T row N (j + 1))[j]? = some (row.getD j 0, 1) := by
  rw [← rpr_step hrl hN hj, List.getElem?_set_self (by rw [rpr_len hrl hN (by omega)]; exact hj)]
end
theorem tb0_ok {up : List Int} {T : List (List Int)} {rt ls hs : List Int} (hok : sysE up T rt = 0) (hll : ls.length = up.length) (hhl : hs.length = up.length) (hlb : Bg9 ls) (hhb : Bg9 hs) (hsf : ∀ row ∈ T, Fits (sumQ row ls up.length)) : TbOk (up.length + T.length) T.length (tb0 up T rt ls hs T.length) := by
  obtain ⟨hul, hTl, hR, hA⟩ := sysE_ok hok
  have hrt := hA.1
  have fq : ∀ {l : List Int} {x : Rat}, Bg9 l → x ∈ q1 l → Fits x := by
    intro l x hb hx
    obtain ⟨y, hy, rfl⟩ := List.mem_map.1 hx
    have := hb y hy
    exact fits_of_int ⟨by omega, by omega⟩
  have frt : ∀ x ∈ q1 (rt.take T.length), Fits x := fun x hx => fq (l := rt) (fun y hy => hR.2.1 y hy) (by
    obtain ⟨y, hy, rfl⟩ := List.mem_map.1 hx
    exact List.mem_map.2 ⟨y, List.mem_of_mem_take hy, rfl⟩)
  have tT : T.take T.length = T := List.take_length
  refine ⟨by simp [tb0, q1, hll, hrt], by simp [tb0, q1, hhl, hrt], by simp [tb0, q1, hll], by simp [tb0], by simp [tb0], fun r hr => ?_, fun b hb => ?_, fun x hx => ?_, fun x hx => ?_, fun x hx => ?_, fun r hr x hx => ?_, by omega, by omega⟩
  · obtain ⟨row, hm, rfl⟩ := List.mem_map.1 hr
    rw [tT] at hm
    rw [rowQ_len, hA.2 row hm]
  · obtain ⟨j, hj, rfl⟩ := List.mem_map.1 hb
    have := List.mem_range.1 hj
    omega
  · rcases List.mem_append.1 hx with hx | hx
    · exact fq hlb hx
    · exact frt x hx
  · rcases List.mem_append.1 hx with hx | hx
    · exact fq hhb hx
    · exact frt x hx
  · rcases List.mem_append.1 hx with hx | hx
    · exact fq hlb hx
    · obtain ⟨row, hm, rfl⟩ := List.mem_map.1 hx
      rw [tT] at hm
      exact hsf row hm
  · obtain ⟨row, hm, rfl⟩ := List.mem_map.1 hr
    rw [tT] at hm
    rcases List.mem_append.1 hx with hx | hx
    · exact fq (fun y hy => by have := hR.2.2 row hm y hy; omega) hx
    · rw [(List.mem_replicate.1 hx).2]; exact fits_of_int (n := 0) ⟨by omega, by omega⟩
theorem sumQ_ge {row ls : List Int} {n : Nat} (hrl : row.length = n) : ∀ m, sumQ row ls (n + m) = sumQ row ls n
  | 0 => rfl
  | m + 1 => by
    show sumQ row ls (n + m + 1) = _
    rw [sumQ, if_neg, sumQ_ge hrl m]
    intro h
    exact h (by rw [List.getD_eq_getElem?_getD, List.getElem?_eq_none (by omega)]; rfl)

set_option maxHeartbeats 6400000 in
theorem beginF (u r b lo hi : Hdr) (up : List Int) (T : List (List Int)) (rt ls hs : List Int) (w : World) (HS : Sys w u r b up T rt) (hok : sysE up T rt = 0) (HL : Sl w lo.1 lo.2.1 lo.2.2 1 (ints .i64 ls)) (HH : Sl w hi.1 hi.2.1 hi.2.2 1 (ints .i64 hs))
    (hll : ls.length = up.length) (hhl : hs.length = up.length) (hlb : Bg9 ls) (hhb : Bg9 hs) :
    callP Tryz.prog (PnF (¬ BgFit up.length T ls) w) 61 [sysv u r b, .slice lo.1 lo.2.1 lo.2.2, .slice hi.1 hi.2.1 hi.2.2] (.one (.one .ptr)) w (fun (x : Option Addr) w' => ∃ (t : Addr) (H : TH), x = some t ∧ w.heap.size ≤ t.block ∧ TabAt w' t H 0 (tb0 up T rt ls hs T.length) ∧ TbOk (up.length + T.length) T.length (tb0 up T rt ls hs T.length) ∧ bel w w') := by
  have main : Calls Tryz.prog 61 #[sysv u r b, .slice lo.1 lo.2.1 lo.2.2, .slice hi.1 hi.2.1 hi.2.2] w (retP (fun v w' => ∃ x : Option Addr, v = .pointer x ∧ ∃ (t : Addr) (H : TH), x = some t ∧ w.heap.size ≤ t.block ∧ TabAt w' t H 0 (tb0 up T rt ls hs T.length) ∧ TbOk (up.length + T.length) T.length (tb0 up T rt ls hs T.length) ∧ bel w w') (some (PnF (¬ BgFit up.length T ls) w))) := by
    refine S61_calls u.1 u.2.1 u.2.2 r.1 r.2.1 r.2.2 b.1 b.2.1 b.2.2 lo.1 lo.2.1 lo.2.2 hi.1 hi.2.1 hi.2.2 w _ _ ?_
    generalize hPn : PnF (¬ BgFit up.length T ls) w = Pn
    have pn : ∀ {A' : Prop} {w1 w2 : World}, (BgFit up.length T ls → ¬ A') → bel w w1 → bel w1 w2 → ∀ ch w', PnF A' w2 ch w' → Pn ch w' := by
      intro A' w1 w2 hA hx hb ch w' q
      rw [← hPn]
      exact PnF.up (fun a mf => hA mf a) (hx.trans hb) ch w' q
    obtain ⟨hul, hTl, hR, hA⟩ := sysE_ok hok
    have hur := HS.u.int
    have hlr := HL.int
    have hhr := HH.int
    unfold S61
    refine wr_box fun x1 w2 X1 h2 hx1 hs1 => ?_
    replace X1 : Box w2 x1 (sysc u r b) := X1
    refine wr_box fun t w4 X3 h4 ht hs3 => ?_
    replace X3 : Box w4 t (tcells ⟨(none, 0, 0), (none, 0, 0), (none, 0, 0), (none, 0, 0), (none, 0, 0), []⟩ 0) := X3
    replace X1 := X1.up h4
    have l1 := X1.lt
    have l3 := X3.lt
    have b4 := h2.trans h4
    have s4 := b4.size
    have nt : w.heap.size ≤ t.block := by have := h2.size; omega
    have nx1 : x1.block < t.block := by omega
    refine rd_box0 (by kernel_rfl) X1 rfl rfl ?_
    -- the variables of the system
    refine loop_up up.length (fun k w' => bel w w' ∧ Box w' x1 (sysc u r b) ∧ ∃ H : TH, H.s = [] ∧ TabAt w' t H 0 (tbA ls hs k)) ⟨b4, X1, _, rfl, ⟨X3, ⟨rfl, ?_, ?_⟩, Own.nil _ _ _ _, Own.nil _ _ _ _⟩⟩ ?_
    · intro i h L e1 e2
      match i with
      | 0 => cases e1; cases e2; exact Own.nil _ _ _ _
      | 1 => cases e1; cases e2; exact Own.nil _ _ _ _
      | 2 => cases e1; cases e2; exact Own.nil _ _ _ _
      | i + 3 => cases e1
    · intro i j h g k hij e1 _ e3 _
      match i with
      | 0 => cases e1; cases e3
      | 1 => cases e1; cases e3
      | 2 => cases e1; cases e3
      | i + 3 => cases e1
    rintro k w8 hk ⟨b8, X8, H, hH, A8⟩ again hag _
    refine br_dec (fun hlt => ?_) (fun hge => ?_)
    · have hkn : k < up.length := by dsimp only at hlt; omega
      obtain ⟨xl, hxl⟩ : ∃ x, ls[k]? = some x := ⟨_, List.getElem?_eq_getElem (by omega)⟩
      obtain ⟨xh, hxh⟩ : ∃ x, hs[k]? = some x := ⟨_, List.getElem?_eq_getElem (by omega)⟩
      refine drw_mk fun w9 h9 _ => ?_
      have A9 := A8.up h9
      have X9 := X8.up h9
      have b9 := b8.trans h9
      generalize hTB : tbA ls hs k = TB at A9
      have hTv : TB.val.length ≤ 100000 := by rw [← hTB]; simp [tbA, q1]; omega
      have hTl' : TB.low.length ≤ 100000 := by rw [← hTB]; simp [tbA, q1]; omega
      have hTh' : TB.high.length ≤ 100000 := by rw [← hTB]; simp [tbA, q1]; omega
      have F9 := A9.fs
      have hbx : ∀ w', RgE H.l H.h w9 w' → Box w' t (tcells H 0) := fun w' hE => A9.box.xb hE (by
        rintro (q | q)
        · have := ((F9.own 0 _ _ rfl rfl).lt _ q).1; omega
        · have := ((F9.own 1 _ _ rfl rfl).lt _ q).1; omega)
      have bRg : ∀ w', RgE H.l H.h w9 w' → bel w w' := fun w' hE => Xb.bel b9 hE (by
        rintro k (q | q)
        · have := ((F9.own 0 _ _ rfl rfl).lt _ q).1; omega
        · have := ((F9.own 1 _ _ rfl rfl).lt _ q).1; omega)
      have st0 : RgS w9 (t.block + 1) H.l H.h TB.low TB.high 11 12 13 22 23 24 33 34 (fun _ => false) w9 := ⟨fun _ => F9.own 0 _ _ rfl rfl, fun _ => F9.own 1 _ _ rfl rfl, fun _ => ⟨rfl, rfl, rfl, rfl⟩, fun _ => by simp, by simp⟩
      refine flExC_mk (RgE H.l H.h) (RgG 13 24 H.l H.h) (RgS w9 (t.block + 1) H.l H.h TB.low TB.high 11 12 13 22 23 24 33 34) (fun i _ v w' => RgF w9 (t.block + 1) H.l H.h TB.low TB.high (xl : Rat) (xh : Rat) (xl : Rat) 11 12 13 22 23 24 33 34 i v w')
        (fun w => Xb.refl _ w) (fun _ _ _ p q => p.trans q) (fun i j _ v w1 w2 hij q hE hG => RgF.keep F9 hij q hE hG) st0 ?_
      refine nn_mk rfl ?_
      refine rdE_box0 (by kernel_rfl) (fun w' hE => hbx w' hE.1) rfl rfl ?_
      refine atE_int tyI64 (by kernel_rfl) ⟨Xb.refl _ _, fun _ => false, fun _ _ => rfl, st0⟩ (fun w' hE => HL.up (bRg w' hE.1)) rfl hxl ?_
      refine flcC_mk (fun D w' hD hE hS _ => ?_) fun x23 => ?_
      · skip
        refine callP_of (call_mono (lWholeS xl w') fun y w'' q => ?_)
        obtain ⟨hy, hb, hs⟩ := q
        exact ⟨Xb.of (grown_of_bel hb none) (fun k e => by cases e), by unfold RgG; rw [if_neg (by decide), if_neg (by decide)]; exact grown_of_bel hb none, ⟨fun q => (hS.o0 (by simpa [setD] using q)).kept hb, fun q => (hS.o1 (by simpa [setD] using q)).kept hb, fun q => by have h1 := hS.cl (by simpa [setD] using q); simpa [setD] using h1, fun q => by have h1 := hS.up (by simpa [setD] using q); simp [setD, hD] at h1 ⊢; omega, by have h1 := hS.lw; simp [setD, hD] at h1 ⊢; omega⟩, ⟨fun _ => by rw [hy]; rfl, fun e => absurd e (by decide), fun e => absurd e (by decide), fun e => absurd e (by decide), fun e => absurd e (by decide), fun e => absurd e (by decide), fun e => absurd e (by decide), fun e => absurd e (by decide)⟩⟩
      refine flcC_mk (fun D w' hD hE hS hf => ?_) fun x29 => ?_
      · intro ka
        have ev := agg_qv (hf.1.a rfl)
        subst ev
        refine litQ fun ad w'' S1 hb hbl hs => ?_
        exact ⟨Xb.of (grown_of_bel hb none) (fun k e => by cases e), by unfold RgG; rw [if_neg (by decide), if_neg (by decide)]; exact grown_of_bel hb none, ⟨fun q => (hS.o0 (by simpa [setD] using q)).kept hb, fun q => (hS.o1 (by simpa [setD] using q)).kept hb, fun q => by have h1 := hS.cl (by simpa [setD] using q); simpa [setD] using h1, fun q => by have h1 := hS.up (by simpa [setD] using q); simp [setD, hD] at h1 ⊢; omega, by have h1 := hS.lw; simp [setD, hD] at h1 ⊢; omega⟩, ⟨fun e => absurd e (by decide), fun _ => ⟨ad, rfl, S1, by have := hE.size; omega⟩, fun e => absurd e (by decide), fun e => absurd e (by decide), fun e => absurd e (by decide), fun e => absurd e (by decide), fun e => absurd e (by decide), fun e => absurd e (by decide)⟩⟩
      refine flcC_mk (fun D w' hD hE hS hf => ?_) fun x35 => ?_
      · intro kb ka
        obtain ⟨ad, ev, S1, _⟩ := hf.1.b rfl
        obtain rfl : x29 = (some ad, 1, 1) := hv_inj ev
        have O9 := hS.o0 hD
        have hn := slQ_len O9.sl
        refine wr_appX tyFracs O9 S1 (by have := (hbx w' hE).lt; omega) rfl (by omega) rfl (by omega) (by unfold maxLen; omega) (by omega) fun a' c' w'' O' hg hin hout => ?_
        rw [app_enc] at O'
        exact ⟨Xb.of hg fun k e => .inl e, by unfold RgG; rw [if_pos rfl]; exact hg, ⟨fun q => by simp [setD] at q, fun q => (hS.o1 (by simpa [setD] using q)).keptBy hg (by cases hb : blk H.h.1 with | none => exact .inl rfl | some k => exact .inr fun e => F9.ap 0 1 _ _ k (by omega) rfl rfl e.symm hb), fun q => by simp [setD] at q, fun q => by simp [setD] at q, by have h1 := hS.lw; have h2 := hg.size; simp [setD] at h1 ⊢; omega⟩, ⟨fun e => absurd e (by decide), fun e => absurd e (by decide), fun _ => ⟨(a', _, c'), rfl, O', by
            rcases Nat.lt_or_ge H.l.2.2 (H.l.2.1 + 1) with q | q
            · refine .inr fun k e => ?_
              rw [hout q] at e
              injection e with e
              have h1 := hS.up hD
              have h2 := Bool.toNat_le (D 11)
              have h3 := Bool.toNat_le (D 12)
              have h4 := Bool.toNat_le (D 34)
              have h5 := hE.size
              omega
            · exact .inl (hin q)⟩, fun e => absurd e (by decide), fun e => absurd e (by decide), fun e => absurd e (by decide), fun e => absurd e (by decide), fun e => absurd e (by decide)⟩⟩
      refine nn_mk rfl ?_
      refine rdE_box (by kernel_rfl) (fun w' hE => hbx w' hE.1) rfl rfl ?_
      refine atE_int tyI64 (by kernel_rfl) ⟨Xb.refl _ _, fun _ => false, fun _ _ => rfl, st0⟩ (fun w' hE => HH.up (bRg w' hE.1)) rfl hxh ?_
      refine flcC_mk (fun D w' hD hE hS _ => ?_) fun x45 => ?_
      · intro kc kb ka
        refine callP_of (call_mono (lWholeS xh w') fun y w'' q => ?_)
        obtain ⟨hy, hb, hs⟩ := q
        exact ⟨Xb.of (grown_of_bel hb none) (fun k e => by cases e), by unfold RgG; rw [if_neg (by decide), if_neg (by decide)]; exact grown_of_bel hb none, ⟨fun q => (hS.o0 (by simpa [setD] using q)).kept hb, fun q => (hS.o1 (by simpa [setD] using q)).kept hb, fun q => by simp [setD, kc] at q, fun q => by simp [setD, kc] at q, by have h1 := hS.lw; simp [setD, hD] at h1 ⊢; omega⟩, ⟨fun e => absurd e (by decide), fun e => absurd e (by decide), fun e => absurd e (by decide), fun _ => by rw [hy]; rfl, fun e => absurd e (by decide), fun e => absurd e (by decide), fun e => absurd e (by decide), fun e => absurd e (by decide)⟩⟩
      refine flcC_mk (fun D w' hD hE hS hf => ?_) fun x51 => ?_
      · intro kd kc kb ka
        have ev := agg_qv (hf.1.d rfl)
        subst ev
        refine litQ fun ad w'' S1 hb hbl hs => ?_
        exact ⟨Xb.of (grown_of_bel hb none) (fun k e => by cases e), by unfold RgG; rw [if_neg (by decide), if_neg (by decide)]; exact grown_of_bel hb none, ⟨fun q => (hS.o0 (by simpa [setD] using q)).kept hb, fun q => (hS.o1 (by simpa [setD] using q)).kept hb, fun q => by simp [setD, kc] at q, fun q => by simp [setD, kc] at q, by have h1 := hS.lw; simp [setD, hD] at h1 ⊢; omega⟩, ⟨fun e => absurd e (by decide), fun e => absurd e (by decide), fun e => absurd e (by decide), fun e => absurd e (by decide), fun _ => ⟨ad, rfl, S1, by have := hE.size; omega⟩, fun e => absurd e (by decide), fun e => absurd e (by decide), fun e => absurd e (by decide)⟩⟩
      refine flcC_mk (fun D w' hD hE hS hf => ?_) fun x57 => ?_
      · intro ke kd kc kb ka
        obtain ⟨ad, ev, S1, _⟩ := hf.1.e rfl
        obtain rfl : x51 = (some ad, 1, 1) := hv_inj ev
        have O9 := hS.o1 hD
        have hn := slQ_len O9.sl
        refine wr_appX tyFracs O9 S1 (by have := (hbx w' hE).lt; omega) rfl (by omega) rfl (by omega) (by unfold maxLen; omega) (by omega) fun a' c' w'' O' hg hin hout => ?_
        rw [app_enc] at O'
        exact ⟨Xb.of hg fun k e => .inr e, by unfold RgG; rw [if_neg (by decide), if_pos rfl]; exact hg, ⟨fun q => by simp [setD, kc] at q, fun q => by simp [setD] at q, fun q => by simp [setD, kc] at q, fun q => by simp [setD, kc] at q, by have h1 := hS.lw; have h2 := hg.size; simp [setD] at h1 ⊢; omega⟩, ⟨fun e => absurd e (by decide), fun e => absurd e (by decide), fun e => absurd e (by decide), fun e => absurd e (by decide), fun e => absurd e (by decide), fun _ => ⟨(a', _, c'), rfl, O', by
            rcases Nat.lt_or_ge H.h.2.2 (H.h.2.1 + 1) with q | q
            · refine .inr fun k e => ?_
              rw [hout q] at e
              injection e with e
              have h1 := hS.lw
              simp [ka, kb, kd, ke] at h1
              omega
            · exact .inl (hin q)⟩, fun e => absurd e (by decide), fun e => absurd e (by decide)⟩⟩
      refine nn_mk rfl ?_
      refine rdE_box (by kernel_rfl) (fun w' hE => hbx w' hE.1) rfl rfl ?_
      refine atE_int tyI64 (by kernel_rfl) ⟨Xb.refl _ _, fun _ => false, fun _ _ => rfl, st0⟩ (fun w' hE => HL.up (bRg w' hE.1)) rfl hxl ?_
      refine flcC_mk (fun D w' hD hE hS _ => ?_) fun x67 => ?_
      · intro kf ke kd kc kb ka
        refine callP_of (call_mono (lWholeS xl w') fun y w'' q => ?_)
        obtain ⟨hy, hb, hs⟩ := q
        exact ⟨Xb.of (grown_of_bel hb none) (fun k e => by cases e), by unfold RgG; rw [if_neg (by decide), if_neg (by decide)]; exact grown_of_bel hb none, ⟨fun q => (hS.o0 (by simpa [setD] using q)).kept hb, fun q => (hS.o1 (by simpa [setD] using q)).kept hb, fun q => by simp [setD, kc] at q, fun q => by simp [setD, kc] at q, by have h1 := hS.lw; simp [setD] at h1 ⊢; omega⟩, ⟨fun e => absurd e (by decide), fun e => absurd e (by decide), fun e => absurd e (by decide), fun e => absurd e (by decide), fun e => absurd e (by decide), fun e => absurd e (by decide), fun _ => by rw [hy]; rfl, fun e => absurd e (by decide)⟩⟩
      refine flcC_mk (fun D w' hD hE hS hf => ?_) fun x73 => ?_
      · intro kg kf ke kd kc kb ka
        have ev := agg_qv (hf.1.g rfl)
        subst ev
        refine litQ fun ad w'' S1 hb hbl hs => ?_
        exact ⟨Xb.of (grown_of_bel hb none) (fun k e => by cases e), by unfold RgG; rw [if_neg (by decide), if_neg (by decide)]; exact grown_of_bel hb none, ⟨fun q => (hS.o0 (by simpa [setD] using q)).kept hb, fun q => (hS.o1 (by simpa [setD] using q)).kept hb, fun q => by have h1 := hS.cl (by simpa [setD] using q); simpa [setD] using h1, fun q => by have h1 := hS.up (by simpa [setD] using q); simp [setD, hD] at h1 ⊢; omega, by have h1 := hS.lw; simp [setD] at h1 ⊢; omega⟩, ⟨fun e => absurd e (by decide), fun e => absurd e (by decide), fun e => absurd e (by decide), fun e => absurd e (by decide), fun e => absurd e (by decide), fun e => absurd e (by decide), fun e => absurd e (by decide), fun _ => ⟨ad, rfl, S1, by have := hE.size; omega⟩⟩⟩
      refine flendC_mk fun wE hE hS hf => ?_
      obtain ⟨ad, ev, S3, _⟩ := hf.1.h rfl
      obtain rfl : x73 = (some ad, 1, 1) := hv_inj ev
      obtain ⟨g1, e1, O1, n1⟩ := hf.2.2.1.f rfl
      obtain rfl : x57 = g1 := hv_inj e1
      obtain ⟨g0, e0, O0, n0⟩ := hf.2.2.2.2.2.1.c rfl
      obtain rfl : x35 = g0 := hv_inj e0
      have FE := FS.two F9 hE (fun k q => q) O0 O1 (n0.imp id fun q k e => (q k e).1) (n1.imp id fun q k e => by have := q k e; omega) (by
        intro k q0 q1
        rcases n0 with n0 | n0 <;> rcases n1 with n1 | n1
        · exact F9.ap 0 1 _ _ k (by omega) rfl rfl (by rw [← n0]; exact q0) (by rw [← n1]; exact q1)
        · have := blk_lt (F9.own 0 _ _ rfl rfl) (by rw [← n0]; exact q0); have := n1 k q1; omega
        · have := blk_lt (F9.own 1 _ _ rfl rfl) (by rw [← n1]; exact q1); have := n0 k q0; omega
        · have := n0 k q0; have := n1 k q1; omega)
      have tys : ∀ {e : TypeId} {sz : Nat} {a : Option Addr} {n c : Nat} {xs : List Value}, e ≠ 60 → Own w9 (t.block + 1) e sz a n c xs → Own wE (t.block + 1) e sz a n c xs := fun he O => Own_xb O hE (by
        rintro k hk (q | q)
        · exact Own.apart O (F9.own 0 _ _ rfl rfl) he k hk q
        · exact Own.apart O (F9.own 1 _ _ rfl rfl) he k hk q)
      refine app3 FE (hbx wE hE) (tys (by decide) A9.bs) (tys (by decide) A9.rs) S3 hTv fun H' wF hl' hh' hv' hb' hr' hs' AF xF => ?_
      have bF : bel w wF := Xb.bel (bRg wE hE) xF (by
        rintro k (q | q)
        · omega
        · have := ((F9.own 2 _ _ rfl rfl).lt _ q).1; omega)
      refine z_eq (by exact IntWalk.i64_in _ ⟨by dsimp only; omega, by dsimp only; omega⟩) ?_
      refine hag _ hkn ⟨bF, ?_, H', by rw [hs', hH], ?_⟩
      · exact Box.xb (X9.xb hE (by
          rintro (q | q)
          · have := ((F9.own 0 _ _ rfl rfl).lt _ q).1; omega
          · have := ((F9.own 1 _ _ rfl rfl).lt _ q).1; omega)) xF (by
          rintro (q | q)
          · omega
          · have := ((F9.own 2 _ _ rfl rfl).lt _ q).1; omega)
      · subst hTB
        unfold tbA at AF ⊢
        rw [q1_snoc hxl, q1_snoc hxh]
        exact AF
    · have hkn : k = up.length := by dsimp only at hge; omega
      subst hkn
      clear hag hge again
      have e0 : tbA ls hs up.length = tb0 up T rt ls hs 0 := by
        unfold tbA tb0
        rw [List.take_of_length_le (by omega), List.take_of_length_le (by omega)]
        simp [q1]
      rw [e0] at A8
      have hrT := HS.r.len
      have hrb := HS.b.int
      have hTr : T.length = rt.length := hA.1.symm
      refine rd_box (by kernel_rfl) X8 rfl rfl ?_
      refine loop_up T.length (fun i w' => bel w w' ∧ Box w' x1 (sysc u r b) ∧ (∀ (q : Nat) row, q < i → T[q]? = some row → Fits (sumQ row ls up.length)) ∧ ∃ H : TH, TabAt w' t H 0 (tb0 up T rt ls hs i)) ⟨b8, X8, fun q _ h => absurd h (Nat.not_lt_zero q), H, A8⟩ ?_
      clear A8 X8 b8 hH H
      rintro i w88 hi ⟨b88, X88, hsf, H, A88⟩ again hag _
      refine br_dec (fun hlt => ?_) (fun hge => ?_)
      case refine_2 =>
        have hiM : i = T.length := by dsimp only at hge; omega
        subst hiM
        exact ⟨some t, rfl, t, H, rfl, nt, A88, tb0_ok hok hll hhl hlb hhb (fun row hm => by obtain ⟨q, hq, e⟩ := List.mem_iff_getElem.1 hm; exact hsf q row hq (by rw [List.getElem?_eq_getElem hq, e])), b88⟩
      have hiT : i < T.length := by dsimp only at hlt; omega
      have HS8 := HS.up b88
      refine HS8.r.at tyTab (by kernel_rfl) rfl (by dsimp only at hlt; omega) fun hr row hrow HR => ?_
      have hrl : row.length = up.length := hA.2 row (mem_at hrow)
      have hrn := HR.int
      have hrowT := mem_at hrow
      refine rd_box0 (by kernel_rfl) X88 rfl rfl ?_
      refine rd_box (by kernel_rfl) X88 rfl rfl ?_
      refine z_eq (m := ((up.length + T.length : Nat) : Int)) (by rw [IntWalk.i64_in _ ⟨by dsimp only; omega, by dsimp only; omega⟩]; dsimp only; omega) ?_
      generalize hN : up.length + T.length = N
      refine wr_make tyFracs N rfl rfl (by omega) (by unfold maxLen; omega) fun xd w95 OX h95 hxd hs95 => ?_
      have O95 : OwnF w95 (t.block + 1) (some xd, N, N) (List.replicate N (0, 0)) := by
        have := OX (t.block + 1) (by have := A88.box.lt; omega)
        rw [made_flat encF_len (by omega) (0, 0) (fracv 0 0).cells rfl N] at this
        exact this
      refine callP_of (call_mono (lWhole 0 w95) fun x96 w97 q => ?_)
      obtain ⟨e96, h97⟩ := q
      subst e96
      refine boxF fun x98 w100 h100 X100 n98 => ?_
      replace X100 : Box w100 x98 (encQ (sumQ row ls 0)) := X100
      have b100 : bel w88 w100 := (h95.trans h97).trans h100
      have n98' : w88.heap.size ≤ x98.block := by have := h95.size; have := h97.size; omega
      have nxd : w88.heap.size ≤ xd.block := by omega
      have ne98 : xd.block ≠ x98.block := by have := h97.size; omega
      have f0 : Fits (0 : Rat) := fits_of_int (n := 0) ⟨by omega, by omega⟩
      refine loop_up N (fun j w' => bel w88 w' ∧ OwnF w' (t.block + 1) (some xd, N, N) (rpr T.length row N j) ∧ Box w' x98 (encQ (sumQ row ls j)) ∧ Fits (sumQ row ls j)) ⟨b100, (Own.kept O95 h97).kept h100, X100, f0⟩ ?_
      rintro j w103 hj ⟨b103, O103, X103, f103⟩ again2 hag2 _
      refine br_dec (fun hlt2 => ?_) (fun hge2 => ?_)
      · have hjN : j < N := by dsimp only at hlt2; omega
        refine join_mk (fun _ w' => bel w88 w' ∧ OwnF w' (t.block + 1) (some xd, N, N) (rpr T.length row N (j + 1)) ∧ Box w' x98 (encQ (sumQ row ls (j + 1))) ∧ Fits (sumQ row ls (j + 1))) (fun K104 hK => ?_) (fun x w2 q => ?_)
        case refine_2 =>
          intro _
          refine z_eq (by exact IntWalk.i64_in _ ⟨by dsimp only; omega, by dsimp only; omega⟩) ?_
          exact hag2 _ hjN q
        have hpl : (rpr T.length row N j).length = N := rpr_len hrl hN hj
        refine callP_of (call_mono (lWhole 0 w103) fun x108 w109 q => ?_)
        obtain ⟨e108, h109⟩ := q
        subst e108
        refine set_agg tyFracs encF_len (Own.kept O103 h109) rfl (by rw [hpl]; exact hjN) (p := (0, 1)) rfl (by omega) rfl fun w111 O111 hg111 _ => ?_
        have b111 : bel w88 w111 := (b103.trans h109).grownAt hg111 nxd
        have X111 : Box w111 x98 (encQ (sumQ row ls j)) := (X103.up h109).grown hg111 (by intro e; injection e with e; exact ne98 e.symm)
        have zero : row.getD j 0 = 0 → K104 () w111 := fun q => by
          have e1 : sumQ row ls (j + 1) = sumQ row ls j := by rw [sumQ]; exact if_neg fun h => h q
          have e2 := rpr_step hrl hN hjN (T := T.length)
          rw [q] at e2
          exact hK _ _ ⟨b111, by rw [← e2]; exact O111, by rw [e1]; exact X111, by rw [e1]; exact f103⟩
        refine br_dec (fun hjn => ?_) (fun hjn => ?_)
        case refine_2 => exact zero (by rw [List.getD_eq_getElem?_getD, List.getElem?_eq_none (by dsimp only at hjn; omega)]; rfl)
        have hjn' : j < up.length := by dsimp only at hjn; omega
        have hrj : row[j]? = some (row.getD j 0) := by rw [List.getD_eq_getElem?_getD, List.getElem?_eq_getElem (by omega)]; rfl
        have hlj : ls[j]? = some (ls.getD j 0) := by rw [List.getD_eq_getElem?_getD, List.getElem?_eq_getElem (by omega)]; rfl
        have HR1 := Sl.up HR b111
        refine at_int tyI64 (by kernel_rfl) HR1 rfl (by dsimp only at hjn; omega) fun x113 hx113 => ?_
        have e113 : x113 = row.getD j 0 := by rw [hrj] at hx113; cases hx113; rfl
        subst e113
        refine br_ne (fun h0 => ?_) zero
        refine at_int tyI64 (by kernel_rfl) HR1 rfl (by dsimp only at hjn; omega) fun x115 hx115 => ?_
        have e115 : x115 = row.getD j 0 := by rw [hrj] at hx115; cases hx115; rfl
        subst e115
        refine callP_of (call_mono (lWhole _ w111) fun x116 w117 q => ?_)
        obtain ⟨e116, h117⟩ := q
        subst e116
        refine set_agg tyFracs encF_len (Own.kept O111 h117) rfl (by rw [List.length_set, hpl]; exact hjN) (p := (row.getD j 0, 1)) rfl (by omega) rfl fun w119 O119 hg119 _ => ?_
        rw [List.set_set, rpr_step hrl hN hjN] at O119
        have b119 : bel w88 w119 := (b111.trans h117).grownAt hg119 nxd
        have X119 : Box w119 x98 (encQ (sumQ row ls j)) := (X111.up h117).grown hg119 (by intro e; injection e with e; exact ne98 e.symm)
        refine drw_mk fun w120 h120 _ => ?_
        have b120 := b119.trans h120
        have A120 := A88.up b120
        have bR := hR.2.2 row hrowT _ (mem_at hrj)
        have bL := hlb _ (mem_at hlj)
        refine flEx_mk (fun _ _ v _ => v = fracv (((row.getD j 0 : Int) : Rat) * ((ls.getD j 0 : Int) : Rat)).num (((row.getD j 0 : Int) : Rat) * ((ls.getD j 0 : Int) : Rat)).den ∧ Fits (((row.getD j 0 : Int) : Rat) * ((ls.getD j 0 : Int) : Rat))) (fun _ _ _ _ _ q _ => q) ?_
        refine rd_boxN (X119.up h120) (by kernel_rfl) rfl ?_
        refine at_frac (p := (row.getD j 0, 1)) (Own.kept O119 h120).sl rfl (rpr_get hrl hN hjN) ?_
        refine nn_mk rfl (rd_box (by kernel_rfl) A120.box rfl rfl ?_)
        refine atQ A120.hvl.sl rfl (r := ((ls.getD j 0 : Int) : Rat)) (by
          unfold tb0 q1
          rw [List.getElem?_append_left (by simp; omega), List.getElem?_map, hlj]; rfl) ?_
        refine flc_mk (fun w129 h129 _ => ?_) fun x133 => ?_
        · exact callP_mono (lMul (r := ((row.getD j 0 : Int) : Rat)) (s := ((ls.getD j 0 : Int) : Rat)) w129 (fits_of_int ⟨by omega, by omega⟩) (fits_of_int ⟨by omega, by omega⟩)) (fun x w58 q => ⟨q.2.2, by rw [q.1]; rfl, q.2.1⟩) (pn (fun bg q => q (bg row hrowT j hjn' h0).1) (b88.trans b120) h129)
        refine flend_mk fun w134 h134 q => ?_
        obtain ⟨⟨e133, f133⟩, _⟩ := q
        have e133 := agg_qv e133
        subst e133
        refine callP_mono (lAdd w134 f103 f133) (fun x136 w137 q => ?_) (pn (fun bg q => q (bg row hrowT j hjn' h0).2) (b88.trans b120) h134)
        obtain ⟨e136, f136, h137⟩ := q
        subst e136
        refine wu_box (((X119.up h120).up h134).up h137) (by kernel_rfl) (Nat.le_refl 2) rfl fun w138 X138 hg138 _ => ?_
        have e1 : sumQ row ls (j + 1) = sumQ row ls j + ((row.getD j 0 : Int) : Rat) * ((ls.getD j 0 : Int) : Rat) := by rw [sumQ]; exact if_pos h0
        refine hK _ _ ⟨((b120.trans h134).trans h137).grownAt hg138 n98', own_box' (((Own.kept O119 h120).kept h134).kept h137) hg138 (fun k hk => by cases hk; exact ne98), by rw [e1]; exact X138, by rw [e1]; exact f136⟩
      have hjN : j = N := by dsimp only at hge2; omega
      rw [hjN] at O103 X103 f103
      clear hag2 hge2 hj hjN again2
      obtain ⟨xb, hxb⟩ : ∃ x, rt[i]? = some x := ⟨_, List.getElem?_eq_getElem (by omega)⟩
      refine drw_mk fun w139 h139 _ => ?_
      have b139 := b103.trans h139
      have A9 := A88.up b139
      have b9 := b88.trans b139
      have X9 := X88.up b139
      have X98 := X103.up h139
      have O139 := Own.kept O103 h139
      have old0 : ∀ k, blk H.l.1 = some k → k < w88.heap.size := fun k hk => ((A88.fs.own 0 _ _ rfl rfl).lt _ hk).2
      have old1 : ∀ k, blk H.h.1 = some k → k < w88.heap.size := fun k hk => ((A88.fs.own 1 _ _ rfl rfl).lt _ hk).2
      have old2 : ∀ k, blk H.v.1 = some k → k < w88.heap.size := fun k hk => ((A88.fs.own 2 _ _ rfl rfl).lt _ hk).2
      have t88 := A88.box.lt
      generalize hTB : tb0 up T rt ls hs i = TB at A9
      have hTv : TB.val.length ≤ 100000 := by rw [← hTB]; simp [tb0, q1]; omega
      have hTl' : TB.low.length ≤ 100000 := by rw [← hTB]; simp [tb0, q1]; omega
      have hTh' : TB.high.length ≤ 100000 := by rw [← hTB]; simp [tb0, q1]; omega
      have F9 := A9.fs
      have hbx : ∀ w', RgE H.l H.h w139 w' → Box w' t (tcells H 0) := fun w' hE => A9.box.xb hE (by
        rintro (q | q)
        · have := ((F9.own 0 _ _ rfl rfl).lt _ q).1; omega
        · have := ((F9.own 1 _ _ rfl rfl).lt _ q).1; omega)
      have bRg : ∀ w', RgE H.l H.h w139 w' → bel w w' := fun w' hE => Xb.bel b9 hE (by
        rintro k (q | q)
        · have := ((F9.own 0 _ _ rfl rfl).lt _ q).1; omega
        · have := ((F9.own 1 _ _ rfl rfl).lt _ q).1; omega)
      have st0 : RgS w139 (t.block + 1) H.l H.h TB.low TB.high 12 13 14 24 25 26 0 32 (fun _ => false) w139 := ⟨fun _ => F9.own 0 _ _ rfl rfl, fun _ => F9.own 1 _ _ rfl rfl, fun _ => ⟨rfl, rfl, rfl, rfl⟩, fun _ => by simp, by simp⟩
      refine flExC_mk (RgE H.l H.h) (RgG 14 26 H.l H.h) (RgS w139 (t.block + 1) H.l H.h TB.low TB.high 12 13 14 24 25 26 0 32) (fun i _ v w' => RgF w139 (t.block + 1) H.l H.h TB.low TB.high (xb : Rat) (xb : Rat) (sumQ row ls N) 12 13 14 24 25 26 0 32 i v w')
        (fun w => Xb.refl _ w) (fun _ _ _ p q => p.trans q) (fun i j _ v w1 w2 hij q hE hG => RgF.keep F9 hij q hE hG) st0 ?_
      refine nn_mk rfl ?_
      refine rdE_box0 (by kernel_rfl) (fun w' hE => hbx w' hE.1) rfl rfl ?_
      have hx1E : ∀ w', RgE H.l H.h w139 w' → Box w' x1 (sysc u r b) := fun w' hE => X9.xb hE (by
        rintro (q | q)
        · have := ((F9.own 0 _ _ rfl rfl).lt _ q).1; omega
        · have := ((F9.own 1 _ _ rfl rfl).lt _ q).1; omega)
      have hx98E : ∀ w', RgE H.l H.h w139 w' → Box w' x98 (encQ (sumQ row ls N)) := fun w' hE => X98.xb hE (by
        rintro (q | q)
        · have := old0 _ q; omega
        · have := old1 _ q; omega)
      refine rdE_box (by kernel_rfl) (fun w' hE => hx1E w' hE.1) rfl rfl ?_
      refine atE_int tyI64 (by kernel_rfl) ⟨Xb.refl _ _, fun _ => false, fun _ _ => rfl, st0⟩ (fun w' hE => (HS.up (bRg w' hE.1)).b) rfl hxb ?_
      refine flcC_mk (fun D w' hD hE hS _ => ?_) fun x154 => ?_
      · skip
        refine callP_of (call_mono (lWholeS xb w') fun y w'' q => ?_)
        obtain ⟨hy, hb, hs⟩ := q
        exact ⟨Xb.of (grown_of_bel hb none) (fun k e => by cases e), by unfold RgG; rw [if_neg (by decide), if_neg (by decide)]; exact grown_of_bel hb none, ⟨fun q => (hS.o0 (by simpa [setD] using q)).kept hb, fun q => (hS.o1 (by simpa [setD] using q)).kept hb, fun q => by have h1 := hS.cl (by simpa [setD] using q); simpa [setD] using h1, fun q => by have h1 := hS.up (by simpa [setD] using q); simp [setD, hD] at h1 ⊢; omega, by have h1 := hS.lw; simp [setD, hD] at h1 ⊢; omega⟩, ⟨fun _ => by rw [hy]; rfl, fun e => absurd e (by decide), fun e => absurd e (by decide), fun e => absurd e (by decide), fun e => absurd e (by decide), fun e => absurd e (by decide), fun e => absurd e (by decide), fun e => absurd e (by decide)⟩⟩
      refine flcC_mk (fun D w' hD hE hS hf => ?_) fun x160 => ?_
      · intro ka
        have ev := agg_qv (hf.1.a rfl)
        subst ev
        refine litQ fun ad w'' S1 hb hbl hs => ?_
        exact ⟨Xb.of (grown_of_bel hb none) (fun k e => by cases e), by unfold RgG; rw [if_neg (by decide), if_neg (by decide)]; exact grown_of_bel hb none, ⟨fun q => (hS.o0 (by simpa [setD] using q)).kept hb, fun q => (hS.o1 (by simpa [setD] using q)).kept hb, fun q => by have h1 := hS.cl (by simpa [setD] using q); simpa [setD] using h1, fun q => by have h1 := hS.up (by simpa [setD] using q); simp [setD, hD] at h1 ⊢; omega, by have h1 := hS.lw; simp [setD, hD] at h1 ⊢; omega⟩, ⟨fun e => absurd e (by decide), fun _ => ⟨ad, rfl, S1, by have := hE.size; omega⟩, fun e => absurd e (by decide), fun e => absurd e (by decide), fun e => absurd e (by decide), fun e => absurd e (by decide), fun e => absurd e (by decide), fun e => absurd e (by decide)⟩⟩
      refine flcC_mk (fun D w' hD hE hS hf => ?_) fun x166 => ?_
      · intro kb ka
        obtain ⟨ad, ev, S1, _⟩ := hf.1.b rfl
        obtain rfl : x160 = (some ad, 1, 1) := hv_inj ev
        have O9 := hS.o0 hD
        have hn := slQ_len O9.sl
        refine wr_appX tyFracs O9 S1 (by have := (hbx w' hE).lt; omega) rfl (by omega) rfl (by omega) (by unfold maxLen; omega) (by omega) fun a' c' w'' O' hg hin hout => ?_
        rw [app_enc] at O'
        exact ⟨Xb.of hg fun k e => .inl e, by unfold RgG; rw [if_pos rfl]; exact hg, ⟨fun q => by simp [setD] at q, fun q => (hS.o1 (by simpa [setD] using q)).keptBy hg (by cases hb : blk H.h.1 with | none => exact .inl rfl | some k => exact .inr fun e => F9.ap 0 1 _ _ k (by omega) rfl rfl e.symm hb), fun q => by simp [setD] at q, fun q => by simp [setD] at q, by have h1 := hS.lw; have h2 := hg.size; simp [setD] at h1 ⊢; omega⟩, ⟨fun e => absurd e (by decide), fun e => absurd e (by decide), fun _ => ⟨(a', _, c'), rfl, O', by
            rcases Nat.lt_or_ge H.l.2.2 (H.l.2.1 + 1) with q | q
            · refine .inr fun k e => ?_
              rw [hout q] at e
              injection e with e
              have h1 := hS.up hD
              have h2 := Bool.toNat_le (D 12)
              have h3 := Bool.toNat_le (D 13)
              have h4 := Bool.toNat_le (D 32)
              have h5 := hE.size
              omega
            · exact .inl (hin q)⟩, fun e => absurd e (by decide), fun e => absurd e (by decide), fun e => absurd e (by decide), fun e => absurd e (by decide), fun e => absurd e (by decide)⟩⟩
      refine nn_mk rfl ?_
      refine rdE_box (by kernel_rfl) (fun w' hE => hbx w' hE.1) rfl rfl ?_
      refine rdE_box (by kernel_rfl) (fun w' hE => hx1E w' hE.1) rfl rfl ?_
      refine atE_int tyI64 (by kernel_rfl) ⟨Xb.refl _ _, fun _ => false, fun _ _ => rfl, st0⟩ (fun w' hE => (HS.up (bRg w' hE.1)).b) rfl hxb ?_
      refine flcC_mk (fun D w' hD hE hS _ => ?_) fun x177 => ?_
      · intro kc kb ka
        refine callP_of (call_mono (lWholeS xb w') fun y w'' q => ?_)
        obtain ⟨hy, hb, hs⟩ := q
        exact ⟨Xb.of (grown_of_bel hb none) (fun k e => by cases e), by unfold RgG; rw [if_neg (by decide), if_neg (by decide)]; exact grown_of_bel hb none, ⟨fun q => (hS.o0 (by simpa [setD] using q)).kept hb, fun q => (hS.o1 (by simpa [setD] using q)).kept hb, fun q => by simp [setD, kc] at q, fun q => by simp [setD, kc] at q, by have h1 := hS.lw; simp [setD, hD] at h1 ⊢; omega⟩, ⟨fun e => absurd e (by decide), fun e => absurd e (by decide), fun e => absurd e (by decide), fun _ => by rw [hy]; rfl, fun e => absurd e (by decide), fun e => absurd e (by decide), fun e => absurd e (by decide), fun e => absurd e (by decide)⟩⟩
      refine flcC_mk (fun D w' hD hE hS hf => ?_) fun x183 => ?_
      · intro kd kc kb ka
        have ev := agg_qv (hf.1.d rfl)
        subst ev
        refine litQ fun ad w'' S1 hb hbl hs => ?_
        exact ⟨Xb.of (grown_of_bel hb none) (fun k e => by cases e), by unfold RgG; rw [if_neg (by decide), if_neg (by decide)]; exact grown_of_bel hb none, ⟨fun q => (hS.o0 (by simpa [setD] using q)).kept hb, fun q => (hS.o1 (by simpa [setD] using q)).kept hb, fun q => by simp [setD, kc] at q, fun q => by simp [setD, kc] at q, by have h1 := hS.lw; simp [setD, hD] at h1 ⊢; omega⟩, ⟨fun e => absurd e (by decide), fun e => absurd e (by decide), fun e => absurd e (by decide), fun e => absurd e (by decide), fun _ => ⟨ad, rfl, S1, by have := hE.size; omega⟩, fun e => absurd e (by decide), fun e => absurd e (by decide), fun e => absurd e (by decide)⟩⟩
      refine flcC_mk (fun D w' hD hE hS hf => ?_) fun x189 => ?_
      · intro ke kd kc kb ka
        obtain ⟨ad, ev, S1, _⟩ := hf.1.e rfl
        obtain rfl : x183 = (some ad, 1, 1) := hv_inj ev
        have O9 := hS.o1 hD
        have hn := slQ_len O9.sl
        refine wr_appX tyFracs O9 S1 (by have := (hbx w' hE).lt; omega) rfl (by omega) rfl (by omega) (by unfold maxLen; omega) (by omega) fun a' c' w'' O' hg hin hout => ?_
        rw [app_enc] at O'
        exact ⟨Xb.of hg fun k e => .inr e, by unfold RgG; rw [if_neg (by decide), if_pos rfl]; exact hg, ⟨fun q => by simp [setD, kc] at q, fun q => by simp [setD] at q, fun q => by simp [setD, kc] at q, fun q => by simp [setD, kc] at q, by have h1 := hS.lw; have h2 := hg.size; simp [setD] at h1 ⊢; omega⟩, ⟨fun e => absurd e (by decide), fun e => absurd e (by decide), fun e => absurd e (by decide), fun e => absurd e (by decide), fun e => absurd e (by decide), fun _ => ⟨(a', _, c'), rfl, O', by
            rcases Nat.lt_or_ge H.h.2.2 (H.h.2.1 + 1) with q | q
            · refine .inr fun k e => ?_
              rw [hout q] at e
              injection e with e
              have h1 := hS.lw
              simp [ka, kb, kd, ke] at h1
              omega
            · exact .inl (hin q)⟩, fun e => absurd e (by decide), fun e => absurd e (by decide)⟩⟩
      refine nn_mk rfl ?_
      refine rdE_box (by kernel_rfl) (fun w' hE => hbx w' hE.1) rfl rfl ?_
      refine rdE_boxN (fun w' hE => hx98E w' hE.1) (by kernel_rfl) rfl ?_
      refine flcC_mk (fun D w' hD hE hS _ => ?_) fun x198 => ?_
      · skip
        refine litQ fun ad w'' S1 hb hbl hs => ?_
        exact ⟨Xb.of (grown_of_bel hb none) (fun k e => by cases e), by unfold RgG; rw [if_neg (by decide), if_neg (by decide)]; exact grown_of_bel hb none, ⟨fun q => (hS.o0 (by simpa [setD] using q)).kept hb, fun q => (hS.o1 (by simpa [setD] using q)).kept hb, fun q => by have h1 := hS.cl (by simpa [setD] using q); simpa [setD] using h1, fun q => by have h1 := hS.up (by simpa [setD] using q); simp [setD, hD] at h1 ⊢; omega, by have h1 := hS.lw; simp [setD] at h1 ⊢; omega⟩, ⟨fun e => absurd e (by decide), fun e => absurd e (by decide), fun e => absurd e (by decide), fun e => absurd e (by decide), fun e => absurd e (by decide), fun e => absurd e (by decide), fun e => absurd e (by decide), fun _ => ⟨ad, rfl, S1, by have := hE.size; omega⟩⟩⟩
      refine flendC_mk fun wE hE hS hf => ?_
      obtain ⟨ad, ev, S3, _⟩ := hf.1.h rfl
      obtain rfl : x198 = (some ad, 1, 1) := hv_inj ev
      obtain ⟨g1, e1, O1, n1⟩ := hf.2.1.f rfl
      obtain rfl : x189 = g1 := hv_inj e1
      obtain ⟨g0, e0, O0, n0⟩ := hf.2.2.2.2.1.c rfl
      obtain rfl : x166 = g0 := hv_inj e0
      have FE := FS.two F9 hE (fun k q => q) O0 O1 (n0.imp id fun q k e => (q k e).1) (n1.imp id fun q k e => by have := q k e; omega) (by
        intro k q0 q1
        rcases n0 with n0 | n0 <;> rcases n1 with n1 | n1
        · exact F9.ap 0 1 _ _ k (by omega) rfl rfl (by rw [← n0]; exact q0) (by rw [← n1]; exact q1)
        · have := blk_lt (F9.own 0 _ _ rfl rfl) (by rw [← n0]; exact q0); have := n1 k q1; omega
        · have := blk_lt (F9.own 1 _ _ rfl rfl) (by rw [← n1]; exact q1); have := n0 k q0; omega
        · have := n0 k q0; have := n1 k q1; omega)
      have tys : ∀ {e : TypeId} {sz : Nat} {a : Option Addr} {n c : Nat} {xs : List Value}, e ≠ 60 → Own w139 (t.block + 1) e sz a n c xs → Own wE (t.block + 1) e sz a n c xs := fun he O => Own_xb O hE (by
        rintro k hk (q | q)
        · exact Own.apart O (F9.own 0 _ _ rfl rfl) he k hk q
        · exact Own.apart O (F9.own 1 _ _ rfl rfl) he k hk q)
      refine app3 FE (hbx wE hE) (tys (by decide) A9.bs) (tys (by decide) A9.rs) S3 hTv fun H' wF hl' hh' hv' hb' hr' hs' AF xF => ?_
      have bF : bel w wF := Xb.bel (bRg wE hE) xF (by
        rintro k (q | q)
        · omega
        · have := ((F9.own 2 _ _ rfl rfl).lt _ q).1; omega)
      have hx1F : Box wF x1 (sysc u r b) := (hx1E wE hE).xb xF (by
        rintro (q | q)
        · omega
        · have := ((F9.own 2 _ _ rfl rfl).lt _ q).1; omega)
      have OF : OwnF wF (t.block + 1) (some xd, N, N) (rpr T.length row N N) := by
        refine Own_xb (Own_xb O139 hE ?_) xF ?_
        · intro k hk q
          have e : xd.block = k := Option.some.inj hk
          rcases q with q | q
          · have := old0 _ q; omega
          · have := old1 _ q; omega
        · intro k hk q
          have e : xd.block = k := Option.some.inj hk
          rcases q with q | q
          · omega
          · have := old2 _ q; omega
      have newx : ∀ h ∈ (H'.l :: H'.h :: H'.v :: H'.s), ∀ k, blk h.1 = some k → xd.block ≠ k := by
        intro h hm k hk e
        have hE1 := hE.size
        have h139s := b139.size
        have hxl := O95.lt xd.block rfl
        have h103 := b103.size
        have h97s := h97.size
        have h100s := h100.size
        have hx1 : xd.block < w139.heap.size := (O139.lt xd.block rfl).2
        simp only [List.mem_cons] at hm
        rcases hm with rfl | rfl | rfl | hm
        · rw [hl'] at hk
          rcases n0 with n0 | n0
          · have := old0 k (by rw [← n0]; exact hk); omega
          · have := n0 k hk; omega
        · rw [hh'] at hk
          rcases n1 with n1 | n1
          · have := old1 k (by rw [← n1]; exact hk); omega
          · have := n1 k hk; omega
        · rcases hv' with n2 | n2
          · have := old2 k (by rw [← n2]; exact hk); omega
          · have := n2 k hk; omega
        · rw [hs'] at hm
          have := A88.hb h (.inr (.inr hm)) k hk; omega
      clear A9 X9 X98 O139 O103 X103 F9 hbx bRg st0 hx1E hx98E FE tys hE xF hS hf O1 O0 S3 n0 n1 X88
      refine drw_mk fun w209 h209 _ => ?_
      have A209 := AF.up h209
      have O209 := Own.kept OF h209
      have X209 := hx1F.up h209
      have b209 := bF.trans h209
      have t209 := A209.box.lt
      have bb : ∀ k, blk H'.b.1 = some k → t.block + 1 ≤ k ∧ k < w209.heap.size := fun k hk => A209.bs.lt k hk
      have hbx : ∀ w', Xb (fun k => blk H'.b.1 = some k) w209 w' → Box w' t (tcells H' 0) := fun w' hE => A209.box.xb hE fun q => by have := (bb _ q).1; omega
      have hx1 : ∀ w', Xb (fun k => blk H'.b.1 = some k) w209 w' → Box w' x1 (sysc u r b) := fun w' hE => X209.xb hE fun q => by have := (bb _ q).1; omega
      have bl := A209.bs.sl.int
      have hbl0 : TB.bas.length = i := by rw [← hTB]; simp [tb0]
      simp only [List.length_map, hbl0] at bl
      refine flExC_mk (Xb (fun k => blk H'.b.1 = some k)) (fun j w w' => w.grownBy w' (if j = 12 then blk H'.b.1 else none)) (fun D w' => D 12 = false → Own w' (t.block + 1) 3 1 H'.b.1 H'.b.2.1 H'.b.2.2 (natv TB.bas))
        (fun j _ v w' => (j = 11 → ∃ ad, v = .slice (some ad) 1 1 ∧ Sl w' (some ad) 1 1 1 (ints .i64 [((up.length + i : Nat) : Int)]) ∧ w209.heap.size ≤ ad.block) ∧
          (j = 12 → ∃ q : Hdr, v = hv q ∧ Own w' (t.block + 1) 3 1 q.1 q.2.1 q.2.2 (natv (TB.bas ++ [up.length + i]))) ∧
          (j = 18 → ∃ ad, v = .slice (some ad) 1 1 ∧ Sl w' (some ad) 1 1 1 [hv (some xd, N, N)] ∧ w209.heap.size ≤ ad.block))
        (fun w => Xb.refl _ w) (fun _ _ _ p q => p.trans q) (fun i1 j1 _ v w1 w2 hij q hE hG => ⟨fun e => ?_, fun e => ?_, fun e => ?_⟩) (fun _ => A209.bs) ?_
      · obtain ⟨ad, e1, S, hn⟩ := q.1 e
        exact ⟨ad, e1, S.xb hE (fun ad' ha _ q => by cases ha; have := (bb _ q).2; omega), hn⟩
      · obtain ⟨y, e1, O⟩ := q.2.1 e
        have hj : j1 ≠ 12 := fun q' => hij (e.trans q'.symm)
        rw [if_neg hj] at hG
        exact ⟨y, e1, O.keptBy hG (by
          cases hb : blk y.1 with
          | none => exact .inl rfl
          | some k => exact .inr (by simp))⟩
      · obtain ⟨ad, e1, S, hn⟩ := q.2.2 e
        exact ⟨ad, e1, S.xb hE (fun ad' ha _ q => by cases ha; have := (bb _ q).2; omega), hn⟩
      refine nn_mk rfl ?_
      refine rdE_box (by kernel_rfl) (fun w' hE => hbx w' hE.1) rfl rfl ?_
      refine rdE_box0 (by kernel_rfl) (fun w' hE => hx1 w' hE.1) rfl rfl ?_
      refine z_eq (m := ((up.length + i : Nat) : Int)) (by rw [IntWalk.i64_in _ ⟨by dsimp only; omega, by dsimp only; omega⟩]; dsimp only; omega) ?_
      refine flcC_mk (fun D w' hD hE hS _ => ?_) fun x223 => ?_
      · refine wr_lit tyInts #[.int .i64 ((up.length + i : Nat) : Int)] (fill_one 1 (.int .i64 ((up.length + i : Nat) : Int)) _ rfl (by simp)) (by omega) (by omega) rfl (by unfold maxLen; omega) fun ad w'' O' hb hbl _ => ?_
        exact ⟨Xb.of (grown_of_bel hb none) (fun k e => by cases e), by dsimp only; rw [if_neg (by decide)]; exact grown_of_bel hb none, fun q => (hS (by simpa [setD] using q)).kept hb,
          ⟨fun _ => ⟨ad, rfl, (O' w'.heap.size (Nat.le_refl _)).sl, by have := hE.size; omega⟩, fun e => absurd e (by decide), fun e => absurd e (by decide)⟩⟩
      refine flcC_mk (fun D w' hD hE hS hf => ?_) fun x229 => ?_
      · intro _
        obtain ⟨ad, ev, S1, _⟩ := hf.1.1 rfl
        obtain rfl : x223 = (some ad, 1, 1) := hv_inj ev
        refine wr_appX tyInts (hS hD) S1 (by have := (hbx w' hE).lt; omega) rfl (by omega) rfl (by omega) (by unfold maxLen; omega) (by omega) fun a' c' w'' O' hg _ _ => ?_
        rw [← ints_app] at O'
        refine ⟨Xb.of hg fun k e => e, by dsimp only; rw [if_pos rfl]; exact hg, fun q => by simp [setD] at q, ⟨fun e => absurd e (by decide), fun _ => ⟨(a', _, c'), rfl, ?_⟩, fun e => absurd e (by decide)⟩⟩
        unfold natv
        rw [List.map_append]
        exact O'
      refine nn_mk rfl ?_
      refine rdE_box (by kernel_rfl) (fun w' hE => hbx w' hE.1) rfl rfl ?_
      refine flcC_mk (fun D w' hD hE hS _ => ?_) fun x237 => ?_
      · refine wr_lit tyFracTab #[.slice (some xd) N N] (fill_one 1 (.slice (some xd) N N) _ rfl (by simp)) (by omega) (by omega) rfl (by unfold maxLen; omega) fun ad w'' O' hb hbl _ => ?_
        exact ⟨Xb.of (grown_of_bel hb none) (fun k e => by cases e), by dsimp only; rw [if_neg (by decide)]; exact grown_of_bel hb none, fun q => (hS (by simpa [setD] using q)).kept hb,
          ⟨fun e => absurd e (by decide), fun e => absurd e (by decide), fun _ => ⟨ad, rfl, (O' w'.heap.size (Nat.le_refl _)).sl, by have := hE.size; omega⟩⟩⟩
      refine flendC_mk fun wG hG _ hf => ?_
      obtain ⟨ad, ev, S3, _⟩ := hf.1.2.2 rfl
      obtain rfl : x237 = (some ad, 1, 1) := hv_inj ev
      obtain ⟨qb, e1, OB⟩ := hf.2.1.2.1 rfl
      obtain rfl : x229 = qb := hv_inj e1
      have tG := (hbx wG hG).lt
      have rsG : Own wG (t.block + 1) 32 1 H'.r.1 H'.r.2.1 H'.r.2.2 (H'.s.map hv) := Own_xb A209.rs hG fun k hk q => Own.apart A209.rs A209.bs (by decide) k hk q
      have fsG : FS wG (t.block + 1) (H'.l :: H'.h :: H'.v :: H'.s) ((TB.low ++ [(xb : Rat)]) :: (TB.high ++ [(xb : Rat)]) :: (TB.val ++ [sumQ row ls N]) :: TB.rows) :=
        ⟨A209.fs.len, fun i h L e1 e2 => Own_xb (A209.fs.own i h L e1 e2) hG fun k hk q => Own.apart (A209.fs.own i h L e1 e2) A209.bs (by decide) k hk q, A209.fs.ap⟩
      have OG : OwnF wG (t.block + 1) (some xd, N, N) (rpr T.length row N N) := Own_xb O209 hG fun k hk q => Own.apart O209 A209.bs (by decide) k hk q
      have rl := rsG.sl.len
      have hsl := fsG.len
      have hrl0 : TB.rows.length = i := by rw [← hTB]; simp [tb0]; omega
      simp only [List.length_map, List.length_cons, hrl0] at rl hsl
      refine wr_appX tyFracTab rsG S3 (by omega) rfl (by omega) rfl (by omega) (by unfold maxLen; omega) (by omega) fun a' c' w241 O241 hg _ _ => ?_
      have ra : ∀ k, blk H'.r.1 = some k → t.block + 1 ≤ k := fun k hk => (rsG.lt k hk).1
      have X241 : Box w241 t (tcells H' 0) := (hbx wG hG).grown hg fun e => by have := ra _ e.symm; omega
      have Y241 : Box w241 x1 (sysc u r b) := (hx1 wG hG).grown hg fun e => by have := ra _ e.symm; omega
      have fs241 := fsG.sort rsG (by decide) hg
      have OB241 := own_keep OB rsG (by decide) hg
      have OX241 := own_keep OG rsG (by decide) hg
      have b241 : bel w w241 := Xb.bel (Xb.bel b209 hG fun k hk => by have := (bb k hk).1; omega) (Xb.of (S := fun k => t.block + 1 ≤ k) hg ra) (fun k hk => by omega)
      refine nn_mk rfl ?_
      refine wu_boxi X241 (by kernel_rfl) (by show 3 < 6; omega) rfl fun w243 X243 hg3 _ => ?_
      refine nn_mk rfl ?_
      refine wu_boxi X243 (by kernel_rfl) (by show 4 < 6; omega) rfl fun w245 X245 hg4 _ => ?_
      refine z_eq (by exact IntWalk.i64_in _ ⟨by dsimp only; omega, by dsimp only; omega⟩) ?_
      have lt1 : t.block < t.block + 1 := Nat.lt_succ_self _
      have ne1 : some x1.block ≠ some t.block := by intro e; injection e; omega
      refine hag _ hiT ⟨(b241.grownAt hg3 nt).grownAt hg4 nt, (Y241.grown hg3 ne1).grown hg4 ne1, ?_, ⟨H'.l, H'.h, H'.v, x229, (a', H'.r.2.1 + 1, c'), H'.s ++ [(some xd, N, N)]⟩, ?_⟩
      · intro q row' hq hr'
        rcases Nat.lt_or_ge q i with h | h
        · exact hsf q row' h hr'
        · have : q = i := by omega
          subst this
          rw [hrow] at hr'; cases hr'
          have es := sumQ_ge (ls := ls) hrl T.length
          rw [hN] at es
          rw [← es]; exact f103
      have eP : (rpr T.length row N N).flatMap encF = (rowQ T.length row).flatMap encQ := by
        unfold rpr
        rw [Nat.sub_self, List.replicate_zero, List.append_nil, List.take_of_length_le (by rw [rowQ_len]; omega), List.flatMap_map]
      have OX : OwnQ w245 (t.block + 1) (some xd, N, N) (rowQ T.length row) := by
        have := own_box (own_box OX241 hg3 lt1) hg4 lt1
        rw [eP] at this
        exact this
      have fin := FS.push ((fs241.old hg3 lt1).old hg4 lt1) OX fun j g k e1 e2 e3 => by cases e3; exact newx g (mem_at e1) _ e2 rfl
      have eT : tb0 up T rt ls hs (i + 1) = { low := TB.low ++ [(xb : Rat)], high := TB.high ++ [(xb : Rat)], val := TB.val ++ [sumQ row ls N], bas := TB.bas ++ [up.length + i], rows := TB.rows ++ [rowQ T.length row] } := by
        rw [← hTB]
        unfold tb0
        have es : sumQ row ls up.length = sumQ row ls N := by rw [← hN]; exact (sumQ_ge hrl _).symm
        rw [q1_snoc hxb, List.take_add_one, hrow, List.range_succ, ← es]
        simp
      rw [eT]
      refine ⟨X245, fin, own_box (own_box OB241 hg3 lt1) hg4 lt1, ?_⟩
      have := own_box (own_box O241 hg3 lt1) hg4 lt1
      rw [show (H'.s.map hv ++ [hv (some xd, N, N)] : List Value) = (H'.s ++ [(some xd, N, N)]).map hv by simp] at this
      exact this
  exact Calls.mono main fun e w' q => q.imp (fun ⟨v, he, x, hv, q⟩ => ⟨x, by rw [he, hv]; rfl, q⟩) id
end Go.Proofs.YtajpdnphamomjaaGreat

/- The deferred call of Relax. -/




namespace Go.Proofs.YtajpdnphamomjaaGreat
open Go.RowKit Go.Q Go.Q.Num Go.V

theorem wpOpsS_store {P : Program} {ops : Array Oper} {Q : Exit → Act → List Frame → World → Prop} {i : Nat} {rest : List Nat} {a : Act} {cs : List Frame} {w w1 : World} {t ty : TypeId} {x v : Operand} {ps : String} {af : Array Edge}
    (ho : ops[i]? = some ⟨none, .store t x v, ty, ps, af, none⟩) (hr : (Instr.storeAt t (a.eval x) (a.eval v)).run P w = .ok () w1) (h : wpOpsS P ops Q rest a cs w1) : wpOpsS P ops Q (i :: rest) a cs w := by
  have he : (execOp a.eval ⟨none, .store t x v, ty, ps, af, none⟩).run P w = .ok .skip w1 := by
    simp only [execOp, Sem.run_bind, hr, Result.andThen_ok, Sem.run_pure]
  simp only [wpOpsS, ho, Region.wanted, if_true, he, Oper.upon, Act.put]
  exact h
theorem rlxIdle (p q r : Addr) (w : World) :
    CallsD Tryz.prog 60 #[.pointer (some p), .pointer (some q), .pointer (some r)] .returning w fun e u w' => (∃ v, e = .returned v) ∧ u = .returning ∧ w' = w := by
  refine callsD_of_wpS Tryz.func60 rfl fun c₀ cs hu => ?_
  apply wpS_seq
  apply wpS_region
  simp [wpOpsS, go_sem, recoverD, hu, Tryz.ntmps60, Exit.thenS]
  refine wpS_of_wp ?_
  go_wp2
  cases c₀
  simp_all [bodyPostS, results, Tryz.results60]
set_option maxRecDepth 4000 in
theorem rlxCatch (p q r : Addr) (a b c : Value) (w : World) (X : Box w p [a]) (Y : Box w q [b]) (Z : Box w r [c]) (hpq : p.block ≠ q.block) (hpr : p.block ≠ r.block) (hqr : q.block ≠ r.block) {K : World → Prop}
    (hK : ∀ w', Box w' p [.slice none 0 0] → Box w' q [.slice none 0 0] → Box w' r [.int .i64 8] → Xb (fun k => k = p.block ∨ k = q.block ∨ k = r.block) w w' → K w') :
    CallsD Tryz.prog 60 #[.pointer (some p), .pointer (some q), .pointer (some r)] (.panicking [{ v := failV, recovered := false }]) w fun e u w' => (∃ v, e = .returned v) ∧ settle u = .returning ∧ K w' := by
  obtain ⟨w1, r1, X1, g1⟩ : wu Tryz.prog (Instr.storeAt 32 (.pointer (some p)) (.slice none 0 0)) w fun w' => Box w' p [.slice none 0 0] ∧ w.grownBy w' (some p.block) := wu_box X (by kernel_rfl) (Nat.le_refl 1) rfl fun w' X' hg _ => ⟨X', hg⟩
  have Y1 := Y.grown g1 (by intro e; injection e with e; exact hpq e.symm)
  have Z1 := Z.grown g1 (by intro e; injection e with e; exact hpr e.symm)
  obtain ⟨w2, r2, Y2, g2⟩ : wu Tryz.prog (Instr.storeAt 32 (.pointer (some q)) (.slice none 0 0)) w1 fun w' => Box w' q [.slice none 0 0] ∧ w1.grownBy w' (some q.block) := wu_box Y1 (by kernel_rfl) (Nat.le_refl 1) rfl fun w' X' hg _ => ⟨X', hg⟩
  have X2 := X1.grown g2 (by intro e; injection e with e; exact hpq e)
  have Z2 := Z1.grown g2 (by intro e; injection e with e; exact hqr e.symm)
  obtain ⟨w3, r3, Z3, g3⟩ : wu Tryz.prog (Instr.storeAt 36 (.pointer (some r)) (.int .i64 8)) w2 fun w' => Box w' r [.int .i64 8] ∧ w2.grownBy w' (some r.block) := wu_box Z2 (by kernel_rfl) (Nat.le_refl 1) rfl fun w' X' hg _ => ⟨X', hg⟩
  have X3 := X2.grown g3 (by intro e; injection e with e; exact hpr e)
  have Y3 := Y2.grown g3 (by intro e; injection e with e; exact hqr e)
  have fin := hK w3 X3 Y3 Z3 (((Xb.of g1 fun k e => .inl (by injection e with e; exact e.symm)).trans (Xb.of g2 fun k e => .inr (.inl (by injection e with e; exact e.symm)))).trans (Xb.of g3 fun k e => .inr (.inr (by injection e with e; exact e.symm))))
  have ta : ∀ w : World, (Instr.typeAssert failV 20 92 false).run Tryz.prog w = .ok (.agg #[]) w := by
    intro w
    have hu : Tryz.prog.underlying 92 = some (.struct #[]) := by kernel_rfl
    simp [Instr.typeAssert, Sem.run_bind, run_underlying hu, Sem.run_pure]
  refine callsD_of_wpS Tryz.func60 rfl fun c₀ cs hu => ?_
  apply wpS_seq
  apply wpS_region
  simp [wpOpsS, go_sem, recoverD, hu, Tryz.ntmps60, Exit.thenS]
  apply wpS_seq
  apply wpS_region
  simp [wpOpsS, go_sem, Exit.thenS]
  refine wpS_cond (t := true) (by simp [Act.eval, Array.replicate]) ?_
  simp only [if_true]
  apply wpS_seq
  apply wpS_region
  simp [wpOpsS, go_sem, Exit.thenS, ta]
  apply wpS_region
  refine wpOpsS_store (w1 := w1) rfl r1 ?_
  refine wpOpsS_store (w1 := w2) rfl r2 ?_
  refine wpOpsS_store (w1 := w3) rfl r3 ?_
  cases c₀
  simp_all [wpOpsS, bodyPostS, results, Tryz.results60, settle]
end Go.Proofs.YtajpdnphamomjaaGreat

/- The move of a tableau: the walk. -/

namespace Go.Proofs.YtajpdnphamomjaaGreat
open Go.RowKit Go.Q Go.Q.Num Go.V

set_option maxHeartbeats 6400000 in
theorem moveF {w : World} {t : Addr} {H : TH} {p : Int} {T : Tb} {N M : Nat} (A : TabAt w t H p T) (ok : TbOk N M T) {row k : Nat} {to : Rat} (hr : row < M) (hk : k < N) (hc : T.a row k ≠ 0) (hto : Fits to) :
    callP Tryz.prog (PnX (¬ MvFit N M T row k to) (t.block + 1) w) 65 [.pointer (some t), .int .i64 (row : Int), .int .i64 (k : Int), fracv to.num to.den] (.many []) w (fun _ w' => TabAt w' t H p (T.move row k to) ∧ TbOk N M (T.move row k to) ∧ Xa (t.block + 1) w w') := by
  have main : Calls Tryz.prog 65 #[.pointer (some t), .int .i64 (row : Int), .int .i64 (k : Int), fracv to.num to.den] w (retP (fun v w' => v = .tuple #[] ∧ TabAt w' t H p (T.move row k to) ∧ TbOk N M (T.move row k to) ∧ Xa (t.block + 1) w w') (some (PnX (¬ MvFit N M T row k to) (t.block + 1) w))) := by
    refine S65_calls (some t) (row : Int) (k : Int) to.num ((to.den : Nat) : Int) w _ _ ?_
    generalize hPn : PnX (¬ MvFit N M T row k to) (t.block + 1) w = Pn
    have pn : ∀ {A' : Prop} {w1 w2 : World}, (MvFit N M T row k to → ¬ A') → Xa (t.block + 1) w w1 → bel w1 w2 → ∀ ch w', PnF A' w2 ch w' → Pn ch w' := by
      intro A' w1 w2 hA hx hb ch w' q
      rw [← hPn]
      exact PnX.of (fun a mf => hA mf a) hx hb ch w' q
    have hbl := A.bl ok
    have hrl := A.rl ok
    have hM := ok.sM
    have hN := ok.sN
    have hS := A.hb
    have hbr := ok.b_lt hr
    unfold S65
    refine wr_box fun x1 w2 X1 h2 hx1 _ => ?_
    replace X1 : Box w2 x1 (encQ to) := X1
    have A2 := A.up h2
    refine A2.bas_at ok rfl hr ?_
    refine drw_mk fun w7 h7 _ => ?_
    have A7 := A2.up h7
    have X7 := X1.up h7
    have b7 := h2.trans h7
    refine flEx_mk (fun i _ v w' => (i = 8 → v = fracv (to + -(T.v (T.b row))).num (to + -(T.v (T.b row))).den ∧ Fits (to + -(T.v (T.b row)))) ∧ (i = 19 → v = tupv (fitT (T.by row k to))) ∧
      (i = 22 → v = fracv (T.by row k to).num (T.by row k to).den ∧ Fits (T.by row k to)) ∧ (i = 23 → ∃ ad, v = .pointer (some ad) ∧ Box w' ad (encQ 0 |>.map fun _ => Value.int .i64 0) ∧ w7.heap.size ≤ ad.block))
      (fun _ _ _ _ _ q hb => ⟨q.1, q.2.1, q.2.2.1, fun e => by obtain ⟨ad, h1, h2, h3⟩ := q.2.2.2 e; exact ⟨ad, h1, h2.up hb, h3⟩⟩) ?_
    refine rd_boxN X7 (by kernel_rfl) rfl ?_
    refine A7.val_at ok rfl hbr ?_
    refine flc_mk (fun w14 h14 _ => ?_) fun x18 => ?_
    · refine callP_mono (lSub w14 hto (ok.v_fit hbr)) (fun x w17 q => ⟨q.2.2, ⟨fun _ => ⟨by rw [q.1]; rfl, q.2.1⟩, fun e => absurd e (by decide), fun e => absurd e (by decide), fun e => absurd e (by decide)⟩⟩) (pn (fun mf q => q mf.f1) (bel_xa b7 _) h14)
    refine A7.el_at ok rfl hr rfl hk ?_
    refine flc_mk (fun w25 h25 q => ?_) fun x29 => ?_
    · obtain ⟨e18, f18⟩ := q.1.1 rfl
      have e18 := agg_qv e18
      subst e18
      refine callP_of (call_mono (lDiv w25 f18 (ok.a_fit hr hk) (fun q => hc (Rat.num_eq_zero.1 q))) fun x w28 q => ⟨q.2, ⟨fun e => absurd e (by decide), fun _ => by rw [q.1]; rfl, fun e => absurd e (by decide), fun e => absurd e (by decide)⟩⟩)
    refine flc_mk (fun w30 h30 q => ?_) fun x34 => ?_
    · have e29 := tup_eq (q.1.2.1 rfl)
      refine callP_mono (must_fit e29 (bel.refl w30)) (fun x w33 q => ⟨q.2.2, ⟨fun e => absurd e (by decide), fun e => absurd e (by decide), fun _ => ⟨by rw [q.1]; rfl, q.2.1⟩, fun e => absurd e (by decide)⟩⟩) (pn (fun mf q => q mf.f2) (bel_xa b7 _) h30)
    refine flc_mk (fun w35 h35 _ => ?_) fun x39 => ?_
    · refine wr_alloc (z := fracv 0 0) (by kernel_rfl) fun ad w38 Z hz hz2 _ => ?_
      exact ⟨hz, fun e => absurd e (by decide), fun e => absurd e (by decide), fun e => absurd e (by decide), fun _ => ⟨ad, rfl, Z, by have := h35.size; omega⟩⟩
    refine flend_mk fun w40 h40 q => ?_
    obtain ⟨e23, e22, _⟩ := q
    obtain ⟨ad, e39, Z39, h39⟩ := e23.2.2.2 rfl
    obtain ⟨e34, f34⟩ := e22.2.2.1 rfl
    have e34 := agg_qv e34
    subst e34
    have e39 : x39 = ad := by injection e39 with e; injection e with e
    subst e39
    have n39 : x1.block < x39.block := by have := X7.lt; omega
    replace h39 : w.heap.size ≤ x39.block := by have := b7.size; omega
    refine wu_box Z39 (by kernel_rfl) (Nat.le_refl 2) rfl fun w42 X42 g42 _ => ?_
    replace X42 : Box w42 x39 (encQ (T.by row k to)) := X42
    have b42 : bel w w42 := (b7.trans h40).grownAt g42 h39
    have A42 := A.up b42
    have X1' : Box w42 x1 (encQ to) := (X7.up h40).grown g42 (by intro e; injection e with e; omega)
    refine drw_mk fun w43 h43 _ => ?_
    have A43 := A42.up h43
    have b43 := b42.trans h43
    refine flEx_mk (fun _ _ v _ => v = fracv (T.v k + T.by row k to).num (T.v k + T.by row k to).den ∧ Fits (T.v k + T.by row k to)) (fun _ _ _ _ _ q _ => q) ?_
    refine nn_mk rfl (rd_box (by kernel_rfl) A43.box rfl rfl ?_)
    refine nn_mk rfl (rd_box (by kernel_rfl) A43.box rfl rfl ?_)
    refine rd_boxN (X1'.up h43) (by kernel_rfl) rfl ?_
    refine A43.val_at ok rfl hk ?_
    refine rd_boxN (X42.up h43) (by kernel_rfl) rfl ?_
    refine flc_mk (fun w55 h55 _ => ?_) fun x59 => ?_
    · exact callP_mono (lAdd w55 (ok.v_fit hk) f34) (fun x w58 q => ⟨q.2.2, by rw [q.1]; rfl, q.2.1⟩) (pn (fun mf q => q mf.f3) (bel_xa b43 _) h55)
    refine flend_mk fun w60 h60 q => ?_
    obtain ⟨⟨e59, f59⟩, _⟩ := q
    have e59 := agg_qv e59
    subst e59
    have b60 := b43.trans h60
    have A60 := A43.up h60
    have X60 : Box w60 x39 (encQ (T.by row k to)) := (X42.up h43).up h60
    refine A60.setV ok hS rfl hbr to fun w63 A63 g63 k63 => ?_
    have X63 := k63 _ _ h39 X60
    have ok63 := ok.setV (j := T.b row) hto
    refine A63.setV ok63 hS rfl hk (T.v k + T.by row k to) fun w65 A65 g65 k65 => ?_
    have X65 := k65 _ _ h39 X63
    have ok65 := ok63.setV (j := k) f59
    have x65 : Xa (t.block + 1) w w65 := ((bel_xa b60 _).trans g63).trans g65
    clear A2 A7 A42 A43 A60 A63 X7 X1 X1' X42 X60 X63 g63 g65 k63 k65 b60 b43 b42 ok63 h40 h60 h43 g42 Z39 e23 e22 b7 h7 h2
    -- the values of the basic variables
    refine nn_mk rfl (rd_box (by kernel_rfl) A65.box rfl rfl ?_)
    refine loop_up M (fun i w' => TabAt w' t H p { T with val := T.vN row k to i } ∧ TbOk N M { T with val := T.vN row k to i } ∧ Xa (t.block + 1) w w' ∧ Box w' x39 (encQ (T.by row k to))) ⟨A65, ok65, x65, X65⟩ ?_
    rintro i w70 hi ⟨A70, ok70, x70, X70⟩ again hag _
    refine br_dec (fun hlt => ?_) (fun hge => ?_)
    · have hiM : i < M := by dsimp only at hlt; rw [hbl] at hlt; omega
      have hbi := ok.b_lt hiM
      refine join_mk (fun _ w' => TabAt w' t H p { T with val := T.vN row k to (i + 1) } ∧ TbOk N M { T with val := T.vN row k to (i + 1) } ∧ Xa (t.block + 1) w w' ∧ Box w' x39 (encQ (T.by row k to))) (fun K71 hK => ?_) (fun x w2 q => ?_)
      case refine_2 =>
        intro _
        refine z_eq (by exact IntWalk.i64_in _ ⟨by dsimp only; omega, by dsimp only; omega⟩) ?_
        exact hag _ hiM q
      refine at_int tyInts (by kernel_rfl) A70.bs.sl rfl (by rw [hbl]; exact hiM) fun x hx => ?_
      have hx : x = (T.b i : Nat) := by rw [List.getElem?_map, ok.bas_get hiM] at hx; cases hx; rfl
      subst hx
      refine A70.el_at ok70 rfl hiM rfl hk ?_
      refine boxF fun x83 w85 h85 X83 h83 => ?_
      have A85 := A70.up h85
      have X85 := X70.up h85
      have x85 := x70.trans (bel_xa h85 _)
      have no : ¬ (i ≠ row ∧ T.a i k ≠ 0) → K71 () w85 := fun q => by
        have e : T.vN row k to (i + 1) = T.vN row k to i := by rw [Tb.vN]; exact if_neg q
        exact hK _ _ ⟨by rw [e]; exact A85, by rw [e]; exact ok70, x85, X85⟩
      refine br_ne (fun hir => ?_) (fun hir => ?_)
      case refine_2 => exact no fun q => q.1 (by dsimp only at hir; omega)
      have hir' : i ≠ row := fun e => hir (by rw [e])
      refine rd_box0 (by kernel_rfl) X83 rfl rfl ?_
      refine br_ne (fun h0 => ?_) (fun h0 => ?_)
      case refine_2 => exact no fun q => q.2 (Rat.num_eq_zero.1 h0)
      have ha0 : T.a i k ≠ 0 := fun q => h0 (Rat.num_eq_zero.2 q)
      refine drw_mk fun w87 h87 _ => ?_
      have A87 := A85.up h87
      have x87 := x85.trans (bel_xa h87 _)
      refine flEx_mk (fun q _ v _ => (q = 14 → v = fracv (T.a i k * T.by row k to).num (T.a i k * T.by row k to).den ∧ Fits (T.a i k * T.by row k to)) ∧
        (q = 15 → v = fracv ((T.vN row k to i).getD (T.b i) 0 + T.a i k * T.by row k to).num ((T.vN row k to i).getD (T.b i) 0 + T.a i k * T.by row k to).den ∧ Fits ((T.vN row k to i).getD (T.b i) 0 + T.a i k * T.by row k to))) (fun _ _ _ _ _ q _ => q) ?_
      refine nn_mk rfl (rd_box (by kernel_rfl) A87.box rfl rfl ?_)
      refine A87.val_at ok70 rfl hbi ?_
      refine rd_boxN (X83.up h87) (by kernel_rfl) rfl ?_
      refine rd_boxN (X85.up h87) (by kernel_rfl) rfl ?_
      refine flc_mk (fun w97 h97 _ => ?_) fun x101 => ?_
      · exact callP_mono (lMul w97 (ok.a_fit hiM hk) f34) (fun x w58 q => ⟨q.2.2, ⟨fun _ => ⟨by rw [q.1]; rfl, q.2.1⟩, fun e => absurd e (by decide)⟩⟩) (pn (fun mf q => q (mf.f4 i hiM hir' ha0).1) x87 h97)
      refine flc_mk (fun w102 h102 q => ?_) fun x106 => ?_
      · obtain ⟨e1, f1⟩ := q.1.1 rfl
        have e1 := agg_qv e1
        subst e1
        exact callP_mono (lAdd w102 (ok70.v_fit hbi) f1) (fun x w58 q => ⟨q.2.2, ⟨fun e => absurd e (by decide), fun _ => ⟨by rw [q.1]; rfl, q.2.1⟩⟩⟩) (pn (fun mf q => q (mf.f4 i hiM hir' ha0).2) x87 h102)
      refine flend_mk fun w107 h107 q => ?_
      obtain ⟨e1, f1⟩ := q.1.2 rfl
      have e1 := agg_qv e1
      subst e1
      have A107 := A87.up h107
      refine A107.setV ok70 hS rfl hbi _ fun w110 A110 g110 k110 => ?_
      have e : T.vN row k to (i + 1) = (T.vN row k to i).set (T.b i) ((T.vN row k to i).getD (T.b i) 0 + T.a i k * T.by row k to) := by rw [Tb.vN]; exact if_pos ⟨hir', ha0⟩
      refine hK _ _ ⟨by rw [e]; exact A110, by rw [e]; exact ok70.setV (j := T.b i) f1, (x87.trans (bel_xa h107 _)).trans g110, k110 _ _ h39 ((X85.up h87).up h107)⟩
    have hiM : i = M := by dsimp only at hge; rw [hbl] at hge; omega
    rw [hiM] at A70 ok70
    clear hag hge hi hiM again
    have hlb := ok.lb
    have hlr := ok.lr
    -- the row is turned about
    refine A70.el_at ok70 rfl hr rfl hk ?_
    refine boxF fun x117 w119 h119 X119 hx117 => ?_
    have A119 := A70.up h119
    have x119 := x70.trans (bel_xa h119 _)
    have n117 : w.heap.size ≤ x117.block := by have := x70.size; omega
    replace X119 : Box w119 x117 (encQ (T.a row k)) := X119
    refine A119.row_at ok70 rfl hr fun g hg O119 => ?_
    have hgl : g.2.1 = N := by have := slQ_len O119.sl; rw [show ({ T with val := T.vN row k to M } : Tb).rows.getD row [] = T.rows.getD row [] from rfl, ok.row_len hr] at this; exact this.symm
    refine loop_up N (fun j w' => TabAt w' t H p { T with val := T.vN row k to M, rows := T.rows.set row (divN (T.rows.getD row []) (T.a row k) j) } ∧ TbOk N M { T with val := T.vN row k to M, rows := T.rows.set row (divN (T.rows.getD row []) (T.a row k) j) } ∧ Xa (t.block + 1) w w' ∧ Box w' x117 (encQ (T.a row k)))
      ⟨by rw [show divN (T.rows.getD row []) (T.a row k) 0 = T.rows.getD row [] from rfl, set_self (by rw [hlr]; exact hr)]; exact A119, by rw [show divN (T.rows.getD row []) (T.a row k) 0 = T.rows.getD row [] from rfl, set_self (by rw [hlr]; exact hr)]; exact ok70, x119, X119⟩ ?_
    rintro j w126 hj ⟨A126, ok126, x126, X126⟩ again hag _
    refine br_dec (fun hlt => ?_) (fun hge => ?_)
    · have hjN : j < N := by dsimp only at hlt; rw [hgl] at hlt; omega
      refine join_mk (fun _ w' => TabAt w' t H p { T with val := T.vN row k to M, rows := T.rows.set row (divN (T.rows.getD row []) (T.a row k) (j + 1)) } ∧ TbOk N M { T with val := T.vN row k to M, rows := T.rows.set row (divN (T.rows.getD row []) (T.a row k) (j + 1)) } ∧ Xa (t.block + 1) w w' ∧ Box w' x117 (encQ (T.a row k))) (fun K127 hK => ?_) (fun x w2 q => ?_)
      case refine_2 =>
        intro _
        refine z_eq (by exact IntWalk.i64_in _ ⟨by dsimp only; omega, by dsimp only; omega⟩) ?_
        exact hag _ hjN q
      have eD : (T.rows.set row (divN (T.rows.getD row []) (T.a row k) j)).getD row [] = divN (T.rows.getD row []) (T.a row k) j := getD_set (by rw [hlr]; exact hr)
      have hel : (divN (T.rows.getD row []) (T.a row k) j)[j]? = some (T.a row j) := by rw [divN_get _ _ j j (Nat.le_refl _)]; exact ok.el_get hr hjN
      have hrj : (T.rows.getD row []).getD j 0 = T.a row j := rfl
      have O126 := A126.own_at ok126 hg hr
      rw [show ({ T with val := T.vN row k to M, rows := T.rows.set row (divN (T.rows.getD row []) (T.a row k) j) } : Tb).rows.getD row [] = _ from eD] at O126
      refine atQ O126.sl rfl hel ?_
      refine boxF fun x133 w135 h135 X133 hx133 => ?_
      have A135 := A126.up h135
      have x135 := x126.trans (bel_xa h135 _)
      refine rd_box0 (by kernel_rfl) X133 rfl rfl ?_
      refine br_ne (fun h0 => ?_) (fun h0 => ?_)
      case refine_2 =>
        have e : divN (T.rows.getD row []) (T.a row k) (j + 1) = divN (T.rows.getD row []) (T.a row k) j := by rw [divN, hrj]; exact if_neg fun q => q (Rat.num_eq_zero.1 h0)
        exact hK _ _ ⟨by rw [e]; exact A135, by rw [e]; exact ok126, x135, X126.up h135⟩
      have ha0 : T.a row j ≠ 0 := fun q => h0 (Rat.num_eq_zero.2 q)
      refine drw_mk fun w137 h137 _ => ?_
      have A137 := A135.up h137
      have x137 := x135.trans (bel_xa h137 _)
      refine flEx_mk (fun q _ v _ => (q = 8 → v = fracv (0 : Rat).num (0 : Rat).den) ∧ (q = 11 → v = tupv (fitT (T.a row j / T.a row k))) ∧ (q = 14 → v = fracv (T.a row j / T.a row k).num (T.a row j / T.a row k).den ∧ Fits (T.a row j / T.a row k)) ∧
        (q = 15 → v = fracv (0 + -(T.a row j / T.a row k)).num (0 + -(T.a row j / T.a row k)).den ∧ Fits (0 + -(T.a row j / T.a row k)))) (fun _ _ _ _ _ q _ => q) ?_
      refine A137.row_at ok126 rfl hr fun g' hg' _ => ?_
      have hgg : g' = g := by rw [hg] at hg'; cases hg'; rfl
      subst hgg
      refine flc_mk (fun w143 h143 _ => ?_) fun x147 => ?_
      · exact callP_of (call_mono (lWhole 0 w143) fun x w' q => ⟨q.2, ⟨fun _ => by rw [q.1]; rfl, fun e => absurd e (by decide), fun e => absurd e (by decide), fun e => absurd e (by decide)⟩⟩)
      refine rd_boxN (X133.up h137) (by kernel_rfl) rfl ?_
      refine rd_boxN ((X126.up h135).up h137) (by kernel_rfl) rfl ?_
      refine flc_mk (fun w150 h150 _ => ?_) fun x154 => ?_
      · exact callP_of (call_mono (lDiv w150 (ok.a_fit hr hjN) (ok.a_fit hr hk) (fun q => hc (Rat.num_eq_zero.1 q))) fun x w28 q => ⟨q.2, ⟨fun e => absurd e (by decide), fun _ => by rw [q.1], fun e => absurd e (by decide), fun e => absurd e (by decide)⟩⟩)
      refine flc_mk (fun w155 h155 q => ?_) fun x159 => ?_
      · have e154 := tup_eq (q.1.2.1 rfl)
        exact callP_mono (must_fit e154 (bel.refl w155)) (fun x w33 q => ⟨q.2.2, ⟨fun e => absurd e (by decide), fun e => absurd e (by decide), fun _ => ⟨by rw [q.1]; rfl, q.2.1⟩, fun e => absurd e (by decide)⟩⟩) (pn (fun mf q => q (mf.f5 j hjN ha0).1) x137 h155)
      refine flc_mk (fun w160 h160 q => ?_) fun x164 => ?_
      · have e147 := agg_qv (q.2.2.1.1 rfl)
        obtain ⟨e159, f159⟩ := q.1.2.2.1 rfl
        have e159 := agg_qv e159
        subst e147 e159
        exact callP_mono (lSub w160 (fits_of_int (n := 0) ⟨by omega, by omega⟩) f159) (fun x w33 q => ⟨q.2.2, ⟨fun e => absurd e (by decide), fun e => absurd e (by decide), fun e => absurd e (by decide), fun _ => ⟨by rw [q.1]; rfl, q.2.1⟩⟩⟩) (pn (fun mf q => q (mf.f5 j hjN ha0).2) x137 h160)
      refine flend_mk fun w165 h165 q => ?_
      obtain ⟨e164, f164⟩ := q.1.2.2.2 rfl
      have e164 := agg_qv e164
      subst e164
      have A165 := A137.up h165
      refine A165.setR ok126 hS hg hr rfl hjN _ fun w168 A168 g168 k168 => ?_
      have ok168 := ok126.setR (q := row) (j := j) hr f164
      have e : T.rows.set row (divN (T.rows.getD row []) (T.a row k) (j + 1)) = (T.rows.set row (divN (T.rows.getD row []) (T.a row k) j)).set row (((T.rows.set row (divN (T.rows.getD row []) (T.a row k) j)).getD row []).set j (0 + -(T.a row j / T.a row k))) := by
        rw [set_twice (by rw [hlr]; exact hr), divN, hrj, if_pos ha0]
      exact hK _ _ ⟨by rw [e]; exact A168, by rw [e]; exact ok168, (x137.trans (bel_xa h165 _)).trans g168, k168 _ _ n117 (((X126.up h135).up h137).up h165)⟩
    have hjN : j = N := by dsimp only at hge; rw [hgl] at hge; omega
    rw [hjN] at A126 ok126
    clear hag hge hj hjN again
    -- the rest of the row, and the basic variable
    refine drw_mk fun w169 h169 _ => ?_
    have A169 := A126.up h169
    have x169 := x126.trans (bel_xa h169 _)
    refine flEx_mk (fun q _ v _ => (q = 16 → v = fracv (0 : Rat).num (0 : Rat).den) ∧ (q = 17 → v = fracv (1 : Rat).num (1 : Rat).den) ∧ (q = 19 → v = tupv (fitT (1 / T.a row k))) ∧ (q = 22 → v = fracv (1 / T.a row k).num (1 / T.a row k).den ∧ Fits (1 / T.a row k)))
      (fun _ _ _ _ _ q _ => q) ?_
    refine A169.row_at ok126 rfl hr fun g1 hg1 _ => ?_
    have hgg : g1 = g := by rw [hg] at hg1; cases hg1; rfl
    subst hgg
    refine A169.row_at ok126 rfl hr fun g2 hg2 _ => ?_
    have hgg : g2 = g1 := by rw [hg] at hg2; cases hg2; rfl
    subst hgg
    refine flc_mk (fun w179 h179 _ => ?_) fun x183 => ?_
    · exact callP_of (call_mono (lWhole 0 w179) fun x w' q => ⟨q.2, ⟨fun _ => by rw [q.1]; rfl, fun e => absurd e (by decide), fun e => absurd e (by decide), fun e => absurd e (by decide)⟩⟩)
    refine flc_mk (fun w184 h184 _ => ?_) fun x188 => ?_
    · exact callP_of (call_mono (lWhole 1 w184) fun x w' q => ⟨q.2, ⟨fun e => absurd e (by decide), fun _ => by rw [q.1]; rfl, fun e => absurd e (by decide), fun e => absurd e (by decide)⟩⟩)
    refine rd_boxN (X126.up h169) (by kernel_rfl) rfl ?_
    refine flc_mk (fun w190 h190 q => ?_) fun x194 => ?_
    · have e188 := agg_qv (q.1.2.1 rfl)
      subst e188
      exact callP_of (call_mono (lDiv (r := 1) w190 (fits_of_int (n := 1) ⟨by omega, by omega⟩) (ok.a_fit hr hk) (fun q => hc (Rat.num_eq_zero.1 q))) fun x w28 q => ⟨q.2, ⟨fun e => absurd e (by decide), fun e => absurd e (by decide), fun _ => by rw [q.1], fun e => absurd e (by decide)⟩⟩)
    refine flc_mk (fun w195 h195 q => ?_) fun x199 => ?_
    · have e194 := tup_eq (q.1.2.2.1 rfl)
      exact callP_mono (must_fit e194 (bel.refl w195)) (fun x w33 q => ⟨q.2.2, ⟨fun e => absurd e (by decide), fun e => absurd e (by decide), fun e => absurd e (by decide), fun _ => ⟨by rw [q.1]; rfl, q.2.1⟩⟩⟩) (pn (fun mf q => q mf.f6) x169 h195)
    refine flend_mk fun w200 h200 q => ?_
    have e183 := agg_qv (q.2.2.2.1.1 rfl)
    obtain ⟨e199, f199⟩ := q.1.2.2.2 rfl
    have e199 := agg_qv e199
    subst e183 e199
    have A200 := A169.up h200
    have f0 : Fits (0 : Rat) := fits_of_int (n := 0) ⟨by omega, by omega⟩
    have x200 := x169.trans (bel_xa h200 _)
    have hrl' : row < T.rows.length := by rw [hlr]; exact hr
    refine A200.setR ok126 hS hg hr rfl hk _ fun w203 A203 g203 _ => ?_
    have ok203 := ok126.setR (q := row) (j := k) hr f0
    dsimp only at A203 ok203
    rw [set_twice hrl'] at A203 ok203
    refine A203.setR ok203 hS hg hr rfl hbr _ fun w205 A205 g205 _ => ?_
    have ok205 := ok203.setR (q := row) (j := T.b row) hr f199
    dsimp only at A205 ok205
    rw [set_twice hrl'] at A205 ok205
    have enr : ((divN (T.rows.getD row []) (T.a row k) N).set k 0).set (T.b row) (1 / T.a row k) = T.nr row k := by unfold Tb.nr; rw [ok.row_len hr]
    rw [enr] at A205 ok205
    refine nn_mk rfl (rd_box (by kernel_rfl) A205.box rfl rfl ?_)
    refine A205.setB ok205 hS rfl hr (k := k) fun w209 A209 g209 _ => ?_
    have ok209 := ok205.setB (j := row) hk
    dsimp only at A209 ok209
    have x209 := ((x200.trans g203).trans g205).trans g209
    have hnl : (T.nr row k).length = N := by rw [nr_len, ok.row_len hr]
    clear A200 A203 A205 ok203 ok205 g203 g205 g209 A169 A126 ok126 x126 x169 x200 X126 A119 X119 O119 x119 A70 ok70 X70 x70 A65 ok65 x65 X65 q
    -- the other rows
    refine nn_mk rfl (rd_box (by kernel_rfl) A209.box rfl rfl ?_)
    refine loop_up M (fun i w' => TabAt w' t H p { T with val := T.vN row k to M, bas := T.bas.set row k, rows := T.rN row k i } ∧ TbOk N M { T with val := T.vN row k to M, bas := T.bas.set row k, rows := T.rN row k i } ∧ Xa (t.block + 1) w w') ⟨A209, ok209, x209⟩ ?_
    rintro i w214 hi ⟨A214, ok214, x214⟩ again hag _
    refine br_dec (fun hlt => ?_) (fun hge => ?_)
    case refine_2 =>
      have hiM : i = M := by dsimp only at hge; rw [hrl] at hge; omega
      rw [hiM] at A214 ok214
      refine ⟨rfl, ?_, ?_, x214⟩
      · unfold Tb.move; rw [hlb, hlr]; exact A214
      · unfold Tb.move; rw [hlb, hlr]; exact ok214
    have hiM : i < M := by dsimp only at hlt; rw [hrl] at hlt; omega
    refine join_mk (fun _ w' => TabAt w' t H p { T with val := T.vN row k to M, bas := T.bas.set row k, rows := T.rN row k (i + 1) } ∧ TbOk N M { T with val := T.vN row k to M, bas := T.bas.set row k, rows := T.rN row k (i + 1) } ∧ Xa (t.block + 1) w w') (fun K215 hK => ?_) (fun x w2 q => ?_)
    case refine_2 =>
      intro _
      refine z_eq (by exact IntWalk.i64_in _ ⟨by dsimp only; omega, by dsimp only; omega⟩) ?_
      exact hag _ hiM q
    obtain ⟨gi, hgi, Oi⟩ := A214.hs_get ok214 hiM
    refine at_hdr tyFracTab (by kernel_rfl) A214.rs.sl rfl (by rw [hrl]; exact hiM) fun x hx => ?_
    have hx : x = gi := by rw [hgi] at hx; cases hx; rfl
    subst hx
    refine atQ Oi.sl rfl (ok214.el_get hiM hk) ?_
    refine boxF fun x223 w225 h225 X223 hx223 => ?_
    have A225 := A214.up h225
    have x225 := x214.trans (bel_xa h225 _)
    have n223 : w.heap.size ≤ x223.block := by have := x214.size; omega
    have no : ¬ (i ≠ row ∧ T.a i k ≠ 0) → K215 () w225 := fun q => by
      have e : T.rN row k (i + 1) = T.rN row k i := by rw [Tb.rN]; exact if_neg q
      exact hK _ _ ⟨by rw [e]; exact A225, by rw [e]; exact ok214, x225⟩
    refine br_eq (fun hir => ?_) (fun hir => ?_)
    · exact no fun q => q.1 (by dsimp only at hir; omega)
    have hir' : i ≠ row := fun e => hir (by rw [e])
    have hri : (T.rN row k i).getD i [] = T.rows.getD i [] := by
      rw [List.getD_eq_getElem?_getD, rN_get i i (Nat.le_refl _), List.getElem?_set_ne (fun e => hir' e.symm), List.getD_eq_getElem?_getD]
    have hai : ({ T with val := T.vN row k to M, bas := T.bas.set row k, rows := T.rN row k i } : Tb).a i k = T.a i k := by unfold Tb.a; dsimp only; rw [hri]
    rw [hai] at X223
    replace X223 : Box w225 x223 (encQ (T.a i k)) := X223
    refine rd_box0 (by kernel_rfl) X223 rfl rfl ?_
    refine br_eq (fun h0 => ?_) (fun h0 => ?_)
    · exact no fun q => q.2 (Rat.num_eq_zero.1 h0)
    have ha0 : T.a i k ≠ 0 := fun q => h0 (Rat.num_eq_zero.2 q)
    refine callP_of (call_mono (lWhole 0 w225) fun x227 w228 q => ?_)
    obtain ⟨e227, h228⟩ := q
    subst e227
    have A228 := A225.up h228
    have hil : i < (T.rN row k i).length := by rw [rN_len, hlr]; exact hiM
    refine A228.setR ok214 hS hgi hiM rfl hk (0 : Rat) fun w230 A230 g230 k230 => ?_
    have ok230 := ok214.setR (q := i) (j := k) hiM f0
    dsimp only at A230 ok230
    rw [hri] at A230 ok230
    have X230 := k230 _ _ n223 (X223.up h228)
    have x230 := (x225.trans (bel_xa h228 _)).trans g230
    have hrow : ∀ Y : List Rat, ((T.rN row k i).set i Y).getD row [] = T.nr row k := fun Y => by
      rw [getD_set_ne' hir', List.getD_eq_getElem?_getD, rN_row, List.getElem?_set_self hrl']; rfl
    refine A230.row_at ok230 rfl hr fun g' hg' O230 => ?_
    dsimp only at O230
    rw [hrow] at O230
    have hgl' : g'.2.1 = N := by have := slQ_len O230.sl; rw [hnl] at this; exact this.symm
    refine loop_up N (fun j w' => TabAt w' t H p { T with val := T.vN row k to M, bas := T.bas.set row k, rows := (T.rN row k i).set i (addN ((T.rows.getD i []).set k 0) (T.a i k) (T.nr row k) j) } ∧
      TbOk N M { T with val := T.vN row k to M, bas := T.bas.set row k, rows := (T.rN row k i).set i (addN ((T.rows.getD i []).set k 0) (T.a i k) (T.nr row k) j) } ∧ Xa (t.block + 1) w w' ∧ Box w' x223 (encQ (T.a i k))) ⟨A230, ok230, x230, X230⟩ ?_
    rintro j w237 hj ⟨A237, ok237, x237, X237⟩ again2 hag2 _
    refine br_dec (fun hlt2 => ?_) (fun hge2 => ?_)
    case refine_2 =>
      have hjN : j = N := by dsimp only at hge2; rw [hgl'] at hge2; omega
      rw [hjN] at A237 ok237
      have e : T.rN row k (i + 1) = (T.rN row k i).set i (addN ((T.rows.getD i []).set k 0) (T.a i k) (T.nr row k) N) := by rw [Tb.rN, if_pos ⟨hir', ha0⟩, hnl]
      exact hK _ _ ⟨by rw [e]; exact A237, by rw [e]; exact ok237, x237⟩
    have hjN : j < N := by dsimp only at hlt2; rw [hgl'] at hlt2; omega
    refine join_mk (fun _ w' => TabAt w' t H p { T with val := T.vN row k to M, bas := T.bas.set row k, rows := (T.rN row k i).set i (addN ((T.rows.getD i []).set k 0) (T.a i k) (T.nr row k) (j + 1)) } ∧
      TbOk N M { T with val := T.vN row k to M, bas := T.bas.set row k, rows := (T.rN row k i).set i (addN ((T.rows.getD i []).set k 0) (T.a i k) (T.nr row k) (j + 1)) } ∧ Xa (t.block + 1) w w' ∧ Box w' x223 (encQ (T.a i k))) (fun K238 hK2 => ?_) (fun x w2 q => ?_)
    case refine_2 =>
      intro _
      refine z_eq (by exact IntWalk.i64_in _ ⟨by dsimp only; omega, by dsimp only; omega⟩) ?_
      exact hag2 _ hjN q
    have O237 := A237.own_at ok237 hg' hr
    dsimp only at O237
    rw [hrow] at O237
    have hnj : (T.nr row k)[j]? = some ((T.nr row k).getD j 0) := by rw [List.getD_eq_getElem?_getD, List.getElem?_eq_getElem (by rw [hnl]; exact hjN)]; rfl
    have fnj : Fits ((T.nr row k).getD j 0) := by
      have h1 := ok237.row_get hr
      dsimp only at h1
      rw [hrow] at h1
      exact ok237.fr _ (mem_at h1) _ (mem_at hnj)
    refine atQ O237.sl rfl hnj ?_
    refine boxF fun x244 w246 h246 X244 hx244 => ?_
    have A246 := A237.up h246
    have x246 := x237.trans (bel_xa h246 _)
    refine rd_box0 (by kernel_rfl) X244 rfl rfl ?_
    refine br_ne (fun h0 => ?_) (fun h0 => ?_)
    case refine_2 =>
      have e : addN ((T.rows.getD i []).set k 0) (T.a i k) (T.nr row k) (j + 1) = addN ((T.rows.getD i []).set k 0) (T.a i k) (T.nr row k) j := by rw [addN]; exact if_neg fun q => q (Rat.num_eq_zero.1 h0)
      exact hK2 _ _ ⟨by rw [e]; exact A246, by rw [e]; exact ok237, x246, X237.up h246⟩
    have hn0 : (T.nr row k).getD j 0 ≠ 0 := fun q => h0 (Rat.num_eq_zero.2 q)
    refine drw_mk fun w248 h248 _ => ?_
    have A248 := A246.up h248
    have x248 := x246.trans (bel_xa h248 _)
    refine flEx_mk (fun _ _ v _ => v = fracv (T.a i k * (T.nr row k).getD j 0).num (T.a i k * (T.nr row k).getD j 0).den ∧ Fits (T.a i k * (T.nr row k).getD j 0)) (fun _ _ _ _ _ q _ => q) ?_
    have eI : ((T.rN row k i).set i (addN ((T.rows.getD i []).set k 0) (T.a i k) (T.nr row k) j)).getD i [] = addN ((T.rows.getD i []).set k 0) (T.a i k) (T.nr row k) j := getD_set hil
    have O248 := A248.own_at ok237 hgi hiM
    dsimp only at O248
    rw [eI] at O248
    have hal : (addN ((T.rows.getD i []).set k 0) (T.a i k) (T.nr row k) j).length = N := by rw [addN_len, List.length_set, ok.row_len hiM]
    have haj : (addN ((T.rows.getD i []).set k 0) (T.a i k) (T.nr row k) j)[j]? = some ((addN ((T.rows.getD i []).set k 0) (T.a i k) (T.nr row k) j).getD j 0) := get_some (by rw [hal]; exact hjN)
    have faj : Fits ((addN ((T.rows.getD i []).set k 0) (T.a i k) (T.nr row k) j).getD j 0) := by
      have h1 := ok237.row_get hiM
      dsimp only at h1
      rw [eI] at h1
      exact ok237.fr _ (mem_at h1) _ (mem_at haj)
    refine atQ O248.sl rfl haj ?_
    refine rd_boxN ((X237.up h246).up h248) (by kernel_rfl) rfl ?_
    refine rd_boxN (X244.up h248) (by kernel_rfl) rfl ?_
    refine flc_mk (fun w254 h254 _ => ?_) fun x258 => ?_
    · exact callP_mono (lMul w254 (ok.a_fit hiM hk) fnj) (fun x w58 q => ⟨q.2.2, by rw [q.1]; rfl, q.2.1⟩) (pn (fun mf q => q (mf.f7 i hiM hir' ha0 j hjN hn0).1) x248 h254)
    refine flend_mk fun w259 h259 q => ?_
    obtain ⟨⟨e258, f258⟩, _⟩ := q
    have e258 := agg_qv e258
    subst e258
    refine callP_mono (lAdd w259 faj f258) (fun x261 w262 q => ?_) (pn (fun mf q => q (mf.f7 i hiM hir' ha0 j hjN hn0).2) x248 h259)
    obtain ⟨e261, f261, h262⟩ := q
    subst e261
    have A262 := (A248.up h259).up h262
    refine A262.setR ok237 hS hgi hiM rfl hjN _ fun w264 A264 g264 k264 => ?_
    have ok264 := ok237.setR (q := i) (j := j) hiM f261
    dsimp only at A264 ok264
    rw [set_twice hil] at A264 ok264
    have e : addN ((T.rows.getD i []).set k 0) (T.a i k) (T.nr row k) (j + 1) = (addN ((T.rows.getD i []).set k 0) (T.a i k) (T.nr row k) j).set j ((addN ((T.rows.getD i []).set k 0) (T.a i k) (T.nr row k) j).getD j 0 + T.a i k * (T.nr row k).getD j 0) := by rw [addN]; exact if_pos hn0
    exact hK2 _ _ ⟨by rw [e]; exact A264, by rw [e]; exact ok264, (x248.trans (bel_xa (h259.trans h262) _)).trans g264, k264 _ _ n223 ((((X237.up h246).up h248).up h259).up h262)⟩
  exact Calls.mono main fun e w' q => q.imp (fun ⟨v, he, hv, q⟩ => ⟨(), by rw [he, hv]; rfl, q⟩) id
end Go.Proofs.YtajpdnphamomjaaGreat
