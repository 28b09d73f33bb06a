import Derived.Test.YtajpdnphamomjaaPackIntegralProofs5

/- The walk of IntegralProofs. -/

namespace Go.Proofs.Ytajpdnphamomjaa
open Go.RowKit Go.Q Go.Q.Num Go.V

def ProofOk (up : List Int) (T : List (List Int)) (rt : List Int) (n : Nat) (p : PT n) : Prop :=
  sysE up T rt = 0 ∧ (szP n p : Int) ≤ 2000 ∧ (depP n p : Int) ≤ 200 ∧ rightP up T rt n p (List.replicate up.length 0) up
theorem made_zero (n : Nat) : (madeCells (Value.int .i64 0).cells (n * 1)).toList = ints .i64 (List.replicate n 0) := by rw [Nat.mul_one]; exact made_int .i64 n
set_option maxHeartbeats 3200000 in
theorem chkPL (u r b : Hdr) (up : List Int) (T : List (List Int)) (rt : List Int) (hup : up.length ≤ 1000000) (n : Nat) (hn : n ≤ 31) (p : PT n) (x : CPr) (w : World) (hP : PrAt w n p x) (H : Sys w u r b up T rt) :
    call Try.prog 47 [sysv u r b, prv x] (.one (.one .bool)) w (fun y w' => (y = true ↔ ProofOk up T rt n p) ∧ bel w w') := by
  refine call_of (S47_calls u.1 u.2.1 u.2.2 r.1 r.2.1 r.2.2 b.1 b.2.1 b.2.2 x.1 x.2.1.1 x.2.1.2.1 x.2.1.2.2 x.2.2.1 x.2.2.2.1 x.2.2.2.2.1.1 x.2.2.2.2.1.2.1 x.2.2.2.2.1.2.2 w _ ?_)
  unfold S47
  have hul := H.u.int
  refine wr_box fun y1 w2 X1 h2 _ _ => ?_
  refine wr_box fun y3 w4 X h4 _ _ => ?_
  refine drw_mk fun w5 h5 _ => ?_
  have h := (h2.trans h4).trans h5
  replace X1 : Box w5 y1 (sysc u r b) := (X1.up h4).up h5
  replace X : Box w5 y3 (prc x) := Box.up (show Box w4 y3 (prc x) from X) h5
  replace H := H.up h; replace hP := hP.up h
  have no : ∀ {w' : World}, bel w w' → ¬ ProofOk up T rt n p → ∃ v : Bool, Value.bool false = (RS.one (.one .bool)).val v ∧ (v = true ↔ ProofOk up T rt n p) ∧ bel w w' := fun hb q => ⟨false, rfl, iff_no q, hb⟩
  refine flEx_mk (fun i _ vv w' => (i = 1 → vv = .int .i64 (sysE up T rt)) ∧ (i = 5 → vv = .int .i64 (szP n p)) ∧ (i = 10 → vv = .int .i64 (depP n p)) ∧ (i = 19 → ∃ h : Hdr, vv = hv h ∧ Sl w' h.1 h.2.1 h.2.2 1 (ints .i64 (List.replicate up.length 0))))
    (fun _ _ _ _ _ h hb => ⟨h.1, h.2.1, h.2.2.1, fun e => by obtain ⟨t, q1, q2⟩ := h.2.2.2 e; exact ⟨t, q1, q2.kept hb⟩⟩) ?_
  refine rd_boxN X1 (by kernel_rfl) rfl ?_
  refine flc_mk (fun w8 hb _ => call_mono (validL u r b up T rt w8 (H.up hb)) fun y w' ⟨hy, hb'⟩ => ⟨hb', fun _ => by rw [hy], fun e => by omega, fun e => by omega, fun e => by omega⟩) (fun (x12 : Int) => ?_)
  refine br_eq (fun e1 => ?_) (fun e1 => flend_mk fun w42 hb hf => no (h.trans hb) fun q => ?_)
  · refine rd_boxN X (by kernel_rfl) rfl ?_
    refine flc_mk (fun w8 hb _ => call_mono (szL n p x w8 hn (hP.up hb)) fun y w' ⟨hy, hb'⟩ => ⟨hb', fun e => by omega, fun _ => by rw [hy], fun e => by omega, fun e => by omega⟩) (fun (x18 : Int) => ?_)
    refine br_dec (fun e2 => ?_) (fun e2 => flend_mk fun w42 hb hf => no (h.trans hb) fun q => ?_)
    · refine rd_boxN X (by kernel_rfl) rfl ?_
      refine flc_mk (fun w8 hb _ => call_mono (depL n p x w8 hn (hP.up hb)) fun y w' ⟨hy, hb'⟩ => ⟨hb', fun e => by omega, fun e => by omega, fun _ => by rw [hy], fun e => by omega⟩) (fun (x24 : Int) => ?_)
      refine br_dec (fun e3 => ?_) (fun e3 => flend_mk fun w42 hb hf => no (h.trans hb) fun q => ?_)
      · refine rd_boxN X1 (by kernel_rfl) rfl ?_
        refine rd_boxN X (by kernel_rfl) rfl ?_
        refine rd_box0 (by kernel_rfl) X1 rfl rfl ?_
        refine flc_mk (fun w8 hb _ => wr_make tyI64 u.2.1 rfl rfl (by omega) (by unfold maxLen; omega) fun ad w' O hb' _ _ => ⟨hb', fun e => by omega, fun e => by omega, fun e => by omega, fun _ => ⟨(some ad, u.2.1, u.2.1), rfl, ?_⟩⟩) (fun (x32 : Hdr) => ?_)
        · have := (O w8.heap.size (Nat.le_refl _)).sl
          rw [made_zero, show u.2.1 = up.length from hul.symm] at this
          rw [show u.2.1 = up.length from hul.symm]
          exact this
        refine rd_box0 (by kernel_rfl) X1 rfl rfl ?_
        refine flend_mk fun w34 hb hf => ?_
        obtain ⟨f19, f10, f5, f1, _⟩ := hf
        obtain ⟨z, ez, Sz⟩ := f19.2.2.2 rfl
        have := sl_inj ez
        subst this
        have q10 := f10.2.2.1 rfl
        have q5 := f5.2.1 rfl
        have q1 := f1.1 rfl
        injection q10 with _ q10
        injection q5 with _ q5
        injection q1 with _ q1
        refine call_mono (rightL u r b up T rt hup n p x x32 u _ up w34 (hP.up hb) (H.up hb) Sz (H.up hb).u (by simp) rfl) ?_
        rintro x36 w37 ⟨hx, h37⟩
        refine ⟨x36, rfl, hx.trans ⟨fun q => ⟨by omega, by omega, by omega, q⟩, fun q => q.2.2.2⟩, (h.trans hb).trans h37⟩
      · have q2 := hf.1.2.2.1 rfl
        injection q2 with _ q2
        have := q.2.2.1
        omega
    · have q2 := hf.1.2.1 rfl
      injection q2 with _ q2
      have := q.2.1
      omega
  · have q2 := hf.1.1 rfl
    injection q2 with _ q2
    have := q.1
    omega
set_option maxHeartbeats 3200000 in
theorem chkP12 (u r b : Hdr) (up : List Int) (T : List (List Int)) (rt : List Int) (hup : up.length ≤ 1000000) (n : Nat) (hn : n ≤ 31) (p : PT n) (x : CPr) (w : World) (hP : PrAt w n p x) (H : Sys w u r b up T rt) :
    call Try.prog 48 [sysv u r b, prv x] (.one (.one .bool)) w (fun y w' => (y = true ↔ ProofOk up T rt n p) ∧ bel w w') := by
  refine call_of (S48_calls u.1 u.2.1 u.2.2 r.1 r.2.1 r.2.2 b.1 b.2.1 b.2.2 x.1 x.2.1.1 x.2.1.2.1 x.2.1.2.2 x.2.2.1 x.2.2.2.1 x.2.2.2.2.1.1 x.2.2.2.2.1.2.1 x.2.2.2.2.1.2.2 w _ ?_)
  unfold S48
  have hul := H.u.int
  refine wr_box fun y1 w2 X1 h2 _ _ => ?_
  refine wr_box fun y3 w4 X h4 _ _ => ?_
  have h := h2.trans h4
  replace X1 : Box w4 y1 (sysc u r b) := X1.up h4
  replace X : Box w4 y3 (prc x) := X
  replace H := H.up h; replace hP := hP.up h
  have no : ∀ {w' : World}, bel w w' → ¬ ProofOk up T rt n p → ∃ v : Bool, Value.bool false = (RS.one (.one .bool)).val v ∧ (v = true ↔ ProofOk up T rt n p) ∧ bel w w' := fun hb q => ⟨false, rfl, iff_no q, hb⟩
  refine rd_boxN X1 (by kernel_rfl) rfl ?_
  refine call_mono (valid11 u r b up T rt w4 H) ?_
  rintro x6 w7 ⟨rfl, h'⟩
  replace h := h.trans h'; replace X := X.up h'; replace X1 := X1.up h'; replace H := H.up h'; replace hP := hP.up h'; clear h'
  refine br_ne (fun e => no h fun q => e q.1) (fun e1 => ?_)
  refine rd_boxN X (by kernel_rfl) rfl ?_
  refine call_mono (sz12 n p x w7 hn hP) ?_
  rintro x9 w10 ⟨rfl, h'⟩
  replace h := h.trans h'; replace X := X.up h'; replace X1 := X1.up h'; replace H := H.up h'; replace hP := hP.up h'; clear h'
  refine br_dec (fun e => no h fun q => ?_) (fun e2 => ?_)
  · have := q.2.1; omega
  refine rd_boxN X (by kernel_rfl) rfl ?_
  refine call_mono (dep12 n p x w10 hn hP) ?_
  rintro x12 w13 ⟨rfl, h'⟩
  replace h := h.trans h'; replace X := X.up h'; replace X1 := X1.up h'; replace H := H.up h'; replace hP := hP.up h'; clear h'
  refine br_dec (fun e => no h fun q => ?_) (fun e3 => ?_)
  · have := q.2.2.1; omega
  refine drw_mk fun w14 h' _ => ?_
  replace h := h.trans h'; replace X := X.up h'; replace X1 := X1.up h'; replace H := H.up h'; replace hP := hP.up h'; clear h'
  refine flEx_mk (fun i _ vv w' => i = 5 → ∃ h : Hdr, vv = hv h ∧ Sl w' h.1 h.2.1 h.2.2 1 (ints .i64 (List.replicate up.length 0)))
    (fun _ _ _ _ _ h hb => fun e => by obtain ⟨t, q1, q2⟩ := h e; exact ⟨t, q1, q2.kept hb⟩) ?_
  refine rd_boxN X1 (by kernel_rfl) rfl ?_
  refine rd_boxN X (by kernel_rfl) rfl ?_
  refine rd_box0 (by kernel_rfl) X1 rfl rfl ?_
  refine flc_mk (fun w8 hb _ => wr_make tyI64 u.2.1 rfl rfl (by omega) (by unfold maxLen; omega) fun ad w' O hb' _ _ => ⟨hb', fun _ => ⟨(some ad, u.2.1, u.2.1), rfl, ?_⟩⟩) (fun (x32 : Hdr) => ?_)
  · have := (O w8.heap.size (Nat.le_refl _)).sl
    rw [made_zero, show u.2.1 = up.length from hul.symm] at this
    rw [show u.2.1 = up.length from hul.symm]
    exact this
  refine rd_box0 (by kernel_rfl) X1 rfl rfl ?_
  refine flend_mk fun w25 hb hf => ?_
  obtain ⟨z, ez, Sz⟩ := hf.1 rfl
  have := sl_inj ez
  subst this
  refine call_mono (right12 u r b up T rt hup n p x x32 u _ up w25 (hP.up hb) (H.up hb) Sz (H.up hb).u (by simp) rfl) ?_
  rintro x27 w28 ⟨hx, h28⟩
  refine ⟨x27, rfl, hx.trans ⟨fun q => ⟨by omega, by omega, by omega, q⟩, fun q => q.2.2.2⟩, (h.trans hb).trans h28⟩
theorem lat_ex3 : LatP [5] [[2]] [3] [(1, 2)] := by
  have c : colQ [[2]] [(1, 2)] 0 = 1 := by
    show (0 : Rat) + ratv 1 2 * ((2 : Int) : Rat) = 1
    kernel_rfl
  have d : rhsQ [[2]] [3] [(1, 2)] = mkRat 3 2 := by
    show (0 : Rat) + ratv 1 2 * ((3 : Int) : Rat) = mkRat 3 2
    kernel_rfl
  have e : sysE [5] [[2]] [3] = 0 := sysE_0 (by simp) (by simp) ⟨by simp, by simp, by simp⟩ ⟨rfl, by simp⟩
  refine ⟨combE_0 e rfl (fun p hp => ?_) ⟨fun k hk => ?_, ?_⟩, fun p hp => ?_, ?_⟩
  · simp at hp; subst hp; exact frac12
  · have : k = 0 := by simp at hk; omega
    subst this
    rw [c]; exact ⟨by decide, by decide, by decide⟩
  · rw [d]; exact ⟨by decide, by decide, by decide⟩
  · have : cols [5] [[2]] [(1, 2)] 1 = [fpair (colQ [[2]] [(1, 2)] 0)] := rfl
    have hp' : p ∈ cols [5] [[2]] [(1, 2)] 1 := hp
    rw [this, c] at hp'
    simp at hp'
    subst hp'
    rfl
  · rw [d]; decide
abbrev halfP : PT 1 := (⟨2, [(1, 2)], 0, 0, []⟩ : PN (PT 0))
theorem half_ok : ProofOk [5] [[2]] [3] 1 halfP := by
  refine ⟨sysE_0 (by simp) (by simp) ⟨by simp, by simp, by simp⟩ ⟨rfl, by simp⟩, by decide, by decide, ?_⟩
  exact (right_2 (p := (⟨2, [(1, 2)], 0, 0, []⟩ : PN (PT 0))) rfl ⟨rfl, rfl, rfl⟩).2 lat_ex3
theorem half_at {w : World} {x : Hdr} (S : Sl w x.1 x.2.1 x.2.2 2 (([(1, 2)] : List (Int × Int)).flatMap encF)) : PrAt w 1 halfP (2, x, 0, 0, (none, 0, 0), ()) :=
  ⟨⟨rfl, by decide, by decide⟩, ⟨S, fun y hy => by simp at hy; subst hy; exact ⟨⟨by decide, by decide⟩, ⟨by decide, by decide⟩⟩⟩, ⟨rfl, by decide, by decide⟩, ⟨rfl, by decide, by decide⟩, by decide, [], Sl.nil _ _, rfl, fun i y k h => by simp at h⟩
set_option maxHeartbeats 3200000 in
theorem intProofs (u r b : Hdr) (up : List Int) (T : List (List Int)) (rt : List Int) (x : CPr) (w : World) (H : Sys w u r b up T rt) (hR : Go.Q.Read Try.prog w 67 (prc x)) :
    Calls Try.prog 14 #[sysv u r b, prv x] w (fun e w' => e = .returned (.bool true) ∧ Below w.heap.size w w') := by
  refine Calls.mono (S14_calls u.1 u.2.1 u.2.2 r.1 r.2.1 r.2.2 b.1 b.2.1 b.2.2 x.1 x.2.1.1 x.2.1.2.1 x.2.1.2.2 x.2.2.1 x.2.2.2.1 x.2.2.2.2.1.1 x.2.2.2.2.1.2.1 x.2.2.2.2.1.2.2 w (fun v w' => v = .bool true ∧ bel w w') ?_) (by rintro e w' ⟨v, rfl, rfl, hb⟩; exact ⟨rfl, hb⟩)
  unfold S14
  refine wr_box fun y1 w2 X1 h2 _ _ => ?_
  refine wr_box fun y3 w4 X h4 _ _ => ?_
  have h := h2.trans h4
  replace X1 : Box w4 y1 (sysc u r b) := X1.up h4
  replace X : Box w4 y3 (prc x) := X
  replace H := H.up h
  refine rd_boxN X1 (by kernel_rfl) rfl ?_
  refine call_mono (fewS u r b up T rt w4 H) ?_
  rintro x6 w7 ⟨hx6, h'⟩
  replace h := h.trans h'; replace X := X.up h'; replace X1 := X1.up h'; replace H := H.up h'; clear h'
  refine br_not (fun _ => ⟨rfl, h⟩) (fun e6 => ?_)
  have hup := (hx6 e6).1
  refine rd_boxN X (by kernel_rfl) rfl ?_
  refine call_mono (few12 x w w7 hR h) ?_
  rintro x9 w10 ⟨hx9, h'⟩
  replace h := h.trans h'; replace X := X.up h'; replace X1 := X1.up h'; replace H := H.up h'; clear h'
  refine br_not (fun _ => ⟨rfl, h⟩) (fun e9 => ?_)
  obtain ⟨p, hP⟩ := hx9 e9
  replace hP := hP.up h
  refine litF fun x11 w12 h' S11 => ?_
  replace h := h.trans h'; replace X := X.up h'; replace X1 := X1.up h'; replace H := H.up h'; replace hP := hP.up h'; clear h'
  refine var_mk (v := prv (2, x11, 0, 0, (none, 0, 0), ())) (z := zpr) (by kernel_rfl) (by kernel_rfl) rfl rfl fun x13 w15 Y h' _ => ?_
  replace Y : Box w15 x13 (prc (2, x11, 0, 0, (none, 0, 0), ())) := Y
  replace S11 := S11.up h'
  replace h := h.trans h'; replace X := X.up h'; replace X1 := X1.up h'; replace H := H.up h'; replace hP := hP.up h'; clear h'
  refine drw_mk fun w16 h' _ => ?_
  replace S11 := S11.up h'
  replace h := h.trans h'; replace X := X.up h'; replace X1 := X1.up h'; replace H := H.up h'; replace hP := hP.up h'; replace Y := Y.up h'; clear h'
  refine flEx_mk (fun i _ vv w' => (i = 2 ∨ i = 5 → ∃ c, vv = .bool c ∧ (c = true ↔ ProofOk up T rt 31 p)) ∧ (i = 9 ∨ i = 11 → vv = .int .i64 (szP 31 p)) ∧ (i = 15 → ∃ h : Hdr, vv = hv h ∧ Sl w' h.1 h.2.1 h.2.2 1 (ints .i64 [5])) ∧ (i = 16 → ∃ h : Hdr, vv = hv h ∧ Sl w' h.1 h.2.1 h.2.2 1 (ints .i64 [2])) ∧ (i = 17 → ∃ h : Hdr, vv = hv h ∧ TabI .i64 w' h [[2]]) ∧ (i = 18 → ∃ h : Hdr, vv = hv h ∧ Sl w' h.1 h.2.1 h.2.2 1 (ints .i64 [3])))
    (fun _ _ _ _ _ h hb => ⟨h.1, h.2.1, fun e => by obtain ⟨t, q1, q2⟩ := h.2.2.1 e; exact ⟨t, q1, q2.kept hb⟩, fun e => by obtain ⟨t, q1, q2⟩ := h.2.2.2.1 e; exact ⟨t, q1, q2.kept hb⟩, fun e => by obtain ⟨t, q1, q2⟩ := h.2.2.2.2.1 e; exact ⟨t, q1, q2.up hb⟩, fun e => by obtain ⟨t, q1, q2⟩ := h.2.2.2.2.2 e; exact ⟨t, q1, q2.kept hb⟩⟩) ?_
  refine rd_boxN X1 (by kernel_rfl) rfl ?_
  refine rd_boxN X (by kernel_rfl) rfl ?_
  refine flc_mk (fun w8 hb _ => call_mono (chkPL u r b up T rt (by omega) 31 (by omega) p x w8 (hP.up hb) (H.up hb)) fun y w' ⟨hy, hb'⟩ => ⟨hb', fun _ => ⟨y, rfl, hy⟩, fun e => by omega, fun e => by omega, fun e => by omega, fun e => by omega, fun e => by omega⟩) (fun x24 => ?_)
  refine rd_boxN X1 (by kernel_rfl) rfl ?_
  refine rd_boxN X (by kernel_rfl) rfl ?_
  refine flc_mk (fun w8 hb _ => call_mono (chkP12 u r b up T rt (by omega) 31 (by omega) p x w8 (hP.up hb) (H.up hb)) fun y w' ⟨hy, hb'⟩ => ⟨hb', fun _ => ⟨y, rfl, hy⟩, fun e => by omega, fun e => by omega, fun e => by omega, fun e => by omega, fun e => by omega⟩) (fun x31 => ?_)
  have same : ∀ {P Q : Prop} {a c : Bool}, (∃ d, Value.bool a = .bool d ∧ (d = true ↔ P)) → (∃ d, Value.bool c = .bool d ∧ (d = true ↔ P)) → (a == c) = false → Q := by
    rintro P Q a c ⟨d, hd, hd2⟩ ⟨e, he, he2⟩ hne
    injection hd with hd; injection he with he
    subst hd he
    have := iff_eq hd2 he2
    subst this
    cases a <;> cases hne
  refine br_mk (fun e => ?_) (fun e => flend_mk fun w71 hb hf => same (hf.2.1.1 (.inl rfl)) (hf.1.1 (.inr rfl)) e)
  refine rd_boxN X (by kernel_rfl) rfl ?_
  refine flc_mk (fun w8 hb _ => call_mono (szL 31 p x w8 (by omega) (hP.up hb)) fun y w' ⟨hy, hb'⟩ => ⟨hb', fun e => by omega, fun _ => by rw [hy], fun e => by omega, fun e => by omega, fun e => by omega, fun e => by omega⟩) (fun (x37 : Int) => ?_)
  refine rd_boxN X (by kernel_rfl) rfl ?_
  refine flc_mk (fun w8 hb _ => call_mono (sz12 31 p x w8 (by omega) (hP.up hb)) fun y w' ⟨hy, hb'⟩ => ⟨hb', fun e => by omega, fun _ => by rw [hy], fun e => by omega, fun e => by omega, fun e => by omega, fun e => by omega⟩) (fun (x43 : Int) => ?_)
  refine br_eq (fun _ => ?_) (fun e2 => flend_mk fun w69 hb hf => ?_)
  · refine flc_mk (fun w44 hb _ => litI fun y w' hb' hS => ⟨hb', fun e => by omega, fun e => by omega, fun _ => ⟨y, rfl, hS⟩, fun e => by omega, fun e => by omega, fun e => by omega⟩) (fun (x48 : Hdr) => ?_)
    refine flc_mk (fun w44 hb _ => litI fun y w' hb' hS => ⟨hb', fun e => by omega, fun e => by omega, fun e => by omega, fun _ => ⟨y, rfl, hS⟩, fun e => by omega, fun e => by omega⟩) (fun (x53 : Hdr) => ?_)
    refine flc_mk (fun w54 hb hf => ?_) (fun (x58 : Hdr) => ?_)
    · obtain ⟨y, hy, hS⟩ := hf.1.2.2.2.1 rfl
      have := sl_inj hy
      subst this
      exact litT hS fun y w' hb' hT => ⟨hb', fun e => by omega, fun e => by omega, fun e => by omega, fun e => by omega, fun _ => ⟨y, rfl, hT⟩, fun e => by omega⟩
    refine flc_mk (fun w44 hb _ => litI fun y w' hb' hS => ⟨hb', fun e => by omega, fun e => by omega, fun e => by omega, fun e => by omega, fun e => by omega, fun _ => ⟨y, rfl, hS⟩⟩) (fun (x63 : Hdr) => ?_)
    refine rd_boxN Y (by kernel_rfl) rfl ?_
    refine flend_mk fun w65 hb hf => ?_
    obtain ⟨f18, f17, _, f15, _⟩ := hf
    obtain ⟨z1, q1, s1⟩ := f18.2.2.2.2.2 rfl
    obtain ⟨z2, q2, s2⟩ := f17.2.2.2.2.1 rfl
    obtain ⟨z3, q3, s3⟩ := f15.2.2.1 rfl
    have q1 := sl_inj q1
    have q2 := sl_inj q2
    have q3 := sl_inj q3
    subst q1 q2 q3
    refine call_mono (chkPL x48 x58 x63 [5] [[2]] [3] (by decide) 1 (by omega) halfP _ w65 (half_at (S11.up hb)) ⟨s3, s2, s1⟩) ?_
    rintro x67 w68 ⟨hx, h'⟩
    exact ⟨by rw [hx.2 half_ok], (h.trans hb).trans h'⟩
  · have a := hf.1.2.1 (.inr rfl)
    have b := hf.2.1.2.1 (.inl rfl)
    injection a with _ a
    injection b with _ b
    exact absurd (b.trans a.symm) e2
set_option maxRecDepth 100000 in
theorem argProof {w : World} {v : Value} (h : Go.Q.Arg Try.prog w 67 v) : ∃ x : CPr, v = prv x ∧ Go.Q.Read Try.prog w 67 (prc x) := by
  obtain ⟨cs, rfl, hsz, _⟩ := Go.V.Arg.struct Try.underlying67 h
  obtain ⟨x, hx, hR⟩ := readPr h.2
  refine ⟨x, ?_, hR⟩
  have : cs.toList = prc x := hx
  rw [← Array.toArray_toList (xs := cs), this]
end Go.Proofs.Ytajpdnphamomjaa
