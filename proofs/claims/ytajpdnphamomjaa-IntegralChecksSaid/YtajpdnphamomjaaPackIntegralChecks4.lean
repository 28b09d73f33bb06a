import Derived.Test.YtajpdnphamomjaaPackIntegralChecks3

/- When numbers are a solution: the program. -/

namespace Go.Proofs.Ytajpdnphamomjaa
open Go.RowKit Go.Q Go.Q.Num Go.V

set_option maxHeartbeats 1600000 in
theorem solL (u r b x : Hdr) (up : List Int) (T : List (List Int)) (rt : List Int) (L : List (Int × Int)) (w : World) (H : Sys w u r b up T rt) (HL : Sl w x.1 x.2.1 x.2.2 2 (L.flatMap encF)) (hI : ∀ p ∈ L, I64 p.1 ∧ I64 p.2) :
    call Try.prog 32 [sysv u r b, .slice x.1 x.2.1 x.2.2] (.one (.one .bool)) w (fun v w' => (v = true ↔ SolP up T rt L) ∧ bel w w') := by
  refine call_of (S32_calls u.1 u.2.1 u.2.2 r.1 r.2.1 r.2.2 b.1 b.2.1 b.2.2 x.1 x.2.1 x.2.2 w _ ?_)
  unfold S32
  have hu := H.u.int
  have hT := H.r.len
  have hb := H.b.int
  have hl := fr_len HL
  have no : ∀ {w' : World}, bel w w' → (SolP up T rt L → False) → ∃ v : Bool, Value.bool false = (RS.one (.one .bool)).val v ∧ (v = true ↔ SolP up T rt L) ∧ bel w w' := fun hb q => ⟨false, rfl, ⟨fun e => (Bool.noConfusion e), fun s => (q s).elim⟩, hb⟩
  refine wr_box fun x1 w2 X h _ _ => ?_
  replace X : Box w2 x1 (sysc u r b) := X
  replace H := H.up h; replace HL := HL.up h
  refine rd_boxN X (by kernel_rfl) rfl ?_
  refine call_mono (validL u r b up T rt w2 H) ?_
  rintro x4 w5 ⟨rfl, h'⟩
  replace h := h.trans h'; replace X := X.up h'; replace H := H.up h'; replace HL := HL.up h'; clear h'
  have kl := HL.le
  refine br_ne (fun e => no h fun s => e s.ok) (fun e0 => ?_)
  obtain ⟨v1, v2, v3, v4⟩ := sysE_ok e0
  refine rd_box0 (by kernel_rfl) X rfl rfl ?_
  refine br_ne (fun e => no h fun s => ?_) (fun e1 => ?_)
  · have := s.len; dsimp only at e; omega
  dsimp only at e1
  refine loop_up x.2.1 (fun i w' => bel w5 w' ∧ ∀ j, j < i → ∀ p u, L[j]? = some p → up[j]? = some u → IsFrac p.1 p.2 ∧ ¬ p.1 < 0 ∧ ¬ ((u : Rat) < ratv p.1 p.2)) ⟨bel.refl _, fun j h => by omega⟩ fun i w9 hi ⟨hw, hq⟩ again hag _ => ?_
  refine br_dec (fun e => ?_) (fun e => ?_)
  · dsimp only at e
    obtain ⟨p, hp⟩ : ∃ p, L[i]? = some p := ⟨_, List.getElem?_eq_getElem (by omega)⟩
    obtain ⟨uu, huu⟩ : ∃ uu, up[i]? = some uu := ⟨_, List.getElem?_eq_getElem (by omega)⟩
    have hpi := hI p (mem_at hp)
    have hui := v3.1 uu (mem_at huu)
    refine at_frac (HL.up hw) rfl hp ?_
    refine boxF fun x12 w14 h' Z _ => ?_
    replace hw := hw.trans h'
    refine drw_mk fun w15 h' _ => ?_
    replace hw := hw.trans h'; replace Z := Z.up h'
    refine flEx_mk (fun i _ v w' => (i = 1 → v = .bool (decide (IsFrac p.1 p.2))) ∧ (i = 10 → ∃ t : TE, v = exV t ∧ EX 2 w' t (ratv p.1 p.2))) (fun _ _ _ _ _ h hb => ⟨h.1, fun e => by obtain ⟨t, q1, q2⟩ := h.2 e; exact ⟨t, q1, q2.up hb⟩⟩) ?_
    refine rd_boxN Z (by kernel_rfl) rfl ?_
    refine flc_mk (fun w14 hb _ => call_mono (callB (validF p.1 p.2 w14 hpi.1.1 hpi.1.2 hpi.2.1 hpi.2.2)) fun y w' ⟨hy, hb'⟩ => ⟨hb', fun _ => by rw [hy], fun e => by omega⟩) (fun x22 => ?_)
    refine br_not (fun ev => flend_mk fun w19 hb hf => no (h.trans (hw.trans hb)) fun s => ?_) (fun ev => ?_)
    · have f1 : x22 = decide (IsFrac p.1 p.2) := by have := hf.1.1 rfl; injection this
      rw [ev, decide_eq_true (s.each i p uu hp huu).1] at f1
      cases f1
    refine rd_box0 (by kernel_rfl) Z rfl rfl ?_
    refine br_dec (fun en => flend_mk fun w23 hb hf => no (h.trans (hw.trans hb)) fun s => (s.each i p uu hp huu).2.1 en) (fun en => ?_)
    refine rd_boxN Z (by kernel_rfl) rfl ?_
    refine flc_mk (fun w29 hb hf => ?_) (fun (x33 : TE) => ?_)
    · have f1 : x22 = decide (IsFrac p.1 p.2) := by have := hf.1.1 rfl; injection this
      have hF : IsFrac p.1 p.2 := by rw [ev] at f1; exact of_decide_eq_true f1.symm
      exact call_mono (fromX w29 hF) fun y w' ⟨hy, hb'⟩ => ⟨hb', fun e => by omega, fun _ => ⟨y, rfl, hy⟩⟩
    refine rd_box0 (by kernel_rfl) (X.up hw) rfl rfl ?_
    refine at_int tyI64 (by kernel_rfl) (H.up hw).u rfl (by omega) fun y hy => ?_
    rw [huu] at hy; cases hy
    refine flend_mk fun w37 hb hf => ?_
    have f1 : x22 = decide (IsFrac p.1 p.2) := by have := hf.2.1.1 rfl; injection this
    obtain ⟨t, ht, hB⟩ := hf.1.2 rfl
    have ht' := exV_inj (t := x33) ht
    subst ht'
    have hF : IsFrac p.1 p.2 := by rw [ev] at f1; exact of_decide_eq_true f1.symm
    refine call_mono (wholeF uu w37 (i64_of (by omega))) ?_
    rintro (y : TE) w40 ⟨hy, _, _, h2'⟩
    refine call_mono (cmpX x33 y _ _ 2 2 w40 (hB.up h2') hy (by omega) (by omega)) ?_
    rintro _ w42 ⟨rfl, h3'⟩
    have hw' := ((hw.trans hb).trans h2').trans h3'
    refine br_dec (fun el => no (h.trans hw') fun s => (s.each i p uu hp huu).2.2 (cmpq_gt0.1 el)) (fun el => ?_)
    refine z_i64 (by dsimp only; omega) ?_
    refine hag _ (by omega) ⟨hw', fun j hj p' u' q1 q2 => ?_⟩
    rcases Nat.lt_or_ge j i with q | q
    · exact hq j q p' u' q1 q2
    · have : j = i := by omega
      subst this
      rw [hp] at q1; cases q1
      rw [huu] at q2; cases q2
      exact ⟨hF, en, fun q => el (cmpq_gt0.2 q)⟩
  dsimp only at e
  have Q1 : ∀ (k : Nat) p u, L[k]? = some p → up[k]? = some u → IsFrac p.1 p.2 ∧ ¬ p.1 < 0 ∧ ¬ ((u : Rat) < ratv p.1 p.2) := fun k p u q1 q2 => hq k (by have := (List.getElem?_eq_some_iff.1 q1).1; omega) p u q1 q2
  clear hq hag again
  replace h := h.trans hw; replace X := X.up hw; replace H := H.up hw; replace HL := HL.up hw; clear hw hi e
  refine rd_box (by kernel_rfl) X (i := 1) rfl rfl ?_
  refine loop_up r.2.1 (fun i w' => bel w9 w' ∧ ∀ j, j < i → ∀ q c, T[j]? = some q → rt[j]? = some c → dotN q L up.length = (c : Rat)) ⟨bel.refl _, fun j h => by omega⟩ fun i w47 hi ⟨hw, hq⟩ again hag _ => ?_
  refine br_dec (fun e => ?_) (fun e => ?_)
  · dsimp only at e
    obtain ⟨row, hrow⟩ : ∃ row, T[i]? = some row := ⟨_, List.getElem?_eq_getElem (by omega)⟩
    obtain ⟨cc, hcc⟩ : ∃ cc, rt[i]? = some cc := ⟨_, List.getElem?_eq_getElem (by have := v4.1; omega)⟩
    have hrl := v4.2 row (mem_at hrow)
    have hci := v3.2.1 cc (mem_at hcc)
    refine (H.up hw).r.at tyTab (by kernel_rfl) rfl (by omega) fun y row' h1 HR => ?_
    rw [hrow] at h1; cases h1
    have hry : row.length = y.2.1 := Sl.int HR
    refine call_mono (wholeF 0 w47 ⟨by omega, by omega⟩) ?_
    rintro (t0 : TE) w51 ⟨hB0, _, _, h'⟩
    refine var_mk (z := .agg #[.bool false, .slice none 0 0, .slice none 0 0]) (by kernel_rfl) (by kernel_rfl) rfl rfl fun x52 w54 Y h2' hy => ?_
    replace Y : Box w54 x52 (boxc t0) := Y
    have A0 : ApT x52 t0 (0 : Rat) := ApT.oldE hB0 (by omega)
    have hn52 : w47.heap.size ≤ x52.block := by have := h'.size; omega
    refine loop_up y.2.1 (fun k w' => bel w47 w' ∧ ∃ t, Box w' x52 (boxc t) ∧ EX (2 + 5 * k) w' t (dotN row L k) ∧ ApT x52 t (dotN row L k)) ⟨h'.trans h2', t0, Y, hB0.up h2', A0⟩ fun k w57 hk ⟨hw2, t, Y, hB, hA⟩ again' hag' _ => ?_
    refine br_dec (fun e2 => ?_) (fun e2 => ?_)
    · dsimp only at e2
      obtain ⟨p, hp⟩ : ∃ p, L[k]? = some p := ⟨_, List.getElem?_eq_getElem (by omega)⟩
      obtain ⟨c, hc⟩ : ∃ c, row[k]? = some c := ⟨_, List.getElem?_eq_getElem (by omega)⟩
      obtain ⟨uu, huu⟩ : ∃ uu, up[k]? = some uu := ⟨_, List.getElem?_eq_getElem (by omega)⟩
      have hF := (Q1 k p uu hp huu).1
      have hc2 := v3.2.2 row (mem_at hrow) c (mem_at hc)
      refine join_mk (fun _ w' => bel w47 w' ∧ ∃ t, Box w' x52 (boxc t) ∧ EX (2 + 5 * (k + 1)) w' t (dotN row L (k + 1)) ∧ ApT x52 t (dotN row L (k + 1))) (fun K hK => ?_) (fun _ w' hh _ => z_i64 (by dsimp only; omega) (hag' _ (by omega) hh))
      have same : dotT row L k = 0 → K () w57 := fun q => by
        have e : dotN row L (k + 1) = dotN row L k := by
          show dotN row L k + dotT row L k = _
          rw [q, Rat.add_zero]
        exact hK _ _ ⟨hw2, t, Y, by rw [e]; exact hB.le (by omega), by rw [e]; exact hA⟩
      refine at_int tyI64 (by kernel_rfl) (HR.kept hw2) rfl (by omega) fun c' hc' => ?_
      rw [hc] at hc'; cases hc'
      refine br_ne (fun n2 => ?_) (fun n2 => same (dotT_c0 hc hp n2))
      refine at_fst (HL.up (hw.trans hw2)) rfl hp ?_
      refine br_ne (fun n1 => ?_) (fun n1 => same (dotT_p0 hc hp n1))
      refine drw_mk fun w66 h3' _ => ?_
      have hw3 := hw2.trans h3'
      replace Y := Y.up h3'; replace hB := hB.up h3'
      refine flEx_mk (fun i _ v w' => (i = 5 → ∃ t : TE, v = exV t ∧ EX 2 w' t (ratv p.1 p.2)) ∧ (i = 7 → ∃ t : TE, v = exV t ∧ EX 2 w' t (c : Rat)) ∧ (i = 8 → ∃ t : TE, v = exV t ∧ EX 4 w' t (ratv p.1 p.2 * (c : Rat))))
        (fun _ _ _ _ _ h hb => ⟨fun e => by obtain ⟨t, q1, q2⟩ := h.1 e; exact ⟨t, q1, q2.up hb⟩, fun e => by obtain ⟨t, q1, q2⟩ := h.2.1 e; exact ⟨t, q1, q2.up hb⟩, fun e => by obtain ⟨t, q1, q2⟩ := h.2.2 e; exact ⟨t, q1, q2.up hb⟩⟩) ?_
      refine rd_boxN Y (by kernel_rfl) rfl ?_
      refine at_frac (HL.up (hw.trans hw3)) rfl hp ?_
      refine flc_mk (fun w70 hb _ => call_mono (fromX w70 hF) fun y w' ⟨hy, hb'⟩ => ⟨hb', fun _ => ⟨y, rfl, hy⟩, fun e => by omega, fun e => by omega⟩) (fun (x75 : TE) => ?_)
      refine flc_mk (fun w80 hb _ => call_mono (wholeF c w80 ⟨by omega, by omega⟩) fun y w' ⟨hy, _, _, hb'⟩ => ⟨hb', fun e => by omega, fun _ => ⟨y, rfl, hy⟩, fun e => by omega⟩) (fun (x80 : TE) => ?_)
      refine flc_mk (fun w85 hb hf => ?_) (fun (x85 : TE) => ?_)
      · obtain ⟨⟨_, g2, _⟩, ⟨g1, _⟩, _⟩ := hf
        obtain ⟨t1, e1, B1⟩ := g1 rfl
        obtain ⟨t2, e2, B2⟩ := g2 rfl
        have e1' := exV_inj (t := x75) e1
        have e2' := exV_inj (t := x80) e2
        subst e1' e2'
        exact call_mono (mulE x75 x80 _ _ 2 2 w85 B1 B2 (by omega) (by omega)) fun y w' ⟨hy, _, _, hb'⟩ => ⟨hb', fun e => by omega, fun e => by omega, fun _ => ⟨y, rfl, hy⟩⟩
      · refine flend_mk fun w90 hb hf => ?_
        obtain ⟨⟨_, _, g⟩, _⟩ := hf
        obtain ⟨t1, e1, B1⟩ := g rfl
        have e1' := exV_inj (t := x85) e1
        subst e1'
        refine call_mono (addE t x85 _ _ (2 + 5 * k) 4 w90 (hB.up hb) B1 (by omega) (by omega)) ?_
        rintro (y : TE) w93 ⟨hy, f1, f2, h4'⟩
        have A' : ApT x52 y (dotN row L (k + 1)) := ApT.fr (Y.up hb) f1 f2
        have e : dotN row L (k + 1) = dotN row L k + ratv p.1 p.2 * (c : Rat) := by
          show dotN row L k + dotT row L k = _
          rw [dotT_at hc hp]
        rw [← e] at hy
        refine wu_box ((Y.up hb).up h4') (by kernel_rfl) (Nat.le_refl 3) rfl fun w94 Y' hg _ => ?_
        exact hK _ _ ⟨((hw3.trans hb).trans h4').grownAt hg hn52, y, Y', (hy.grownA A' hg).le (by omega), A'⟩
    · dsimp only at e2
      have hk' : k = up.length := by omega
      subst hk'
      refine drw_mk fun w91 h3' _ => ?_
      have hw3 := hw2.trans h3'
      replace Y := Y.up h3'; replace hB := hB.up h3'
      refine flEx_mk (fun _ _ v w' => ∃ t : TE, v = exV t ∧ EX 2 w' t (cc : Rat)) (fun _ _ _ _ _ ⟨t, q1, q2⟩ hb => ⟨t, q1, q2.up hb⟩) ?_
      refine rd_boxN Y (by kernel_rfl) rfl ?_
      refine rd_box (by kernel_rfl) (X.up (hw.trans hw3)) (i := 2) rfl rfl ?_
      refine at_int tyI64 (by kernel_rfl) (H.up (hw.trans hw3)).b rfl (by have := v4.1; omega) fun c' hc' => ?_
      rw [hcc] at hc'; cases hc'
      refine flc_mk (fun w102 hb _ => call_mono (wholeF cc w102 ⟨by omega, by omega⟩) fun y w' ⟨hy, _, _, hb'⟩ => ⟨hb', y, rfl, hy⟩) (fun (x101 : TE) => ?_)
      refine flend_mk fun w102 hb hf => ?_
      obtain ⟨⟨t1, e1, B1⟩, _⟩ := hf
      have e1' := exV_inj (t := x101) e1
      subst e1'
      refine call_mono (cmpX t x101 _ _ (2 + 5 * up.length) 2 w102 (hB.up hb) B1 (by omega) (by omega)) ?_
      rintro _ w105 ⟨rfl, h5'⟩
      have hw' := (hw3.trans hb).trans h5'
      refine br_ne (fun el => no (h.trans (hw.trans hw')) fun s => el (cmpq_eq0.2 (s.rows i row cc hrow hcc))) (fun el => ?_)
      refine z_i64 (by dsimp only; omega) ?_
      refine hag _ (by omega) ⟨hw.trans hw', fun j hj q c q1 q2 => ?_⟩
      rcases Nat.lt_or_ge j i with hlt | hge
      · exact hq j hlt q c q1 q2
      · have : j = i := by omega
        subst this
        rw [hrow] at q1; cases q1
        rw [hcc] at q2; cases q2
        exact cmpq_eq0.1 el
  · dsimp only at e
    exact ⟨true, rfl, ⟨fun _ => ⟨e0, by omega, Q1, fun i q c q1 q2 => hq i (by have := (List.getElem?_eq_some_iff.1 q1).1; omega) q c q1 q2⟩, fun _ => rfl⟩, h.trans hw⟩
end Go.Proofs.Ytajpdnphamomjaa

/- The laws LinearChecks and IntegralChecks: the walks. -/

namespace Go.Proofs.Ytajpdnphamomjaa
open Go.RowKit Go.Q Go.Q.Num Go.V

theorem fewS (u r b : Hdr) (up : List Int) (T : List (List Int)) (rt : List Int) (w : World) (H : Sys w u r b up T rt) :
    call Try.prog 29 [sysv u r b] (.one (.one .bool)) w (fun x w' => (x = true → up.length ≤ 12 ∧ T.length ≤ 8 ∧ rt.length ≤ 12) ∧ bel w w') := by
  refine call_of (S29_calls u.1 u.2.1 u.2.2 r.1 r.2.1 r.2.2 b.1 b.2.1 b.2.2 w _ ?_)
  unfold S29
  have hu := H.u.int
  have hT := H.r.len
  have hb := H.b.int
  have no : ∀ {w' : World}, bel w w' → ∃ v : Bool, Value.bool false = (RS.one (.one .bool)).val v ∧ (v = true → up.length ≤ 12 ∧ T.length ≤ 8 ∧ rt.length ≤ 12) ∧ bel w w' := fun hb => ⟨false, rfl, fun e => (Bool.noConfusion e), hb⟩
  refine wr_box fun x1 w2 X h _ _ => ?_
  replace X : Box w2 x1 (sysc u r b) := X
  replace H := H.up h
  have kT : r.2.1 ≤ 9223372036854775807 := by obtain ⟨hs, q, _⟩ := H.r.ex; exact q.le
  refine rd_box0 (by kernel_rfl) X rfl rfl ?_
  refine br_dec (fun _ => no h) (fun e1 => ?_)
  refine rd_box (by kernel_rfl) X (i := 1) rfl rfl ?_
  refine br_dec (fun _ => no h) (fun e2 => ?_)
  refine rd_box (by kernel_rfl) X (i := 2) rfl rfl ?_
  refine br_dec (fun _ => no h) (fun e3 => ?_)
  dsimp only at e1 e2 e3
  refine loop_up r.2.1 (fun _ w' => bel w2 w') (bel.refl _) fun i w8 hi hw again hag _ => ?_
  refine rd_box (by kernel_rfl) (X.up hw) (i := 1) rfl rfl ?_
  refine br_dec (fun e => ?_) (fun e => ?_)
  · dsimp only at e
    refine rd_box (by kernel_rfl) (X.up hw) (i := 1) rfl rfl ?_
    refine (H.up hw).r.at tyTab (by kernel_rfl) rfl (by omega) fun y row _ _ => ?_
    refine br_dec (fun _ => no (h.trans hw)) (fun _ => ?_)
    refine z_i64 (by dsimp only; omega) ?_
    exact hag _ (by omega) hw
  · exact ⟨true, rfl, fun _ => ⟨by omega, by omega, by omega⟩, h.trans hw⟩

theorem sys_nil (w : World) : Sys w (none, 0, 0) (none, 0, 0) (none, 0, 0) [] [] [] := ⟨Sl.nil _ _, ⟨[], Sl.nil _ _, rfl, fun i x r h => by simp at h⟩, Sl.nil _ _⟩
theorem sol_nil : SolP [] [] [] [] := by
  refine ⟨sysE_0 (by simp) (by simp) ⟨by simp, by simp, by simp⟩ ⟨rfl, by simp⟩, rfl, fun k p u h => by simp at h, fun i r b h => by simp at h⟩
theorem iff_eq {a b : Bool} {P : Prop} (h1 : a = true ↔ P) (h2 : b = true ↔ P) : a = b := by rw [Bool.eq_iff_iff, h1, h2]

theorem linChecks (u r b x : Hdr) (up : List Int) (T : List (List Int)) (rt : List Int) (L : List (Int × Int)) (w : World) (H : Sys w u r b up T rt) (HL : Sl w x.1 x.2.1 x.2.2 2 (L.flatMap encF)) (hI : ∀ p ∈ L, I64 p.1 ∧ I64 p.2) :
    Calls Try.prog 7 #[sysv u r b, .slice x.1 x.2.1 x.2.2] w (fun e w' => e = .returned (.bool true) ∧ Below w.heap.size w w') := by
  refine Calls.mono (S7_calls u.1 u.2.1 u.2.2 r.1 r.2.1 r.2.2 b.1 b.2.1 b.2.2 x.1 x.2.1 x.2.2 w (fun v w' => v = .bool true ∧ bel w w') ?_) (by rintro e w' ⟨v, rfl, rfl, hb⟩; exact ⟨rfl, hb⟩)
  unfold S7
  refine wr_box fun x1 w2 X h _ _ => ?_
  replace X : Box w2 x1 (sysc u r b) := X
  replace H := H.up h; replace HL := HL.up h
  refine rd_boxN X (by kernel_rfl) rfl ?_
  refine call_mono (fewS u r b up T rt w2 H) ?_
  rintro x4 w5 ⟨_, h'⟩
  replace h := h.trans h'; replace X := X.up h'; replace H := H.up h'; replace HL := HL.up h'; clear h'
  refine br_not (fun _ => ⟨rfl, h⟩) (fun _ => ?_)
  refine br_dec (fun _ => ⟨rfl, h⟩) (fun _ => ?_)
  refine drw_mk fun w6 h' _ => ?_
  replace h := h.trans h'; replace X := X.up h'; replace H := H.up h'; replace HL := HL.up h'; clear h'
  refine flEx_mk (fun i _ v _ => (i = 1 ∨ i = 3 → v = .int .i64 (sysE up T rt)) ∧ (i = 8 → ∃ c, v = .bool c ∧ (c = true ↔ SolP up T rt L))) (fun _ _ _ _ _ h _ => h) ?_
  refine rd_boxN X (by kernel_rfl) rfl ?_
  refine flc_mk (fun w9 hb _ => call_mono (validL u r b up T rt w9 (H.up hb)) fun y w' ⟨hy, hb'⟩ => ⟨hb', fun _ => by rw [hy], fun e => by omega⟩) (fun x13 => ?_)
  refine rd_boxN X (by kernel_rfl) rfl ?_
  refine flc_mk (fun w9 hb _ => call_mono (valid11 u r b up T rt w9 (H.up hb)) fun y w' ⟨hy, hb'⟩ => ⟨hb', fun _ => by rw [hy], fun e => by omega⟩) (fun x19 => ?_)
  refine br_eq (fun e => ?_) (fun e => flend_mk fun w33 hb hf => ?_)
  · refine rd_boxN X (by kernel_rfl) rfl ?_
    refine flc_mk (fun w9 hb _ => call_mono (solL u r b x up T rt L w9 (H.up hb) (HL.up hb) hI) fun y w' ⟨hy, hb'⟩ => ⟨hb', fun e => by omega, fun _ => ⟨y, rfl, hy⟩⟩) (fun x25 => ?_)
    refine rd_boxN X (by kernel_rfl) rfl ?_
    refine flend_mk fun w27 hb hf => ?_
    obtain ⟨⟨_, g⟩, _⟩ := hf
    obtain ⟨c, hc, hc2⟩ := g rfl
    injection hc with hc
    subst hc
    refine call_mono (sol11 u r b x up T rt L w27 (H.up hb) (HL.up hb) hI) ?_
    rintro x29 w30 ⟨hx, h'⟩
    refine br_mk (fun _ => ?_) (fun e => ?_)
    · refine call_mono (solL (none, 0, 0) (none, 0, 0) (none, 0, 0) (none, 0, 0) [] [] [] [] w30 (sys_nil _) (Sl.nil _ _) (by simp)) ?_
      rintro x31 w32 ⟨hy, h2'⟩
      exact ⟨by rw [hy.2 sol_nil], ((h.trans hb).trans h').trans h2'⟩
    · have q := iff_eq hc2 hx
      subst q
      cases x25 <;> cases e
  · obtain ⟨⟨g1, _⟩, ⟨g2, _⟩, _⟩ := hf
    have a := g1 (.inr rfl)
    have b := g2 (.inl rfl)
    injection a with _ a
    injection b with _ b
    exact absurd (b.trans a.symm) e

/-! ### whole numbers -/
def dotJ (r xs : List Int) (k : Nat) : Int :=
  match r[k]?, xs[k]? with
  | some c, some x => c * x
  | _, _ => 0
def dotI (r xs : List Int) : Nat → Int
  | 0 => 0
  | k + 1 => dotI r xs k + dotJ r xs k
abbrev one1s (xs : List Int) : List (Int × Int) := xs.map fun n => (n, 1)
theorem ratv_one (n : Int) : ratv n 1 = (n : Rat) := by unfold ratv; exact Rat.mkRat_one n
theorem dotN_int (r xs : List Int) : ∀ k, dotN r (one1s xs) k = ((dotI r xs k : Int) : Rat)
  | 0 => rfl
  | k + 1 => by
    show dotN r (one1s xs) k + dotT r (one1s xs) k = ((dotI r xs k + dotJ r xs k : Int) : Rat)
    rw [dotN_int r xs k]
    unfold dotT dotJ
    rw [List.getElem?_map]
    cases r[k]? with
    | none => simp [Rat.add_zero]
    | some c => cases xs[k]? with
      | none => simp [Rat.add_zero]
      | some x => simp only [Option.map_some]; rw [ratv_one, Rat.intCast_add, Rat.intCast_mul, Rat.mul_comm]
theorem dotI_step {r xs : List Int} {k : Nat} {c x : Int} (h1 : r[k]? = some c) (h2 : xs[k]? = some x) : dotI r xs (k + 1) = dotI r xs k + c * x := by
  show dotI r xs k + dotJ r xs k = _
  unfold dotJ
  rw [h1, h2]
theorem each_int {n u : Int} (hu : u ≤ 1000000000) : IsFrac n 1 ∧ ¬ n < 0 ∧ ¬ ((u : Rat) < ratv n 1) ↔ 0 ≤ n ∧ n ≤ u := by
  rw [ratv_one, Rat.intCast_lt_intCast]
  constructor
  · rintro ⟨_, h1, h2⟩; omega
  · rintro ⟨h1, h2⟩
    exact ⟨⟨by omega, by omega, by omega, by omega, Nat.gcd_one_right _⟩, by omega, by omega⟩

theorem chk12 (u r b x : Hdr) (up : List Int) (T : List (List Int)) (rt : List Int) (xs : List Int) (w : World) (H : Sys w u r b up T rt) (HL : Sl w x.1 x.2.1 x.2.2 1 (ints .i64 xs)) (hI : ∀ n ∈ xs, I64 n) (hs : xs.length ≤ 1000) :
    call Try.prog 45 [sysv u r b, .slice x.1 x.2.1 x.2.2] (.one (.one .bool)) w (fun v w' => (v = true ↔ SolP up T rt (one1s xs)) ∧ bel w w') := by
  refine call_of (S45_calls u.1 u.2.1 u.2.2 r.1 r.2.1 r.2.2 b.1 b.2.1 b.2.2 x.1 x.2.1 x.2.2 w _ ?_)
  unfold S45
  have hl := HL.int
  refine wr_box fun x1 w2 X h _ _ => ?_
  replace X : Box w2 x1 (sysc u r b) := X
  replace H := H.up h; replace HL := HL.up h
  refine loop_upA x.2.1 (fun i (a : Hdr) w' => bel w2 w' ∧ a.2.1 = i ∧ Own w' w2.heap.size 23 2 a.1 i a.2.2 ((one1s (xs.take i)).flatMap encF)) ⟨bel.refl _, rfl, Own.nil _ _ _ _⟩ fun i a w5 hi ⟨hw, ha, O⟩ again hag _ => ?_
  refine br_dec (fun e => ?_) (fun e => ?_)
  · dsimp only at e
    refine at_int tyI64 (by kernel_rfl) (HL.up hw) rfl (by omega) fun n hn => ?_
    dsimp only
    rw [ha]
    refine wr_app1 tyFracs O hw.size rfl (by omega) (by omega) rfl rfl (by omega) (by unfold maxLen; omega) fun a' c' w11 O' hg _ _ => ?_
    refine z_i64 (by omega) ?_
    refine hag (a', i + 1, c') w11 (by omega) ⟨hw.own O hg (Nat.le_refl _), rfl, ?_⟩
    have e : (one1s (xs.take (i + 1))).flatMap encF = (one1s (xs.take i)).flatMap encF ++ encF (n, 1) := by
      rw [List.take_add_one, hn]
      simp [one1s, List.flatMap_append]
    rw [e]; exact O'
  · dsimp only at e
    have hi' : i = xs.length := by omega
    subst hi'
    rw [List.take_of_length_le (Nat.le_refl _)] at O
    refine rd_boxN (X.up hw) (by kernel_rfl) rfl ?_
    dsimp only
    rw [ha]
    refine call_mono (sol11 u r b (a.1, xs.length, a.2.2) up T rt (one1s xs) w5 (H.up hw) O.sl ?_) ?_
    · intro p hp
      obtain ⟨n, hn, rfl⟩ := List.mem_map.1 hp
      exact ⟨hI n hn, ⟨by omega, by omega⟩⟩
    rintro x14 w15 ⟨hx, h'⟩
    exact ⟨_, rfl, hx, (h.trans hw).trans h'⟩

set_option maxHeartbeats 800000 in
theorem chkI (u r b x : Hdr) (up : List Int) (T : List (List Int)) (rt : List Int) (xs : List Int) (w : World) (H : Sys w u r b up T rt) (HL : Sl w x.1 x.2.1 x.2.2 1 (ints .i64 xs)) :
    call Try.prog 44 [sysv u r b, .slice x.1 x.2.1 x.2.2] (.one (.one .bool)) w (fun v w' => (v = true ↔ SolP up T rt (one1s xs)) ∧ bel w w') := by
  refine call_of (S44_calls u.1 u.2.1 u.2.2 r.1 r.2.1 r.2.2 b.1 b.2.1 b.2.2 x.1 x.2.1 x.2.2 w _ ?_)
  unfold S44
  have hu := H.u.int
  have hT := H.r.len
  have hb := H.b.int
  have hl := HL.int
  have kl := HL.le
  have no : ∀ {w' : World}, bel w w' → (SolP up T rt (one1s xs) → False) → ∃ v : Bool, Value.bool false = (RS.one (.one .bool)).val v ∧ (v = true ↔ SolP up T rt (one1s xs)) ∧ bel w w' := fun hb q => ⟨false, rfl, ⟨fun e => (Bool.noConfusion e), fun s => (q s).elim⟩, hb⟩
  refine wr_box fun x1 w2 X h _ _ => ?_
  replace X : Box w2 x1 (sysc u r b) := X
  replace H := H.up h; replace HL := HL.up h
  refine rd_boxN X (by kernel_rfl) rfl ?_
  refine call_mono (validL u r b up T rt w2 H) ?_
  rintro x4 w5 ⟨rfl, h'⟩
  replace h := h.trans h'; replace X := X.up h'; replace H := H.up h'; replace HL := HL.up h'; clear h'
  refine br_ne (fun e => no h fun s => e s.ok) (fun e0 => ?_)
  obtain ⟨v1, v2, v3, v4⟩ := sysE_ok e0
  refine rd_box0 (by kernel_rfl) X rfl rfl ?_
  refine br_ne (fun e => no h fun s => ?_) (fun e1 => ?_)
  · have := s.len; simp at this; dsimp only at e; omega
  dsimp only at e1
  refine loop_up x.2.1 (fun i w' => bel w5 w' ∧ ∀ j, j < i → ∀ n u, xs[j]? = some n → up[j]? = some u → 0 ≤ n ∧ n ≤ u) ⟨bel.refl _, fun j h => by omega⟩ fun i w9 hi ⟨hw, hq⟩ again hag _ => ?_
  have sol1 : ∀ n uu, xs[i]? = some n → up[i]? = some uu → SolP up T rt (one1s xs) → 0 ≤ n ∧ n ≤ uu := fun n uu hn huu s =>
    (each_int (v3.1 uu (mem_at huu)).2).1 (s.each i (n, 1) uu (by rw [List.getElem?_map, hn]; rfl) huu)
  refine br_dec (fun e => ?_) (fun e => ?_)
  · dsimp only at e
    obtain ⟨uu, huu⟩ : ∃ uu, up[i]? = some uu := ⟨_, List.getElem?_eq_getElem (by omega)⟩
    refine at_int tyI64 (by kernel_rfl) (HL.up hw) rfl (by omega) fun n hn => ?_
    refine br_dec (fun en => no (h.trans hw) fun s => by have := sol1 n uu hn huu s; omega) (fun en => ?_)
    refine rd_box0 (by kernel_rfl) (X.up hw) rfl rfl ?_
    refine at_int tyI64 (by kernel_rfl) (H.up hw).u rfl (by omega) fun y hy => ?_
    rw [huu] at hy; cases hy
    refine br_dec (fun en => no (h.trans hw) fun s => by have := sol1 n uu hn huu s; omega) (fun en2 => ?_)
    refine z_i64 (by dsimp only; omega) ?_
    refine hag _ (by omega) ⟨hw, fun j hj n' u' q1 q2 => ?_⟩
    rcases Nat.lt_or_ge j i with q | q
    · exact hq j q n' u' q1 q2
    · have : j = i := by omega
      subst this
      rw [hn] at q1; cases q1
      rw [huu] at q2; cases q2
      omega
  dsimp only at e
  have Q1 : ∀ (k : Nat) n u, xs[k]? = some n → up[k]? = some u → 0 ≤ n ∧ n ≤ u := fun k n u q1 q2 => hq k (by have := (List.getElem?_eq_some_iff.1 q1).1; omega) n u q1 q2
  clear hq hag again sol1
  replace h := h.trans hw; replace X := X.up hw; replace H := H.up hw; replace HL := HL.up hw; clear hw hi e
  refine rd_box (by kernel_rfl) X (i := 1) rfl rfl ?_
  refine loop_up r.2.1 (fun i w' => bel w9 w' ∧ ∀ j, j < i → ∀ q c, T[j]? = some q → rt[j]? = some c → dotI q xs up.length = c) ⟨bel.refl _, fun j h => by omega⟩ fun i w19 hi ⟨hw, hq⟩ again hag _ => ?_
  refine br_dec (fun e => ?_) (fun e => ?_)
  · dsimp only at e
    obtain ⟨row, hrow⟩ : ∃ row, T[i]? = some row := ⟨_, List.getElem?_eq_getElem (by omega)⟩
    obtain ⟨cc, hcc⟩ : ∃ cc, rt[i]? = some cc := ⟨_, List.getElem?_eq_getElem (by have := v4.1; omega)⟩
    have hrl := v4.2 row (mem_at hrow)
    refine (H.up hw).r.at tyTab (by kernel_rfl) rfl (by omega) fun y row' h1 HR => ?_
    rw [hrow] at h1; cases h1
    have hry : row.length = y.2.1 := Sl.int HR
    refine loop_upA y.2.1 (fun k (a : Int) w' => bel w19 w' ∧ a = dotI row xs k ∧ (dotI row xs k).natAbs ≤ k * 1000000000000000) ⟨bel.refl _, rfl, by show (0 : Int).natAbs ≤ _; omega⟩ fun k a w24 hk ⟨hw2, ha, hab⟩ again' hag' _ => ?_
    refine br_dec (fun e2 => ?_) (fun e2 => ?_)
    · dsimp only at e2
      obtain ⟨uu, huu⟩ : ∃ uu, up[k]? = some uu := ⟨_, List.getElem?_eq_getElem (by omega)⟩
      refine at_int tyI64 (by kernel_rfl) (HR.kept hw2) rfl (by omega) fun c hc => ?_
      refine at_int tyI64 (by kernel_rfl) (HL.up (hw.trans hw2)) rfl (by omega) fun n hn => ?_
      have b1 := v3.2.2 row (mem_at hrow) c (mem_at hc)
      have b2 := Q1 k n uu hn huu
      have b3 := v3.1 uu (mem_at huu)
      have b4 : (c * n).natAbs ≤ 1000000000000000 := by
        rw [Int.natAbs_mul]
        exact Nat.mul_le_mul (show c.natAbs ≤ 1000000 by omega) (show n.natAbs ≤ 1000000000 by omega)
      have st := dotI_step hc hn
      have b5 : (dotI row xs (k + 1)).natAbs ≤ (k + 1) * 1000000000000000 := by rw [st]; omega
      subst ha
      refine z_i64 (by omega) ?_
      refine z_i64 (by dsimp only; omega) ?_
      refine z_i64 (by dsimp only; omega) ?_
      refine hag' _ _ (by omega) ⟨hw2, st.symm, b5⟩
    · dsimp only at e2
      have hk' : k = up.length := by omega
      subst hk'
      have hw' := hw.trans hw2
      refine rd_box (by kernel_rfl) (X.up hw') (i := 2) rfl rfl ?_
      refine at_int tyI64 (by kernel_rfl) (H.up hw').b rfl (by have := v4.1; omega) fun c' hc' => ?_
      rw [hcc] at hc'; cases hc'
      have key : SolP up T rt (one1s xs) → dotI row xs up.length = cc := fun s => by
        have := s.rows i row cc hrow hcc
        rw [dotN_int] at this
        exact Rat.intCast_inj.1 this
      refine br_ne (fun el => no (h.trans hw') fun s => el (by dsimp only; rw [ha, key s])) (fun el => ?_)
      refine z_i64 (by dsimp only; omega) ?_
      refine hag _ (by omega) ⟨hw', fun j hj q c q1 q2 => ?_⟩
      rcases Nat.lt_or_ge j i with hlt | hge
      · exact hq j hlt q c q1 q2
      · have : j = i := by omega
        subst this
        rw [hrow] at q1; cases q1
        rw [hcc] at q2; cases q2
        rw [← ha]; exact el
  · dsimp only at e
    refine ⟨true, rfl, ⟨fun _ => ⟨e0, by simp; omega, fun k p u q1 q2 => ?_, fun i q c q1 q2 => ?_⟩, fun _ => rfl⟩, h.trans hw⟩
    · rw [List.getElem?_map] at q1
      cases hn : xs[k]? with
      | none => rw [hn] at q1; cases q1
      | some n =>
        rw [hn] at q1; cases q1
        exact (each_int (v3.1 u (mem_at q2)).2).2 (Q1 k n u hn q2)
    · rw [dotN_int, hq i (by have := (List.getElem?_eq_some_iff.1 q1).1; omega) q c q1 q2]
end Go.Proofs.Ytajpdnphamomjaa

/- The walk of IntegralChecks; arguments. -/

namespace Go.Proofs.Ytajpdnphamomjaa
open Go.RowKit Go.Q Go.Q.Num Go.V

/-- literals -/
theorem litI {n : Int} {w : World} {k : Hdr → World → Prop} (hk : ∀ (x : Hdr) w', bel w w' → Sl w' x.1 x.2.1 x.2.2 1 (ints .i64 [n]) → k x w') : wr Try.prog (Instr.buildSlice 40 1 #[(0, .int .i64 n)]) (.one .slice) w k :=
  wr_lit tyI64 #[.int .i64 n] (fill_one 1 (.int .i64 n) _ rfl (by simp)) (by omega) (by omega) rfl (by unfold maxLen; omega) fun ad w' O hb _ _ => hk (some ad, 1, 1) w' hb (O w.heap.size (Nat.le_refl _)).sl
theorem litT {h : Hdr} {row : List Int} {w : World} {k : Hdr → World → Prop} (H : Sl w h.1 h.2.1 h.2.2 1 (ints .i64 row)) (hk : ∀ (x : Hdr) w', bel w w' → TabI .i64 w' x [row] → k x w') : wr Try.prog (Instr.buildSlice 41 1 #[(0, .slice h.1 h.2.1 h.2.2)]) (.one .slice) w k :=
  wr_lit tyTab #[.slice h.1 h.2.1 h.2.2] (fill_one 1 (.slice h.1 h.2.1 h.2.2) _ rfl (by simp)) (by omega) (by omega) rfl (by unfold maxLen; omega) fun ad w' O hb _ _ => hk (some ad, 1, 1) w' hb
    ⟨[h], (O w.heap.size (Nat.le_refl _)).sl, rfl, fun i x r h1 h2 => by
      cases i with
      | zero => cases h1; cases h2; exact H.kept hb
      | succ i => simp at h1⟩
theorem sl_inj {x : Option Addr × Nat × Nat} {h : Hdr} (e : Value.slice x.1 x.2.1 x.2.2 = hv h) : x = h := by
  obtain ⟨a, b, c⟩ := x
  obtain ⟨a', b', c'⟩ := h
  simp only [hv, Value.slice.injEq] at e
  obtain ⟨rfl, rfl, rfl⟩ := e
  rfl
theorem sol_ex : SolP [3] [[2]] [4] (one1s [2]) := by
  refine ⟨sysE_0 (by simp) (by simp) ⟨by simp, by simp, by simp⟩ ⟨rfl, by simp⟩, rfl, fun k p u h1 h2 => ?_, fun i r b h1 h2 => ?_⟩
  · cases k with
    | zero => cases h1; cases h2; exact (each_int (by omega)).2 ⟨by decide, by decide⟩
    | succ k => simp at h2
  · cases i with
    | zero => cases h1; cases h2; rw [dotN_int]; rfl
    | succ i => simp at h2

theorem intChecks (u r b x : Hdr) (up : List Int) (T : List (List Int)) (rt : List Int) (xs : List Int) (w : World) (H : Sys w u r b up T rt) (HL : Sl w x.1 x.2.1 x.2.2 1 (ints .i64 xs)) (hI : ∀ n ∈ xs, I64 n) :
    Calls Try.prog 13 #[sysv u r b, .slice x.1 x.2.1 x.2.2] w (fun e w' => e = .returned (.bool true) ∧ Below w.heap.size w w') := by
  refine Calls.mono (S13_calls u.1 u.2.1 u.2.2 r.1 r.2.1 r.2.2 b.1 b.2.1 b.2.2 x.1 x.2.1 x.2.2 w (fun v w' => v = .bool true ∧ bel w w') ?_) (by rintro e w' ⟨v, rfl, rfl, hb⟩; exact ⟨rfl, hb⟩)
  unfold S13
  have hl := HL.int
  refine wr_box fun x1 w2 X h _ _ => ?_
  replace X : Box w2 x1 (sysc u r b) := X
  replace H := H.up h; replace HL := HL.up h
  refine rd_boxN X (by kernel_rfl) rfl ?_
  refine call_mono (fewS u r b up T rt w2 H) ?_
  rintro x4 w5 ⟨_, h'⟩
  replace h := h.trans h'; replace X := X.up h'; replace H := H.up h'; replace HL := HL.up h'; clear h'
  refine br_not (fun _ => ⟨rfl, h⟩) (fun _ => ?_)
  refine br_dec (fun _ => ⟨rfl, h⟩) (fun e1 => ?_)
  refine drw_mk fun w6 h' _ => ?_
  replace h := h.trans h'; replace X := X.up h'; replace H := H.up h'; replace HL := HL.up h'; clear h'
  refine flEx_mk (fun i _ v w' => (i = 2 ∨ i = 5 → ∃ c, v = .bool c ∧ (c = true ↔ SolP up T rt (one1s xs))) ∧ (i = 8 → ∃ h : Hdr, v = hv h ∧ Sl w' h.1 h.2.1 h.2.2 1 (ints .i64 [3])) ∧ (i = 9 ∨ i = 13 → ∃ h : Hdr, v = hv h ∧ Sl w' h.1 h.2.1 h.2.2 1 (ints .i64 [2])) ∧ (i = 11 → ∃ h : Hdr, v = hv h ∧ Sl w' h.1 h.2.1 h.2.2 1 (ints .i64 [4])) ∧ (i = 10 → ∃ h : Hdr, v = hv h ∧ TabI .i64 w' h [[2]]))
    (fun _ _ _ _ _ h hb => ⟨h.1, fun e => by obtain ⟨t, q1, q2⟩ := h.2.1 e; exact ⟨t, q1, q2.kept hb⟩, fun e => by obtain ⟨t, q1, q2⟩ := h.2.2.1 e; exact ⟨t, q1, q2.kept hb⟩, fun e => by obtain ⟨t, q1, q2⟩ := h.2.2.2.1 e; exact ⟨t, q1, q2.kept hb⟩, fun e => by obtain ⟨t, q1, q2⟩ := h.2.2.2.2 e; exact ⟨t, q1, q2.up hb⟩⟩) ?_
  refine rd_boxN X (by kernel_rfl) rfl ?_
  refine flc_mk (fun w9 hb _ => call_mono (chkI u r b x up T rt xs w9 (H.up hb) (HL.up hb)) fun y w' ⟨hy, hb'⟩ => ⟨hb', fun _ => ⟨y, rfl, hy⟩, fun e => by omega, fun e => by omega, fun e => by omega, fun e => by omega⟩) (fun x13 => ?_)
  refine rd_boxN X (by kernel_rfl) rfl ?_
  refine flc_mk (fun w9 hb _ => call_mono (chk12 u r b x up T rt xs w9 (H.up hb) (HL.up hb) hI (by omega)) fun y w' ⟨hy, hb'⟩ => ⟨hb', fun _ => ⟨y, rfl, hy⟩, fun e => by omega, fun e => by omega, fun e => by omega, fun e => by omega⟩) (fun x19 => ?_)
  have same : ∀ {w' : World} {ags ags' : List Value}, (∃ c, Value.bool x19 = .bool c ∧ (c = true ↔ SolP up T rt (one1s xs))) → (∃ c, Value.bool x13 = .bool c ∧ (c = true ↔ SolP up T rt (one1s xs))) → x13 = x19 := by
    rintro _ _ _ ⟨c, hc, hc2⟩ ⟨d, hd, hd2⟩
    injection hc with hc; injection hd with hd
    subst hc hd
    exact iff_eq hd2 hc2
  refine br_mk (fun e => ?_) (fun e => flend_mk fun w49 hb hf => ?_)
  · refine flc_mk (fun w20 hb _ => litI fun y w' hb' hS => ⟨hb', fun e => by omega, fun _ => ⟨y, rfl, hS⟩, fun e => by omega, fun e => by omega, fun e => by omega⟩) (fun (x24 : Hdr) => ?_)
    refine flc_mk (fun w25 hb _ => litI fun y w' hb' hS => ⟨hb', fun e => by omega, fun e => by omega, fun _ => ⟨y, rfl, hS⟩, fun e => by omega, fun e => by omega⟩) (fun (x29 : Hdr) => ?_)
    refine flc_mk (fun w30 hb hf => ?_) (fun (x34 : Hdr) => ?_)
    · obtain ⟨y, hy, hS⟩ := hf.1.2.2.1 (.inl rfl)
      have := sl_inj hy
      subst this
      exact litT hS fun y w' hb' hT => ⟨hb', fun e => by omega, fun e => by omega, fun e => by omega, fun e => by omega, fun _ => ⟨y, rfl, hT⟩⟩
    refine flc_mk (fun w35 hb _ => litI fun y w' hb' hS => ⟨hb', fun e => by omega, fun e => by omega, fun e => by omega, fun _ => ⟨y, rfl, hS⟩, fun e => by omega⟩) (fun (x39 : Hdr) => ?_)
    refine flc_mk (fun w40 hb _ => litI fun y w' hb' hS => ⟨hb', fun e => by omega, fun e => by omega, fun _ => ⟨y, rfl, hS⟩, fun e => by omega, fun e => by omega⟩) (fun (x44 : Hdr) => ?_)
    refine flend_mk fun w45 hb hf => ?_
    obtain ⟨f13, f11, f10, f9, f8, _⟩ := hf
    obtain ⟨a1, e1, s1⟩ := f13.2.2.1 (.inr rfl)
    obtain ⟨a2, e2, s2⟩ := f11.2.2.2.1 rfl
    obtain ⟨a3, e3, s3⟩ := f10.2.2.2.2 rfl
    obtain ⟨a4, e4, s4⟩ := f8.2.1 rfl
    have q1 := sl_inj e1
    have q2 := sl_inj e2
    have q3 := sl_inj e3
    have q4 := sl_inj e4
    subst q1 q2 q3 q4
    refine call_mono (chkI x24 x34 x39 x44 [3] [[2]] [4] [2] w45 ⟨s4, s3, s2⟩ s1) ?_
    rintro x47 w48 ⟨hx, h'⟩
    exact ⟨by rw [hx.2 sol_ex], (h.trans hb).trans h'⟩
  · have := same (w' := w49) (ags := []) (ags' := []) (hf.1.1 (.inr rfl)) (hf.2.1.1 (.inl rfl))
    subst this
    cases x13 <;> cases e

/-! ### arguments -/
set_option maxRecDepth 100000 in
theorem argSys {w : World} {v : Value} (h : Go.Q.Arg Try.prog w 43 v) : ∃ u r b up T rt, v = sysv u r b ∧ Sys w u r b up T rt ∧ (∀ x ∈ up, I64 x) ∧ (∀ r ∈ T, ∀ x ∈ r, I64 x) ∧ (∀ x ∈ rt, I64 x) := by
  obtain ⟨cs, rfl, hsz, h⟩ := Go.V.Arg.struct Try.underlying43 h
  have hsz' : cs.size = 3 := by rw [hsz]; kernel_rfl
  obtain ⟨x, y, z, rfl⟩ : ∃ x y z, cs = #[x, y, z] := by
    rcases cs with ⟨l⟩
    rcases l with _ | ⟨x, _ | ⟨y, _ | ⟨z, _ | ⟨u, l⟩⟩⟩⟩ <;> simp at hsz'
    exact ⟨x, y, z, rfl⟩
  have e1 : Go.Q.Read Try.prog w 40 [x] := h _ (List.mem_cons_self ..)
  have e2 : Go.Q.Read Try.prog w 41 [y] := h _ (List.mem_cons_of_mem _ (List.mem_cons_self ..))
  have e3 : Go.Q.Read Try.prog w 40 [z] := h _ (List.mem_cons_of_mem _ (List.mem_cons_of_mem _ (List.mem_cons_self ..)))
  obtain ⟨a1, n1, c1, up, q1, _, s1, b1⟩ := Go.V.Read.ints Try.underlying40 Try.underlying2 (by kernel_rfl) e1
  obtain ⟨r, T, q2, s2, b2⟩ := Go.V.Read.tab (g := Value.int .i64) (R := fun n => (Lit.int .i64 n).wf = true) (fun _ h => Go.Q.Read.int Try.underlying2 h) Try.underlying41 (by kernel_rfl) Try.underlying40 (by kernel_rfl) e2
  obtain ⟨a3, n3, c3, rt, q3, _, s3, b3⟩ := Go.V.Read.ints Try.underlying40 Try.underlying2 (by kernel_rfl) e3
  cases q1; cases q2; cases q3
  exact ⟨(a1, n1, c1), r, (a3, n3, c3), up, T, rt, rfl, ⟨s1, s2, s3⟩, fun x hx => bounds_i64 (b1 x hx), fun r hr x hx => bounds_i64 (b2 r hr x hx), fun x hx => bounds_i64 (b3 x hx)⟩
set_option maxRecDepth 100000 in
theorem argInts {w : World} {v : Value} (h : Go.Q.Arg Try.prog w 40 v) : ∃ x xs, v = hv x ∧ Sl w x.1 x.2.1 x.2.2 1 (ints .i64 xs) ∧ ∀ n ∈ xs, I64 n := by
  obtain ⟨a, n, c, rfl, h⟩ := Go.V.Arg.slice Try.underlying40 h
  obtain ⟨a1, n1, c1, xs, q1, _, s1, b1⟩ := Go.V.Read.ints Try.underlying40 Try.underlying2 (by kernel_rfl) h
  cases q1
  exact ⟨(a, n, c), xs, rfl, s1, fun x hx => bounds_i64 (b1 x hx)⟩
set_option maxRecDepth 100000 in
theorem readFrac {w : World} {ch : List Value} (h : Go.Q.Read Try.prog w 23 ch) : ∃ p : Int × Int, ch = encF p ∧ I64 p.1 ∧ I64 p.2 := by
  obtain ⟨hl, h⟩ := Go.Q.Read.struct Try.underlying23 h
  have hsz' : ch.length = 2 := by rw [hl]; kernel_rfl
  obtain ⟨x, y, rfl⟩ : ∃ x y, ch = [x, y] := by
    rcases ch with _ | ⟨x, _ | ⟨y, _ | ⟨z, l⟩⟩⟩ <;> simp at hsz'
    exact ⟨x, y, rfl⟩
  have e1 : Go.Q.Read Try.prog w 2 [x] := h _ (List.mem_cons_self ..)
  have e2 : Go.Q.Read Try.prog w 2 [y] := h _ (List.mem_cons_of_mem _ (List.mem_cons_self ..))
  obtain ⟨n, hn, hw⟩ := Go.Q.Read.int Try.underlying2 e1
  obtain ⟨d, hd, hw'⟩ := Go.Q.Read.int Try.underlying2 e2
  cases hn; cases hd
  exact ⟨(n, d), rfl, bounds_i64 hw, bounds_i64 hw'⟩
set_option maxRecDepth 100000 in
theorem argFracs {w : World} {v : Value} (h : Go.Q.Arg Try.prog w 33 v) : ∃ x, ∃ L : List (Int × Int), v = hv x ∧ Sl w x.1 x.2.1 x.2.2 2 (L.flatMap encF) ∧ ∀ p ∈ L, I64 p.1 ∧ I64 p.2 := by
  obtain ⟨a, n, c, rfl, h⟩ := Go.V.Arg.slice Try.underlying33 h
  obtain ⟨a1, n1, c1, L, q1, _, s1, b1⟩ := Go.V.Read.elems (enc := encF) (R := fun p => I64 p.1 ∧ I64 p.2) encF_len (by omega) (fun _ h => readFrac h) Try.underlying33 (by kernel_rfl) h
  cases q1
  exact ⟨(a, n, c), L, rfl, s1, b1⟩
end Go.Proofs.Ytajpdnphamomjaa
