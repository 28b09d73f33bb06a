import Derived.Test.YtajpdnphamomjaaPackLinearRaw4

/- Combinations of rows: the reference. -/

namespace Go.Proofs.Ytajpdnphamomjaa
open Go.RowKit Go.Q Go.Q.Num Go.V

theorem tyBigs : TyS Try.prog 112 90 (.agg #[.bool false, .slice none 0 0, .slice none 0 0]) 3 56 := ⟨by kernel_rfl, by kernel_rfl⟩
theorem agBig : aggOf Try.prog 90 3 = true := by kernel_rfl
theorem boxc_len (t : TE) : (boxc t).length = 3 := rfl
/-- digits that lie in no block of a kind -/
abbrev OffQ (o : Option Nat) (t : TE) (r : Rat) : Prop := (∀ ad, t.2.1.1 = some ad → r.num.natAbs ≠ 0 → some ad.block ≠ o) ∧ (∀ ad, t.2.2.1.1 = some ad → r.den ≠ 0 → some ad.block ≠ o)
theorem BX.grownO {L : Nat} {w w' : World} {t : TE} {r : Rat} {o : Option Nat} (h : BX L w t r) (ha : OffQ o t r) (hg : w.grownBy w' o) : BX L w' t r :=
  ⟨h.1, NumAt.grown h.2.1 hg fun a q hv _ => ha.1 a q hv, NumAt.grown h.2.2.1 hg fun a q hv _ => ha.2 a q hv, h.2.2.2⟩
abbrev FrT (w : World) (t : TE) : Prop := Fr w t.2.1.1 ∧ Fr w t.2.2.1.1
theorem FrT.mono {w w' : World} {t : TE} (h : FrT w' t) (hb : w.heap.size ≤ w'.heap.size) : FrT w t := ⟨Fr.mono h.1 hb, Fr.mono h.2 hb⟩
theorem FrT.off {w : World} {t : TE} (h : FrT w t) {o : Option Nat} (ho : ∀ k, o = some k → k < w.heap.size) (r : Rat) : OffQ o t r :=
  ⟨fun ad ha _ e => by have := h.1 ad ha; have := ho _ e.symm; omega, fun ad ha _ e => by have := h.2 ad ha; have := ho _ e.symm; omega⟩
theorem BX.offNew {L : Nat} {w : World} {t : TE} {r : Rat} (h : BX L w t r) {o : Option Nat} (ho : ∀ k, o = some k → w.heap.size ≤ k) : OffQ o t r :=
  ⟨fun ad ha hv e => by have := NumAt.lt_heap h.2.1 hv ad ha; have := ho _ e.symm; omega, fun ad ha hv e => by have := NumAt.lt_heap h.2.2.1 hv ad ha; have := ho _ e.symm; omega⟩

def preE (up : List Int) (T : List (List Int)) (rt : List Int) (M : List (Int × Int)) : Int :=
  if sysE up T rt ≠ 0 then sysE up T rt else if M.length ≠ T.length then 9 else if ∀ p ∈ M, IsFrac p.1 p.2 then 0 else 1
section
variable {up : List Int} {T : List (List Int)} {rt : List Int} {M : List (Int × Int)}
theorem preE_1 (h : sysE up T rt ≠ 0) : preE up T rt M = sysE up T rt := by unfold preE; rw [if_pos h]
theorem preE_2 (h : sysE up T rt = 0) (h2 : M.length ≠ T.length) : preE up T rt M = 9 := by unfold preE; rw [if_neg (by omega), if_pos h2]
theorem preE_3 (h : sysE up T rt = 0) (h2 : M.length = T.length) (h3 : ¬ ∀ p ∈ M, IsFrac p.1 p.2) : preE up T rt M = 1 := by unfold preE; rw [if_neg (by omega), if_neg (by omega), if_neg h3]
theorem preE_0 (h : sysE up T rt = 0) (h2 : M.length = T.length) (h3 : ∀ p ∈ M, IsFrac p.1 p.2) : preE up T rt M = 0 := by unfold preE; rw [if_neg (by omega), if_neg (by omega), if_pos h3]
theorem preE_ok (h : preE up T rt M = 0) : sysE up T rt = 0 ∧ M.length = T.length ∧ (∀ p ∈ M, IsFrac p.1 p.2) := by
  by_cases h1 : sysE up T rt = 0
  · by_cases h2 : M.length = T.length
    · by_cases h3 : ∀ p ∈ M, IsFrac p.1 p.2
      · exact ⟨h1, h2, h3⟩
      · rw [preE_3 h1 h2 h3] at h; omega
    · rw [preE_2 h1 h2] at h; omega
  · rw [preE_1 h1] at h; exact absurd h h1
theorem combE_pre (h : preE up T rt M ≠ 0) : combE up T rt M = preE up T rt M := by
  by_cases h1 : sysE up T rt = 0
  · by_cases h2 : M.length = T.length
    · by_cases h3 : ∀ p ∈ M, IsFrac p.1 p.2
      · exact absurd (preE_0 h1 h2 h3) h
      · rw [preE_3 h1 h2 h3, combE_3 h1 h2 h3]
    · rw [preE_2 h1 h2, combE_2 h1 h2]
  · rw [preE_1 h1, combE_1 h1]
end
abbrev BT := Hdr × TE × Int × Unit
abbrev rBT : RS := .many [.one .slice, sBig, .one (.int .i64)]
def BigR (up : List Int) (T : List (List Int)) (rt : List Int) (M : List (Int × Int)) (x : BT) (w : World) : Prop :=
  x.2.2.1 = preE up T rt M ∧ (preE up T rt M = 0 → (∃ ts : List TE, Sl w x.1.1 x.1.2.1 x.1.2.2 3 (ts.flatMap boxc) ∧ ts.length = up.length ∧ ∀ (k : Nat) t, ts[k]? = some t → BX 1000 w t (colQ T M k)) ∧ BX 1000 w x.2.1 (rhsQ T rt M))

set_option maxHeartbeats 3200000 in
theorem comb11 (u r b m : Hdr) (up : List Int) (T : List (List Int)) (rt : List Int) (M : List (Int × Int)) (w : World) (H : Sys w u r b up T rt) (HM : Sl w m.1 m.2.1 m.2.2 2 (M.flatMap encF)) (hI : ∀ p ∈ M, I64 p.1 ∧ I64 p.2) :
    call Try.prog 90 [sysv u r b, .slice m.1 m.2.1 m.2.2] rBT w (fun x w' => BigR up T rt M x w' ∧ bel w w') := by
  refine call_of (S90_calls u.1 u.2.1 u.2.2 r.1 r.2.1 r.2.2 b.1 b.2.1 b.2.2 m.1 m.2.1 m.2.2 w _ ?_)
  unfold S90
  have hu := H.u.int
  have hT := H.r.len
  have hb := H.b.int
  have hm := fr_len HM
  have km := HM.le
  refine wr_box fun x1 w2 X h _ _ => ?_
  replace X : Box w2 x1 (sysc u r b) := X
  replace H := H.up h; replace HM := HM.up h
  refine wr_alloc (z := .agg #[.bool false, .slice none 0 0, .slice none 0 0]) (by kernel_rfl) fun x3 w4 Z h' hz _ => ?_
  have hne : w.heap.size ≤ x3.block := by rw [hz]; exact h.size
  replace h := h.trans h'; replace X := X.up h'; replace H := H.up h'; replace HM := HM.up h'; clear h'
  have bad : ∀ {w' : World} {e : Int} {cs : List Value}, cs.length = 3 → bel w w' → Box w' x3 cs → preE up T rt M = e → e ≠ 0 →
      wu Try.prog (Instr.storeAt 90 (.pointer (some x3)) (.agg #[.bool false, .slice none 0 0, .slice none 0 0])) w' fun w10 => rd Try.prog (loadVar 90 x3) (.agg [.bool, .slice, .slice]) w10 fun (x11 : TE) =>
        ∃ x : BT, Value.tuple #[.slice none 0 0, .agg #[.bool x11.1, .slice x11.2.1.1 x11.2.1.2.1 x11.2.1.2.2, .slice x11.2.2.1.1 x11.2.2.1.2.1 x11.2.2.1.2.2], .int .i64 e] = rBT.val x ∧ BigR up T rt M x w10 ∧ bel w w10 := by
    intro w' e cs hl h Z he h0
    refine wu_box Z (by kernel_rfl) (by rw [hl]; exact Nat.le_refl 3) rfl fun w5 Z' hg _ => ?_
    have Z2 : Box w5 x3 [.bool false, .slice none 0 0, .slice none 0 0] := by
      match cs, hl with
      | [_, _, _], _ => exact Z'
    exact rd_boxV Z2 (by kernel_rfl) rfl ⟨(((none, 0, 0), (false, (none, 0, 0), (none, 0, 0), ()), e, ()) : BT), rfl, ⟨he.symm, fun q => absurd (he.symm.trans q) h0⟩, h.grownAt hg hne⟩
  refine rd_boxN X (by kernel_rfl) rfl ?_
  refine call_mono (valid11 u r b up T rt w4 H) ?_
  rintro x6 w7 ⟨rfl, h'⟩
  replace h := h.trans h'; replace X := X.up h'; replace H := H.up h'; replace HM := HM.up h'; replace Z := Z.up h'; clear h'
  refine br_ne (fun e0 => bad rfl h Z (preE_1 e0) e0) (fun e0 => ?_)
  obtain ⟨v1, v2, v3, v4⟩ := sysE_ok e0
  refine rd_box (by kernel_rfl) X (i := 1) rfl rfl ?_
  refine br_ne (fun e1 => bad rfl h Z (preE_2 e0 (by dsimp only at e1; omega)) (by omega)) (fun e1 => ?_)
  dsimp only at e1
  have hML : M.length = T.length := by omega
  refine loop_up m.2.1 (fun i w' => bel w7 w' ∧ ∀ j, j < i → ∀ p, M[j]? = some p → IsFrac p.1 p.2) ⟨bel.refl _, pre_zero⟩ fun i w15 hi ⟨hw, hq⟩ again hag _ => ?_
  refine br_dec (fun e => ?_) (fun e => ?_)
  · dsimp only at e
    obtain ⟨p, hp⟩ : ∃ p, M[i]? = some p := ⟨_, List.getElem?_eq_getElem (by omega)⟩
    have hpi := hI p (mem_at hp)
    refine at_frac (HM.up hw) rfl hp ?_
    refine call_mono (callB (valid10 p.1 p.2 w15 hpi.1.1 hpi.1.2 hpi.2.1 hpi.2.2)) ?_
    rintro _ w19 ⟨rfl, h'⟩
    replace hw := hw.trans h'
    refine br_not (fun ev => bad rfl (h.trans hw) (Z.up hw) (preE_3 e0 hML fun q => ?_) (by omega)) (fun ev => ?_)
    · rw [decide_eq_true (q p (mem_at hp))] at ev; cases ev
    refine z_i64 (by dsimp only; omega) ?_
    exact hag _ (by omega) ⟨hw, pre_step hq hp (of_decide_eq_true ev)⟩
  dsimp only at e
  have hF := pre_all hq (by omega)
  clear hq hag again
  replace h := h.trans hw; replace X := X.up hw; replace H := H.up hw; replace HM := HM.up hw; replace Z := Z.up hw; clear hw hi e
  have Z0 := Z.lt
  -- a step of a sum
  have term : ∀ (x : Addr) (col : List Int) (k : Nat) (p : Int × Int) (c : Int) (t : TE) (w65 w5 : World), M[k]? = some p → col[k]? = some c → I64 c → k < 200 → bel w15 w65 → bel w5 w65 → w5.heap.size ≤ x.block → Box w65 x (boxc t) → BX (3 + 9 * k) w65 t (dotN col M k) →
      ∀ (x74 x84 x89 : TE) (w90 : World), bel w65 w90 → BX 7 w90 x89 (ratv p.1 p.2 * (c : Rat)) → ∀ K : World → Prop, (∀ (y : TE) w94, bel w5 w94 → Box w94 x (boxc y) → BX (3 + 9 * (k + 1)) w94 y (dotN col M (k + 1)) → ApT x y (dotN col M (k + 1)) → FrT w65 y → K w94) →
      call Try.prog 62 [exV t, exV x89] (.one sBig) w90 fun (x92 : TE) w93 => wu Try.prog (Instr.storeAt 90 (.pointer (some x)) (exV x92)) w93 fun w94 => K w94 := by
    intro x col k p c t w65 w5 hp hc hci hk hw3 hw5 hnx Y hB _ _ x89 w90 hb B1 K hK
    refine call_mono (plusX t x89 _ _ (3 + 9 * k) 7 w90 (hB.up hb) B1 (by omega) (by omega)) ?_
    rintro (y : TE) w93 ⟨hy, f1, f2, h4'⟩
    have A' : ApT x y (dotN col M (k + 1)) := ApT.fr (Y.up hb) f1 f2
    have e : dotN col M (k + 1) = dotN col M k + ratv p.1 p.2 * (c : Rat) := by
      show dotN col M k + dotT col M k = _
      rw [dotT_at hc hp]
    rw [← e] at hy
    refine wu_box ((Y.up hb).up h4') (by kernel_rfl) (Nat.le_refl 3) rfl fun w94 Y' hg _ => ?_
    exact hK y w94 (((hw5.trans hb).trans h4').grownAt hg hnx) Y' ((hy.grown A' hg).le (by omega)) A' (FrT.mono ⟨f1, f2⟩ hb.size)
  refine loop_upA u.2.1 (fun i (a : Hdr) w' => bel w15 w' ∧ a.2.1 = i ∧ ∃ ts : List TE, Own w' w15.heap.size 90 3 a.1 i a.2.2 (ts.flatMap boxc) ∧ ts.length = i ∧ ∀ (k : Nat) t, ts[k]? = some t → BX 1000 w' t (colQ T M k) ∧ FrT w15 t ∧ OffQ (blk a.1) t (colQ T M k)) ⟨bel.refl _, rfl, [], Own.nil _ _ _ _, rfl, fun k t h => by simp at h⟩ fun i a w25 hi ⟨hw, ha, ts, O, hts, hE⟩ again hag _ => ?_
  refine rd_box0 (by kernel_rfl) (X.up hw) rfl rfl ?_
  refine br_dec (fun e => ?_) (fun e => ?_)
  · dsimp only at e
    refine call_mono (wholeX 0 w25 ⟨by omega, by omega⟩) ?_
    rintro (t0 : TE) w28 ⟨hB0, f1, f2, h'⟩
    refine var_mk (z := .agg #[.bool false, .slice none 0 0, .slice none 0 0]) (by kernel_rfl) (by kernel_rfl) rfl rfl fun x29 w31 Y h2' hy => ?_
    replace Y : Box w31 x29 (boxc t0) := Y
    have A0 : ApT x29 t0 (0 : Rat) := ApT.old hB0 (by omega)
    have hn : w25.heap.size ≤ x29.block := by have := h'.size; omega
    refine loop_up m.2.1 (fun k w' => bel w25 w' ∧ ∃ t, Box w' x29 (boxc t) ∧ BX (3 + 9 * k) w' t (dotN (colI T i) M k) ∧ ApT x29 t (dotN (colI T i) M k) ∧ FrT w25 t) ⟨h'.trans h2', t0, Y, hB0.up h2', A0, f1, f2⟩ fun k w34 hk ⟨hw2, t, Y, hB, hA, hFt⟩ again' hag' _ => ?_
    refine br_dec (fun e2 => ?_) (fun e2 => ?_)
    · dsimp only at e2
      obtain ⟨p, hp⟩ : ∃ p, M[k]? = some p := ⟨_, List.getElem?_eq_getElem (by omega)⟩
      obtain ⟨row, hrow⟩ : ∃ row, T[k]? = some row := ⟨_, List.getElem?_eq_getElem (by omega)⟩
      have hrl := v4.2 row (mem_at hrow)
      obtain ⟨c, hc⟩ : ∃ c, row[i]? = some c := ⟨_, List.getElem?_eq_getElem (by omega)⟩
      have hcol := colI_get hrow hc
      have hF1 := hF p (mem_at hp)
      have hc2 := v3.2.2 row (mem_at hrow) c (mem_at hc)
      refine join_mk (fun _ w' => bel w25 w' ∧ ∃ t, Box w' x29 (boxc t) ∧ BX (3 + 9 * (k + 1)) w' t (dotN (colI T i) M (k + 1)) ∧ ApT x29 t (dotN (colI T i) M (k + 1)) ∧ FrT w25 t) (fun K hK => ?_) (fun _ w' hh _ => z_i64 (by dsimp only; omega) (hag' _ (by omega) hh))
      have same : dotT (colI T i) M k = 0 → K () w34 := fun q => by
        have e : dotN (colI T i) M (k + 1) = dotN (colI T i) M k := by
          show dotN (colI T i) M k + dotT (colI T i) M k = _
          rw [q, Rat.add_zero]
        exact hK _ _ ⟨hw2, t, Y, by rw [e]; exact hB.le (by omega), by rw [e]; exact hA, hFt⟩
      refine at_fst (HM.up (hw.trans hw2)) rfl hp ?_
      refine br_ne (fun n1 => ?_) (fun n1 => same (dotT_p0 hcol hp n1))
      refine rd_box (by kernel_rfl) (X.up (hw.trans hw2)) (i := 1) rfl rfl ?_
      refine (H.up (hw.trans hw2)).r.at tyTab (by kernel_rfl) rfl (by omega) fun y row' h1 HR => ?_
      rw [hrow] at h1; cases h1
      refine at_int tyI64 (by kernel_rfl) HR rfl (by have := Sl.int HR; omega) fun c' hc' => ?_
      rw [hc] at hc'; cases hc'
      refine br_ne (fun n2 => ?_) (fun n2 => same (dotT_c0 hcol hp n2))
      refine drw_mk fun w65 h3' _ => ?_
      have hw3 := hw2.trans h3'
      replace Y := Y.up h3'; replace hB := hB.up h3'
      refine flEx_mk (fun i _ v w' => (i = 5 → ∃ t : TE, v = exV t ∧ BX 3 w' t (ratv p.1 p.2)) ∧ (i = 14 → ∃ t : TE, v = exV t ∧ BX 3 w' t (c : Rat)) ∧ (i = 15 → ∃ t : TE, v = exV t ∧ BX 7 w' t (ratv p.1 p.2 * (c : Rat))))
        (fun _ _ _ _ _ h hb => ⟨fun e => by obtain ⟨t, q1, q2⟩ := h.1 e; exact ⟨t, q1, q2.up hb⟩, fun e => by obtain ⟨t, q1, q2⟩ := h.2.1 e; exact ⟨t, q1, q2.up hb⟩, fun e => by obtain ⟨t, q1, q2⟩ := h.2.2 e; exact ⟨t, q1, q2.up hb⟩⟩) ?_
      refine rd_boxN Y (by kernel_rfl) rfl ?_
      refine at_frac (HM.up (hw.trans hw3)) rfl hp ?_
      refine flc_mk (fun w70 hb _ => call_mono (makeX w70 hF1) fun y w' ⟨hy, _, _, hb'⟩ => ⟨hb', fun _ => ⟨y, rfl, hy⟩, fun e => by omega, fun e => by omega⟩) (fun (x74 : TE) => ?_)
      refine rd_box (by kernel_rfl) (X.up (hw.trans hw3)) (i := 1) rfl rfl ?_
      refine (H.up (hw.trans hw3)).r.at tyTab (by kernel_rfl) rfl (by omega) fun y row' h1 HR => ?_
      rw [hrow] at h1; cases h1
      refine at_int tyI64 (by kernel_rfl) HR rfl (by have := Sl.int HR; omega) fun c' hc' => ?_
      rw [hc] at hc'; cases hc'
      refine flc_mk (fun w80 hb _ => call_mono (wholeX c w80 ⟨by omega, by omega⟩) fun y w' ⟨hy, _, _, hb'⟩ => ⟨hb', fun e => by omega, fun _ => ⟨y, rfl, hy⟩, fun e => by omega⟩) (fun (x84 : TE) => ?_)
      refine flc_mk (fun w85 hb hf => ?_) (fun (x89 : TE) => ?_)
      · obtain ⟨⟨_, g2, _⟩, ⟨g1, _⟩, _⟩ := hf
        obtain ⟨t1, e1, B1⟩ := g1 rfl
        obtain ⟨t2, e2, B2⟩ := g2 rfl
        have e1' := exV_inj (t := x74) e1
        have e2' := exV_inj (t := x84) e2
        subst e1' e2'
        exact call_mono (timesX x74 x84 _ _ 3 3 w85 B1 B2 (by omega) (by omega)) fun y w' ⟨hy, _, _, hb'⟩ => ⟨hb', fun e => by omega, fun e => by omega, fun _ => ⟨y, rfl, hy⟩⟩
      · refine flend_mk fun w90 hb hf => ?_
        obtain ⟨⟨_, _, g⟩, _⟩ := hf
        obtain ⟨t1, e1, B1⟩ := g rfl
        have e1' := exV_inj (t := x89) e1
        subst e1'
        exact term x29 (colI T i) k p c t w65 w25 hp hcol ⟨by omega, by omega⟩ (by omega) (hw.trans hw3) hw3 hn Y hB x74 x84 x89 w90 hb B1 _ fun y w94 q1 q2 q3 q4 q5 => hK _ _ ⟨q1, y, q2, q3, q4, q5.mono hw3.size⟩
    · dsimp only at e2
      have hk' : k = T.length := by omega
      subst hk'
      have hO1 : OffQ (blk a.1) t (colQ T M i) := hFt.off (fun k hk => (O.lt k hk).2) _
      replace O := O.kept hw2
      have hE2 : ∀ (k : Nat) t, ts[k]? = some t → BX 1000 w34 t (colQ T M k) ∧ FrT w15 t ∧ OffQ (blk a.1) t (colQ T M k) := fun k t q => ⟨(hE k t q).1.up hw2, (hE k t q).2⟩
      refine rd_boxN Y (by kernel_rfl) rfl ?_
      dsimp only
      rw [ha]
      refine wr_app1 tyBigs O (hw.trans hw2).size rfl (by omega) (by omega) rfl rfl (by omega) (by unfold maxLen; omega) fun a' c' w39 O' hg hnew _ => ?_
      refine z_i64 (by omega) ?_
      refine hag (a', i + 1, c') w39 (by omega) ⟨(hw.trans hw2).own O hg (Nat.le_refl _), rfl, ts ++ [t], ?_, by simp [hts], fun k t' hk' => ?_⟩
      · rw [List.flatMap_append]; exact O'
      · have key : BX 1000 w34 t' (colQ T M k) ∧ FrT w15 t' ∧ OffQ (blk a.1) t' (colQ T M k) := by
          rcases Nat.lt_or_ge k ts.length with q | q
          · rw [List.getElem?_append_left q] at hk'
            exact hE2 k t' hk'
          · rw [List.getElem?_append_right q] at hk'
            have e : k - ts.length = 0 := by
              rcases Nat.eq_zero_or_pos (k - ts.length) with q2 | q2
              · exact q2
              · rw [List.getElem?_eq_none (by simp; omega)] at hk'; cases hk'
            rw [e] at hk'
            cases hk'
            have : k = i := by omega
            subst this
            exact ⟨BX.le hB (by omega), hFt.mono hw.size, hO1⟩
        obtain ⟨k1, k2, k3⟩ := key
        refine ⟨k1.grownO k3 hg, k2, ?_⟩
        rcases hnew with q | q
        · dsimp only; rw [q]; exact k3
        · exact k1.offNew q
  · dsimp only at e
    have hi' : i = up.length := by omega
    subst hi'
    refine call_mono (wholeX 0 w25 ⟨by omega, by omega⟩) ?_
    rintro (t0 : TE) w28 ⟨hB0, f1, f2, h'⟩
    refine var_mk (z := .agg #[.bool false, .slice none 0 0, .slice none 0 0]) (by kernel_rfl) (by kernel_rfl) rfl rfl fun x84 w31 Y h2' hy => ?_
    replace Y : Box w31 x84 (boxc t0) := Y
    have A0 : ApT x84 t0 (0 : Rat) := ApT.old hB0 (by omega)
    have hn : w25.heap.size ≤ x84.block := by have := h'.size; omega
    refine loop_up m.2.1 (fun k w' => bel w25 w' ∧ ∃ t, Box w' x84 (boxc t) ∧ BX (3 + 9 * k) w' t (dotN rt M k) ∧ ApT x84 t (dotN rt M k) ∧ FrT w25 t) ⟨h'.trans h2', t0, Y, hB0.up h2', A0, f1, f2⟩ fun k w89 hk ⟨hw2, t, Y, hB, hA, hFt⟩ again' hag' _ => ?_
    refine br_dec (fun e2 => ?_) (fun e2 => ?_)
    · dsimp only at e2
      obtain ⟨p, hp⟩ : ∃ p, M[k]? = some p := ⟨_, List.getElem?_eq_getElem (by omega)⟩
      obtain ⟨c, hc⟩ : ∃ c, rt[k]? = some c := ⟨_, List.getElem?_eq_getElem (by have := v4.1; omega)⟩
      have hF1 := hF p (mem_at hp)
      have hc2 := v3.2.1 c (mem_at hc)
      refine drw_mk fun w65 h3' _ => ?_
      have hw3 := hw2.trans h3'
      replace Y := Y.up h3'; replace hB := hB.up h3'
      refine flEx_mk (fun i _ v w' => (i = 5 → ∃ t : TE, v = exV t ∧ BX 3 w' t (ratv p.1 p.2)) ∧ (i = 11 → ∃ t : TE, v = exV t ∧ BX 3 w' t (c : Rat)) ∧ (i = 12 → ∃ t : TE, v = exV t ∧ BX 7 w' t (ratv p.1 p.2 * (c : Rat))))
        (fun _ _ _ _ _ h hb => ⟨fun e => by obtain ⟨t, q1, q2⟩ := h.1 e; exact ⟨t, q1, q2.up hb⟩, fun e => by obtain ⟨t, q1, q2⟩ := h.2.1 e; exact ⟨t, q1, q2.up hb⟩, fun e => by obtain ⟨t, q1, q2⟩ := h.2.2 e; exact ⟨t, q1, q2.up hb⟩⟩) ?_
      refine rd_boxN Y (by kernel_rfl) rfl ?_
      refine at_frac (HM.up (hw.trans hw3)) rfl hp ?_
      refine flc_mk (fun w70 hb _ => call_mono (makeX w70 hF1) fun y w' ⟨hy, _, _, hb'⟩ => ⟨hb', fun _ => ⟨y, rfl, hy⟩, fun e => by omega, fun e => by omega⟩) (fun (x74 : TE) => ?_)
      refine rd_box (by kernel_rfl) (X.up (hw.trans hw3)) (i := 2) rfl rfl ?_
      refine at_int tyI64 (by kernel_rfl) (H.up (hw.trans hw3)).b rfl (by have := v4.1; omega) fun c' hc' => ?_
      rw [hc] at hc'; cases hc'
      refine flc_mk (fun w80 hb _ => call_mono (wholeX c w80 ⟨by omega, by omega⟩) fun y w' ⟨hy, _, _, hb'⟩ => ⟨hb', fun e => by omega, fun _ => ⟨y, rfl, hy⟩, fun e => by omega⟩) (fun (x107 : TE) => ?_)
      refine flc_mk (fun w85 hb hf => ?_) (fun (x112 : TE) => ?_)
      · obtain ⟨⟨_, g2, _⟩, ⟨g1, _⟩, _⟩ := hf
        obtain ⟨t1, e1, B1⟩ := g1 rfl
        obtain ⟨t2, e2, B2⟩ := g2 rfl
        have e1' := exV_inj (t := x74) e1
        have e2' := exV_inj (t := x107) e2
        subst e1' e2'
        exact call_mono (timesX x74 x107 _ _ 3 3 w85 B1 B2 (by omega) (by omega)) fun y w' ⟨hy, _, _, hb'⟩ => ⟨hb', fun e => by omega, fun e => by omega, fun _ => ⟨y, rfl, hy⟩⟩
      · refine flend_mk fun w90 hb hf => ?_
        obtain ⟨⟨_, _, g⟩, _⟩ := hf
        obtain ⟨t1, e1, B1⟩ := g rfl
        have e1' := exV_inj (t := x112) e1
        subst e1'
        exact term x84 rt k p c t w65 w25 hp hc ⟨by omega, by omega⟩ (by omega) (hw.trans hw3) hw3 hn Y hB x74 x107 x112 w90 hb B1 _ fun y w94 q1 q2 q3 q4 q5 => z_i64 (by dsimp only; omega) (hag' _ (by omega) ⟨q1, y, q2, q3, q4, q5.mono hw3.size⟩)
    · dsimp only at e2
      have hk' : k = T.length := by omega
      subst hk'
      refine drw_mk fun w119 h3' _ => ?_
      have hw3 := hw2.trans h3'
      have hw4 := hw.trans hw3
      refine rd_boxN (Y.up h3') (by kernel_rfl) rfl ?_
      refine wu_box (Z.up hw4) (by kernel_rfl) (Nat.le_refl 3) rfl fun w121 Z' hg _ => ?_
      have hx3 : ∀ k, some x3.block = some k → k < w15.heap.size := fun k q => by injection q; omega
      refine rd_boxV Z' (by kernel_rfl) rfl ⟨(((a.1, a.2.1, a.2.2), t, 0, ()) : BT), rfl, ⟨(preE_0 e0 hML hF).symm, fun _ => ⟨⟨ts, ?_, hts, fun k t' hk' => ?_⟩, ?_⟩⟩, (h.trans hw4).grownAt hg hne⟩
      · dsimp only
        rw [ha]
        refine ((O.kept hw3).keptBy hg ?_).sl
        cases hb' : blk a.1 with
        | none => exact .inl rfl
        | some k => exact .inr fun q => by have := (O.lt k hb').1; injection q; omega
      · obtain ⟨k1, k2, _⟩ := hE k t' hk'
        exact (k1.up hw3).grownO (k2.off hx3 _) hg
      · exact BX.le (((hB.up h3')).grownO ((hFt.mono hw.size).off hx3 _) hg) (by omega)
end Go.Proofs.Ytajpdnphamomjaa

/- Combinations: the reference's Combine; comparing lists of fractions; lattices. -/

namespace Go.Proofs.Ytajpdnphamomjaa
open Go.RowKit Go.Q Go.Q.Num Go.V

set_option maxHeartbeats 800000 in
theorem combR11 (u r b m : Hdr) (up : List Int) (T : List (List Int)) (rt : List Int) (M : List (Int × Int)) (w : World) (H : Sys w u r b up T rt) (HM : Sl w m.1 m.2.1 m.2.2 2 (M.flatMap encF)) (hI : ∀ p ∈ M, I64 p.1 ∧ I64 p.2) :
    call Try.prog 37 [sysv u r b, .slice m.1 m.2.1 m.2.2] rCT w (fun x w' => CombR up T rt M x w' ∧ bel w w') := by
  refine call_of (S37_calls u.1 u.2.1 u.2.2 r.1 r.2.1 r.2.2 b.1 b.2.1 b.2.2 m.1 m.2.1 m.2.2 w _ ?_)
  unfold S37
  have hu := H.u.int
  refine wr_box fun x1 w2 X h _ _ => ?_
  replace X : Box w2 x1 (sysc u r b) := X
  replace H := H.up h; replace HM := HM.up h
  refine wr_alloc (z := fracv 0 0) (by kernel_rfl) fun x3 w4 Z h' hz _ => ?_
  have hne : w.heap.size ≤ x3.block := by rw [hz]; exact h.size
  replace h := h.trans h'; replace X := X.up h'; replace H := H.up h'; replace HM := HM.up h'; clear h'
  have bad : ∀ {w' : World} {e : Int} {cs : List Value}, cs.length = 2 → bel w w' → Box w' x3 cs → combE up T rt M = e → e ≠ 0 →
      wu Try.prog (Instr.storeAt 23 (.pointer (some x3)) (.agg #[.int .i64 0, .int .i64 0])) w' fun w10 => rd Try.prog (loadVar 23 x3) (.agg [.int .i64, .int .i64]) w10 fun x11 =>
        ∃ x : CT, Value.tuple #[.slice none 0 0, .agg #[.int .i64 x11.1, .int .i64 x11.2.1], .int .i64 e] = rCT.val x ∧ CombR up T rt M x w10 ∧ bel w w10 := by
    intro w' e cs hl h Z he h0
    refine wu_box Z (by kernel_rfl) (by rw [hl]; exact Nat.le_refl 2) rfl fun w5 Z' hg _ => ?_
    have Z2 : Box w5 x3 [.int .i64 0, .int .i64 0] := by
      match cs, hl with
      | [_, _], _ => exact Z'
    exact rd_boxV Z2 (by kernel_rfl) rfl ⟨(((none, 0, 0), (0, 0, ()), e, ()) : CT), rfl, CombR.bad he h0, h.grownAt hg hne⟩
  refine rd_boxN X (by kernel_rfl) rfl ?_
  refine call_mono (comb11 u r b m up T rt M w4 H HM hI) ?_
  rintro (x6 : BT) w7 ⟨⟨he, hR⟩, h'⟩
  replace h := h.trans h'; replace X := X.up h'; replace H := H.up h'; replace HM := HM.up h'; replace Z := Z.up h'; clear h'
  refine var_mk (z := .agg #[.bool false, .slice none 0 0, .slice none 0 0]) (by kernel_rfl) (by kernel_rfl) rfl rfl fun x8 w10 V hv _ => ?_
  replace V : Box w10 x8 (boxc x6.2.1) := V
  refine br_ne (fun e0 => bad rfl (h.trans hv) (Z.up hv) (by rw [combE_pre (by rw [← he]; exact e0), he]) e0) (fun e0 => ?_)
  obtain ⟨⟨ts, hS, hts, hB⟩, hBr⟩ := hR (by rw [← he]; exact e0)
  obtain ⟨p1, p2, p3⟩ := preE_ok (by rw [← he]; exact e0)
  obtain ⟨v1, v2, v3, v4⟩ := sysE_ok p1
  replace hS := hS.up hv
  replace hB : ∀ (k : Nat) t, ts[k]? = some t → BX 1000 w10 t (colQ T M k) := fun k t q => (hB k t q).up hv
  replace hBr := hBr.up hv
  replace h := h.trans hv; replace X := X.up hv; replace H := H.up hv; replace HM := HM.up hv; replace Z := Z.up hv; clear hv
  have hln : ts.length = x6.1.2.1 := by
    have := hS.len
    rw [flat_len boxc_len] at this
    omega
  refine loop_upA x6.1.2.1 (fun i (a : Hdr) w' => bel w10 w' ∧ a.2.1 = i ∧ Own w' w10.heap.size 23 2 a.1 i a.2.2 ((cols up T M i).flatMap encF) ∧ ∀ k, k < i → Fits (colQ T M k)) ⟨bel.refl _, rfl, Own.nil _ _ _ _, fun k h => by omega⟩ fun i a w15 hi ⟨hw, ha, O, hq⟩ again hag _ => ?_
  have Z0 := Z.lt
  refine br_dec (fun e => ?_) (fun e => ?_)
  · dsimp only at e
    obtain ⟨t, ht⟩ : ∃ t, ts[i]? = some t := ⟨_, List.getElem?_eq_getElem (by omega)⟩
    refine at_agg tyBigs agBig boxc_len (by omega) (hS.up hw) rfl ht rfl ?_
    refine call_mono (fit10 _ _ _ w15 ((hB i t ht).up hw).at) ?_
    rintro (x18 : FE) w19 ⟨rfl, h1'⟩
    have hw1 := hw.trans h1'
    refine boxF fun x20 w22 h2' Y _ => ?_
    have hw2 := hw1.trans h2'
    by_cases hft : Fits (colQ T M i)
    · have eT : fitT (colQ T M i) = (((colQ T M i).num, (((colQ T M i).den : Nat) : Int), ()), 0, ()) := by unfold fitT; rw [if_pos hft]
      rw [eT] at Y ⊢
      refine br_f rfl ?_
      refine rd_boxN Y (by kernel_rfl) rfl ?_
      dsimp only
      rw [ha]
      refine wr_app1 tyFracs (O.kept (h1'.trans h2')) hw2.size rfl (by omega) (by omega) rfl rfl (by omega) (by unfold maxLen; omega) fun a' c' w39 O' hg _ _ => ?_
      refine z_i64 (by omega) ?_
      refine hag (a', i + 1, c') w39 (by omega) ⟨hw2.own (O.kept (h1'.trans h2')) hg (Nat.le_refl _), rfl, ?_, fun k hk => ?_⟩
      · rw [cols_snoc, List.flatMap_append]; exact O'
      · rcases Nat.lt_or_ge k i with q | q
        · exact hq k q
        · have : k = i := by omega
          subst this; exact hft
    · have eT : fitT (colQ T M i) = ((0, 0, ()), 8, ()) := by unfold fitT; rw [if_neg hft]
      rw [eT]
      exact br_t rfl (bad rfl (h.trans hw2) (Z.up hw2) (combE_4 p1 p2 p3 fun q => hft (q.1 i (by omega))) (by decide))
  · dsimp only at e
    have hi' : i = up.length := by omega
    subst hi'
    refine rd_boxN (V.up hw) (by kernel_rfl) rfl ?_
    refine call_mono (fit10 _ _ _ w15 (hBr.up hw).at) ?_
    rintro (x32 : FE) w33 ⟨rfl, h1'⟩
    have hw1 := hw.trans h1'
    refine boxF fun x34 w36 h2' Y _ => ?_
    have hw2 := hw1.trans h2'
    by_cases hft : Fits (rhsQ T rt M)
    · have eT : fitT (rhsQ T rt M) = (((rhsQ T rt M).num, (((rhsQ T rt M).den : Nat) : Int), ()), 0, ()) := by unfold fitT; rw [if_pos hft]
      rw [eT] at Y ⊢
      refine br_f rfl ?_
      refine drw_mk fun w39 h3' _ => ?_
      have hw3 := hw2.trans h3'
      refine rd_boxN (Y.up h3') (by kernel_rfl) rfl ?_
      refine wu_box (Z.up hw3) (by kernel_rfl) (Nat.le_refl 2) rfl fun w41 Z' hg _ => ?_
      have hE := combE_0 p1 p2 p3 ⟨hq, hft⟩
      refine rd_boxV Z' (by kernel_rfl) rfl ⟨(((a.1, a.2.1, a.2.2), ((rhsQ T rt M).num, (((rhsQ T rt M).den : Nat) : Int), ()), 0, ()) : CT), rfl, ⟨hE.symm, fun _ => ⟨?_, rfl⟩, fun q => absurd hE q⟩, (h.trans hw3).grownAt hg hne⟩
      dsimp only
      rw [ha]
      refine ((O.kept ((h1'.trans h2').trans h3')).keptBy hg ?_).sl
      cases hb' : blk a.1 with
      | none => exact .inl rfl
      | some k => exact .inr fun q => by have := (O.lt k hb').1; injection q; omega
    · have eT : fitT (rhsQ T rt M) = ((0, 0, ()), 8, ()) := by unfold fitT; rw [if_neg hft]
      rw [eT]
      exact br_t rfl (bad rfl (h.trans hw2) (Z.up hw2) (combE_4 p1 p2 p3 fun q => hft q.2) (by decide))

theorem not_t {b : Bool} (h : (!b) = true) : b = false := by cases b <;> first | rfl | cases h
/-- two lists of fractions -/
theorem sameF (a b : Hdr) (L : List (Int × Int)) (w : World) (HA : Sl w a.1 a.2.1 a.2.2 2 (L.flatMap encF)) (HB : Sl w b.1 b.2.1 b.2.2 2 (L.flatMap encF)) :
    call Try.prog 38 [.slice a.1 a.2.1 a.2.2, .slice b.1 b.2.1 b.2.2] (.one (.one .bool)) w (fun x w' => x = true ∧ bel w w') := by
  refine call_of (S38_calls a.1 a.2.1 a.2.2 b.1 b.2.1 b.2.2 w _ ?_)
  unfold S38
  have ha := fr_len HA
  have hb := fr_len HB
  have ka := HA.le
  refine br_f (by simp; omega) ?_
  refine loop_up a.2.1 (fun _ w' => bel w w') (bel.refl _) fun i w3 hi hw again hag _ => ?_
  refine br_dec (fun e => ?_) (fun e => ⟨true, rfl, rfl, hw⟩)
  dsimp only at e
  obtain ⟨p, hp⟩ : ∃ p, L[i]? = some p := ⟨_, List.getElem?_eq_getElem (by omega)⟩
  refine drw_mk fun w4 h' _ => ?_
  replace hw := hw.trans h'
  refine at_frac (HA.up hw) rfl hp ?_
  refine at_frac (HB.up hw) rfl hp ?_
  refine rd_ne_same (br_f rfl ?_)
  refine z_i64 (by dsimp only; omega) ?_
  exact hag _ (by omega) hw

/-! ### lattices -/
structure LatP (up : List Int) (T : List (List Int)) (rt : List Int) (M : List (Int × Int)) : Prop where
  ok : combE up T rt M = 0
  whole : ∀ p ∈ cols up T M up.length, p.2 = 1
  part : (((rhsQ T rt M).den : Nat) : Int) ≠ 1
theorem lat1F (p : Int × Int) (w : World) : call Try.prog 91 [.agg #[.int .i64 p.1, .int .i64 p.2]] (.one (.one .bool)) w (fun x w' => x = (p.2 != 1) ∧ bel w w') := by
  refine call_of (S91_calls p.1 p.2 w _ ?_)
  unfold S91
  refine wr_box fun x1 w2 X h' _ _ => ?_
  refine rd_box (by kernel_rfl) X (i := 1) rfl rfl ?_
  exact ⟨_, rfl, rfl, h'⟩
theorem hasE (m : Hdr) (M : List (Int × Int)) (w : World) (H : Sl w m.1 m.2.1 m.2.2 2 (M.flatMap encF)) :
    call Try.prog 84 [.slice m.1 m.2.1 m.2.2, .func (.func 91) #[] #[]] (.one (.one .bool)) w (fun x w' => x = M.any (fun p => p.2 != 1) ∧ bel w w') := by
  refine call_of (S84e_calls m.1 m.2.1 m.2.2 w _ ?_)
  unfold S84e
  refine call_mono (r := .one (.one (.int .i64))) (Q := fun x w' => x = idxI (fun p : Int × Int => p.2 != 1) M ∧ bel w w') (call_of (S114e_calls m.1 m.2.1 m.2.2 w _ ?_)) ?_
  · unfold S114e
    exact idx_aggs tyFracs agFrac encF_len (by omega) (l := [.int .i64, .int .i64]) (dec := fun p => (p.1, p.2, ())) dec_frac (fargs := fun (x5 : Int × Int × Unit) => [.agg #[.int .i64 x5.1, .int .i64 x5.2.1]]) H (fun p => p.2 != 1) (fun j p hp w' hb => lat1F p w')
  · rintro x w2 ⟨rfl, hb⟩
    exact ⟨_, rfl, idxI_any _ _, hb⟩
theorem latL (u r b m : Hdr) (up : List Int) (T : List (List Int)) (rt : List Int) (M : List (Int × Int)) (w : World) (H : Sys w u r b up T rt) (HM : Sl w m.1 m.2.1 m.2.2 2 (M.flatMap encF)) (hI : ∀ p ∈ M, I64 p.1 ∧ I64 p.2) :
    call Try.prog 39 [sysv u r b, .slice m.1 m.2.1 m.2.2] (.one (.one .bool)) w (fun x w' => (x = true ↔ LatP up T rt M) ∧ bel w w') := by
  refine call_of (S39_calls u.1 u.2.1 u.2.2 r.1 r.2.1 r.2.2 b.1 b.2.1 b.2.2 m.1 m.2.1 m.2.2 w _ ?_)
  unfold S39
  refine wr_box fun x1 w2 X h _ _ => ?_
  replace X : Box w2 x1 (sysc u r b) := X
  refine rd_boxN X (by kernel_rfl) rfl ?_
  refine call_mono (combL u r b m up T rt M w2 (H.up h) (HM.up h) hI) ?_
  rintro (x4 : CT) w5 ⟨⟨q1, q2, q3⟩, h'⟩
  replace h := h.trans h'
  refine boxF fun x6 w8 h2' Y _ => ?_
  replace h := h.trans h2'
  refine br_eq (fun e => ?_) (fun e => ⟨false, rfl, ⟨fun c => (Bool.noConfusion c), fun s => absurd (q1.trans s.ok) e⟩, h⟩)
  obtain ⟨g1, g2⟩ := q2 (q1.symm.trans e)
  have g3 : x4.2.1.2.1 = (((rhsQ T rt M).den : Nat) : Int) := by rw [g2]
  refine rd_box (by kernel_rfl) Y (i := 1) rfl rfl ?_
  refine br_ne (fun e2 => ?_) (fun e2 => ⟨false, rfl, ⟨fun c => (Bool.noConfusion c), fun s => absurd (g3.symm.trans e2) s.part⟩, h⟩)
  refine call_mono (hasE x4.1 _ w8 (g1.up h2')) ?_
  rintro _ w11 ⟨rfl, h3'⟩
  refine ⟨_, rfl, ⟨fun c => ⟨q1.symm.trans e, fun p hp => ?_, fun q => e2 (g3.trans q)⟩, fun s => ?_⟩, h.trans h3'⟩
  · have c' : (cols up T M up.length).any (fun p => p.2 != 1) = false := not_t c
    have := any_f c' p hp
    simpa using this
  · have : (cols up T M up.length).any (fun p => p.2 != 1) = false := by
      rw [List.any_eq_false]
      intro p hp
      simp [s.whole p hp]
    rw [this]; rfl
theorem lat11 (u r b m : Hdr) (up : List Int) (T : List (List Int)) (rt : List Int) (M : List (Int × Int)) (w : World) (H : Sys w u r b up T rt) (HM : Sl w m.1 m.2.1 m.2.2 2 (M.flatMap encF)) (hI : ∀ p ∈ M, I64 p.1 ∧ I64 p.2) :
    call Try.prog 40 [sysv u r b, .slice m.1 m.2.1 m.2.2] (.one (.one .bool)) w (fun x w' => (x = true ↔ LatP up T rt M) ∧ bel w w') := by
  refine call_of (S40_calls u.1 u.2.1 u.2.2 r.1 r.2.1 r.2.2 b.1 b.2.1 b.2.2 m.1 m.2.1 m.2.2 w _ ?_)
  unfold S40
  refine wr_box fun x1 w2 X h _ _ => ?_
  replace X : Box w2 x1 (sysc u r b) := X
  refine rd_boxN X (by kernel_rfl) rfl ?_
  refine call_mono (combR11 u r b m up T rt M w2 (H.up h) (HM.up h) hI) ?_
  rintro (x4 : CT) w5 ⟨⟨q1, q2, q3⟩, h'⟩
  replace h := h.trans h'
  refine boxF fun x6 w8 h2' Y _ => ?_
  replace h := h.trans h2'
  refine br_ne (fun e => ⟨false, rfl, ⟨fun c => (Bool.noConfusion c), fun s => absurd (q1.trans s.ok) e⟩, h⟩) (fun e => ?_)
  obtain ⟨g1, g2⟩ := q2 (q1.symm.trans e)
  have g3 : x4.2.1.2.1 = (((rhsQ T rt M).den : Nat) : Int) := by rw [g2]
  have hl := fr_len g1
  have kl := g1.le
  replace g1 := g1.up h2'
  refine loop_up x4.1.2.1 (fun i w' => bel w8 w' ∧ ∀ j, j < i → ∀ p, (cols up T M up.length)[j]? = some p → p.2 = 1) ⟨bel.refl _, pre_zero⟩ fun i w11 hi ⟨hw, hq⟩ again hag _ => ?_
  refine br_dec (fun e2 => ?_) (fun e2 => ?_)
  · dsimp only at e2
    obtain ⟨p, hp⟩ : ∃ p, (cols up T M up.length)[i]? = some p := ⟨_, List.getElem?_eq_getElem (by omega)⟩
    refine idx_agg tyFracs encF_len (by omega) (g1.up hw) rfl hp fun ad had => ?_
    refine rd_cell (by kernel_rfl) (had 1 _ rfl) rfl ?_
    refine br_ne (fun e3 => ⟨false, rfl, ⟨fun c => (Bool.noConfusion c), fun s => absurd (s.whole p (mem_at hp)) e3⟩, h.trans hw⟩) (fun e3 => ?_)
    refine z_i64 (by dsimp only; omega) ?_
    exact hag _ (by omega) ⟨hw, pre_step hq hp e3⟩
  · dsimp only at e2
    refine rd_box (by kernel_rfl) (Y.up hw) (i := 1) rfl rfl ?_
    refine ⟨_, rfl, ⟨fun c => ⟨q1.symm.trans e, pre_all hq (by omega), fun q => ?_⟩, fun s => ?_⟩, h.trans hw⟩
    · have : x4.2.1.2.1 = 1 := g3.trans q
      simp [this] at c
    · have := s.part
      rw [← g3] at this
      exact bne_iff_ne.2 this
end Go.Proofs.Ytajpdnphamomjaa

/- Bounds that contradict a combination: the program. -/

namespace Go.Proofs.Ytajpdnphamomjaa
open Go.RowKit Go.Q Go.Q.Num Go.V

/-- the least value of the first k terms; with the bounds turned about: the greatest -/
def pickB (q : Rat) (lo hi : List Int) (k : Nat) : Int :=
  match lo[k]?, hi[k]? with
  | some a, some b => if q < 0 then b else a
  | _, _ => 0
def lowN (T : List (List Int)) (M : List (Int × Int)) (lo hi : List Int) : Nat → Rat
  | 0 => 0
  | k + 1 => lowN T M lo hi k + colQ T M k * ((pickB (colQ T M k) lo hi k : Int) : Rat)
abbrev Win (x : Int) : Prop := -1000000000 ≤ x ∧ x ≤ 1000000000
structure BndP (up : List Int) (T : List (List Int)) (rt : List Int) (lo hi : List Int) (M : List (Int × Int)) : Prop where
  ok : combE up T rt M = 0
  llo : lo.length = up.length
  lhi : hi.length = up.length
  wlo : ∀ x ∈ lo, Win x
  whi : ∀ x ∈ hi, Win x
  out : (∃ (k : Nat) (a b : Int), lo[k]? = some a ∧ hi[k]? = some b ∧ b < a) ∨ rhsQ T rt M < lowN T M lo hi up.length ∨ lowN T M hi lo up.length < rhsQ T rt M
theorem pick_at {q : Rat} {lo hi : List Int} {k : Nat} {a b : Int} (h1 : lo[k]? = some a) (h2 : hi[k]? = some b) : pickB q lo hi k = if q < 0 then b else a := by unfold pickB; rw [h1, h2]
theorem outB_iff {x : Int} : outB (-1000000000) 1000000000 x = false ↔ Win x := by unfold outB; simp
theorem fromQ {q : Rat} (w : World) (h : Fits q) : call Try.prog 56 [.agg #[.int .i64 q.num, .int .i64 ((q.den : Nat) : Int)]] (.one sBig) w (fun (x : TE) w' => EX 2 w' x q ∧ bel w w') := by
  have := fromX (n := q.num) (d := ((q.den : Nat) : Int)) w (frac_fits h)
  rw [ratv_fits] at this
  exact this
/-- two variables are made and written -/
theorem var2_mk {P : Program} {e : TypeId} {z v v' : Value} {w : World} {k : Addr → Addr → World → Prop} (hz : zeroOf P e = some z) (hs : sizeIs P e v.cells.size = true) (hs' : sizeIs P e v'.cells.size = true) (hl : v.cells.size = z.cells.size) (hl' : v'.cells.size = z.cells.size) (hp : plainV v.cells.toList = true) (hp' : plainV v'.cells.toList = true)
    (hk : ∀ a b w', Box w' a v.cells.toList → Box w' b v'.cells.toList → bel w w' → w.heap.size ≤ a.block → w.heap.size ≤ b.block → a.block ≠ b.block → k a b w') :
    wr P (Instr.alloc e true (.tuple #[])) (.one .addr) w fun x w1 => wr P (Instr.alloc e true (.tuple #[])) (.one .addr) w1 fun y w2 => wu P (Instr.storeAt e (.pointer (some x)) v) w2 fun w3 => wu P (Instr.storeAt e (.pointer (some y)) v') w3 fun w4 => k x y w4 := by
  have put : ∀ (vs cs : List Value), cs.length = vs.length → putAt cs 0 vs = vs := by
    have key : ∀ (vs pre cs : List Value), cs.length = vs.length → putAt (pre ++ cs) pre.length vs = pre ++ vs := by
      intro vs
      induction vs with
      | nil => intro pre cs h; rw [List.eq_nil_of_length_eq_zero h]; rfl
      | cons x vs ih =>
        intro pre cs h
        cases cs with
        | nil => simp at h
        | cons c cs =>
          simp only [putAt]
          have h1 : (pre ++ c :: cs).set pre.length x = (pre ++ [x]) ++ cs := by simp
          rw [h1]
          have := ih (pre ++ [x]) cs (by simpa using h)
          simp only [List.length_append, List.length_cons, List.length_nil, Nat.zero_add] at this
          rw [this]; simp
    intro vs cs h
    simpa using key vs [] cs h
  refine wr_alloc hz fun a w1 A h ha _ => ?_
  refine wr_alloc hz fun b w2 B h2 hb2 _ => ?_
  replace A := A.up h2
  have n1 := A.lt
  have hab : a.block < b.block := by have := A.lt; have := h.size; have := h2.size; omega
  refine wu_box A hs (by rw [hl]; simp) hp fun w3 A' hg _ => ?_
  have B' := B.grown hg (by intro e; injection e; omega)
  refine wu_box B' hs' (by rw [hl']; simp) hp' fun w4 B2 hg2 _ => ?_
  have A2 := A'.grown hg2 (by intro e; injection e; omega)
  rw [put _ _ (by simp [hl])] at A2
  rw [put _ _ (by simp [hl'])] at B2
  exact hk _ _ _ A2 B2 (((h.trans h2).grownAt hg (by omega)).grownAt hg2 (by have := h.size; omega)) (by omega) (by have := h.size; omega) (by omega)

theorem bnd11F (n : Int) (w : World) : call Try.prog 93 [.int .i64 n] (.one (.one .bool)) w (fun x w' => x = outB (-1000000000) 1000000000 n ∧ bel w w') := by
  refine call_of (S93_calls n w _ ?_)
  unfold S93
  refine call_mono (outsideF n _ _ w) ?_
  rintro x w2 ⟨rfl, h⟩
  exact ⟨_, rfl, rfl, h⟩
theorem hasG (a : Hdr) (xs : List Int) (w : World) (H : Sl w a.1 a.2.1 a.2.2 1 (ints .i64 xs)) :
    call Try.prog 74 [.slice a.1 a.2.1 a.2.2, .func (.func 93) #[] #[]] (.one (.one .bool)) w (fun x w' => x = xs.any (outB (-1000000000) 1000000000) ∧ bel w w') := by
  refine call_of (S74b_calls a.1 a.2.1 a.2.2 w _ ?_)
  unfold S74b
  refine call_mono (r := .one (.one (.int .i64))) (Q := fun x w' => x = idxI (outB (-1000000000) 1000000000) xs ∧ bel w w') (call_of (S112b_calls a.1 a.2.1 a.2.2 w _ ?_)) ?_
  · unfold S112b
    exact idx_ints tyI64 (by kernel_rfl) (fargs := fun x5 => [.int .i64 x5]) H (outB (-1000000000) 1000000000) (fun j x hx w' hb => bnd11F x w')
  · rintro x w2 ⟨rfl, hb⟩
    exact ⟨_, rfl, idxI_any _ _, hb⟩
theorem bnd1F (a u : Hdr) (xs up : List Int) (v1 v2 : Value) (c0 : Addr) (w : World) (H : Sl w a.1 a.2.1 a.2.2 1 (ints .i64 xs)) (X : Box w c0 [.slice u.1 u.2.1 u.2.2, v1, v2]) (hu : up.length = u.2.1) :
    call Try.prog 92 [.slice a.1 a.2.1 a.2.2, .pointer (some c0)] (.one (.one .bool)) w (fun x w' => (x = false ↔ xs.length = up.length ∧ ∀ x ∈ xs, Win x) ∧ bel w w') := by
  refine call_of (S92_calls a.1 a.2.1 a.2.2 c0 w _ ?_)
  unfold S92
  have hl := H.int
  refine rd_box0 (by kernel_rfl) X rfl rfl ?_
  refine br_ne (fun e => ⟨true, rfl, ⟨fun c => (Bool.noConfusion c), fun s => ?_⟩, bel.refl _⟩) (fun e => ?_)
  · dsimp only at e; omega
  dsimp only at e
  refine call_mono (hasG a xs w H) ?_
  rintro _ w3 ⟨rfl, h⟩
  refine ⟨_, rfl, ⟨fun c => ⟨by omega, fun x hx => outB_iff.1 (any_f c x hx)⟩, fun s => ?_⟩, h⟩
  show xs.any _ = false
  rw [List.any_eq_false]
  intro x hx
  rw [outB_iff.2 (s.2 x hx)]; simp

set_option maxHeartbeats 3200000 in
theorem bndL (u r b lo hi m : Hdr) (up : List Int) (T : List (List Int)) (rt ls hs : List Int) (M : List (Int × Int)) (w : World) (H : Sys w u r b up T rt) (HM : Sl w m.1 m.2.1 m.2.2 2 (M.flatMap encF)) (hI : ∀ p ∈ M, I64 p.1 ∧ I64 p.2)
    (HLo : Sl w lo.1 lo.2.1 lo.2.2 1 (ints .i64 ls)) (HHi : Sl w hi.1 hi.2.1 hi.2.2 1 (ints .i64 hs)) :
    call Try.prog 41 [sysv u r b, .slice lo.1 lo.2.1 lo.2.2, .slice hi.1 hi.2.1 hi.2.2, .slice m.1 m.2.1 m.2.2] (.one (.one .bool)) w (fun x w' => (x = true ↔ BndP up T rt ls hs M) ∧ bel w w') := by
  refine call_of (S41_calls u.1 u.2.1 u.2.2 r.1 r.2.1 r.2.2 b.1 b.2.1 b.2.2 lo.1 lo.2.1 lo.2.2 hi.1 hi.2.1 hi.2.2 m.1 m.2.1 m.2.2 w _ ?_)
  unfold S41
  have hu := H.u.int
  have hlo := HLo.int
  have hhi := HHi.int
  have no : ∀ {w' : World}, bel w w' → (BndP up T rt ls hs M → False) → ∃ v : Bool, Value.bool false = (RS.one (.one .bool)).val v ∧ (v = true ↔ BndP up T rt ls hs M) ∧ bel w w' := fun hb q => ⟨false, rfl, ⟨fun e => (Bool.noConfusion e), fun s => (q s).elim⟩, hb⟩
  refine wr_box fun x1 w2 X h _ _ => ?_
  replace X : Box w2 x1 (sysc u r b) := X
  replace HLo := HLo.up h; replace HHi := HHi.up h
  refine rd_boxN X (by kernel_rfl) rfl ?_
  refine call_mono (combL u r b m up T rt M w2 (H.up h) (HM.up h) hI) ?_
  rintro (x4 : CT) w5 ⟨⟨q1, q2, _⟩, h'⟩
  replace h := h.trans h'; replace X := X.up h'; replace HLo := HLo.up h'; replace HHi := HHi.up h'; clear h'
  refine boxF fun x6 w8 h2' Y _ => ?_
  refine br_ne (fun e => no (h.trans h2') fun s => e (q1.trans s.ok)) (fun e => ?_)
  have hok : combE up T rt M = 0 := q1.symm.trans e
  obtain ⟨g1, g2⟩ := q2 hok
  obtain ⟨ce1, _, _, hfit, hfr⟩ := combE_ok hok
  have v1 := (sysE_ok ce1).1
  have hln := fr_len g1
  rw [cols_len] at hln
  have kl := g1.le
  replace g1 := g1.up h2'
  replace h := h.trans h2'; replace X := X.up h2'; replace HLo := HLo.up h2'; replace HHi := HHi.up h2'; clear h2'
  rw [g2] at Y
  refine call_mono (bnd1F lo u ls up _ _ x1 w8 HLo X hu) ?_
  rintro x9 w10 ⟨b1, h'⟩
  replace h := h.trans h'; replace X := X.up h'; replace HLo := HLo.up h'; replace HHi := HHi.up h'; replace Y := Y.up h'; replace g1 := g1.up h'; clear h'
  refine br_mk (fun e1 => no h fun s => ?_) (fun e1 => ?_)
  · rw [b1.2 ⟨s.llo, s.wlo⟩] at e1; cases e1
  obtain ⟨l1, l2⟩ := b1.1 e1
  refine call_mono (bnd1F hi u hs up _ _ x1 w10 HHi X hu) ?_
  rintro x11 w12 ⟨b2, h'⟩
  replace h := h.trans h'; replace X := X.up h'; replace HLo := HLo.up h'; replace HHi := HHi.up h'; replace Y := Y.up h'; replace g1 := g1.up h'; clear h'
  refine br_mk (fun e2 => no h fun s => ?_) (fun e2 => ?_)
  · rw [b2.2 ⟨s.lhi, s.whi⟩] at e2; cases e2
  obtain ⟨l3, l4⟩ := b2.1 e2
  have bnd : ∀ {x : Bool}, ((∃ (k : Nat) (a b : Int), ls[k]? = some a ∧ hs[k]? = some b ∧ b < a) ∨ rhsQ T rt M < lowN T M ls hs up.length ∨ lowN T M hs ls up.length < rhsQ T rt M ↔ x = true) → (x = true ↔ BndP up T rt ls hs M) := fun q => ⟨fun e => ⟨hok, l1, l3, l2, l4, q.2 e⟩, fun s => q.1 s.out⟩
  refine call_mono (wholeF 0 w12 ⟨by omega, by omega⟩) ?_
  rintro (t0 : TE) w14 ⟨hA0, _, _, h'⟩
  replace h := h.trans h'; replace X := X.up h'; replace HLo := HLo.up h'; replace HHi := HHi.up h'; replace Y := Y.up h'; replace g1 := g1.up h'; clear h'
  refine call_mono (wholeF 0 w14 ⟨by omega, by omega⟩) ?_
  rintro (t1 : TE) w16 ⟨hB0, _, _, h'⟩
  replace hA0 := hA0.up h'
  replace h := h.trans h'; replace X := X.up h'; replace HLo := HLo.up h'; replace HHi := HHi.up h'; replace Y := Y.up h'; replace g1 := g1.up h'; clear h'
  refine var2_mk (z := .agg #[.bool false, .slice none 0 0, .slice none 0 0]) (by kernel_rfl) (by kernel_rfl) (by kernel_rfl) rfl rfl rfl rfl fun x17 x19 w22 V1 V2 h' n17 n19 n1719 => ?_
  replace V1 : Box w22 x17 (boxc t0) := V1
  replace V2 : Box w22 x19 (boxc t1) := V2
  refine loop_up x4.1.2.1 (fun i w' => bel w16 w' ∧ (∀ j, j < i → ∀ a b, ls[j]? = some a → hs[j]? = some b → ¬ b < a) ∧ ∃ t s : TE, Box w' x17 (boxc t) ∧ Box w' x19 (boxc s) ∧ EX (2 + 5 * i) w' t (lowN T M ls hs i) ∧ EX (2 + 5 * i) w' s (lowN T M hs ls i) ∧ ApT x17 t (lowN T M ls hs i) ∧ ApT x19 t (lowN T M ls hs i) ∧ ApT x17 s (lowN T M hs ls i) ∧ ApT x19 s (lowN T M hs ls i))
    ⟨h', fun j q => by omega, t0, t1, V1, V2, hA0.up h', hB0.up h', ApT.oldE hA0 n17, ApT.oldE hA0 n19, ApT.oldE hB0 n17, ApT.oldE hB0 n19⟩ fun i w25 hi' ⟨hw, hq, t, s, V1, V2, E1, E2, A11, A12, A21, A22⟩ again hag _ => ?_
  refine br_dec (fun e3 => ?_) (fun e3 => ?_)
  · dsimp only at e3
    obtain ⟨la, hla⟩ : ∃ la, ls[i]? = some la := ⟨_, List.getElem?_eq_getElem (by omega)⟩
    obtain ⟨ha, hha⟩ : ∃ ha, hs[i]? = some ha := ⟨_, List.getElem?_eq_getElem (by omega)⟩
    have hp : (cols up T M up.length)[i]? = some (fpair (colQ T M i)) := cols_get (by omega)
    have hft := hfit i (by omega)
    have wla := l2 la (mem_at hla)
    have wha := l4 ha (mem_at hha)
    have l17 := V1.lt
    have l19 := V2.lt
    obtain ⟨q, hq0⟩ : ∃ q, q = colQ T M i := ⟨_, rfl⟩
    rw [← hq0] at hp hft
    refine join_mk (fun _ w' => bel w16 w' ∧ ¬ ha < la ∧ ∃ t s : TE, Box w' x17 (boxc t) ∧ Box w' x19 (boxc s) ∧ EX (2 + 5 * (i + 1)) w' t (lowN T M ls hs (i + 1)) ∧ EX (2 + 5 * (i + 1)) w' s (lowN T M hs ls (i + 1)) ∧ ApT x17 t (lowN T M ls hs (i + 1)) ∧ ApT x19 t (lowN T M ls hs (i + 1)) ∧ ApT x17 s (lowN T M hs ls (i + 1)) ∧ ApT x19 s (lowN T M hs ls (i + 1))) (fun K hK => ?_) (fun _ w' ⟨hh1, hh2, hh3⟩ _ => z_i64 (by dsimp only; omega) (hag _ (by omega) ⟨hh1, fun j hj a b c1 c2 => ?_, hh3⟩))
    · -- one round
      refine at_frac (g1.up hw) rfl hp ?_
      refine boxF fun x32 w34 h' Z n32 => ?_
      have hw1 := hw.trans h'
      refine drw_mk fun w35 h2' _ => ?_
      have hw2 := hw1.trans h2'
      have hz := h'.trans h2'
      replace Z := Z.up h2'
      refine at_int tyI64 (by kernel_rfl) (HLo.up hw2) rfl (by omega) fun a ha' => ?_
      rw [hla] at ha'; cases ha'
      refine at_int tyI64 (by kernel_rfl) (HHi.up hw2) rfl (by omega) fun a ha' => ?_
      rw [hha] at ha'; cases ha'
      refine br_dec (fun e4 => ⟨true, rfl, bnd ⟨fun _ => rfl, fun _ => .inl ⟨i, la, ha, hla, hha, e4⟩⟩, h.trans hw2⟩) (fun e4 => ?_)
      refine rd_box0 (by kernel_rfl) Z rfl rfl ?_
      have st1 : lowN T M ls hs (i + 1) = lowN T M ls hs i + q * ((if q < 0 then ha else la : Int) : Rat) := by
        show lowN T M ls hs i + colQ T M i * ((pickB (colQ T M i) ls hs i : Int) : Rat) = _
        rw [pick_at hla hha, hq0]
      have st2 : lowN T M hs ls (i + 1) = lowN T M hs ls i + q * ((if q < 0 then la else ha : Int) : Rat) := by
        show lowN T M hs ls i + colQ T M i * ((pickB (colQ T M i) hs ls i : Int) : Rat) = _
        rw [pick_at hha hla, hq0]
      refine br_eq (fun e5 => ?_) (fun e5 => ?_)
      · have q0 : q = 0 := Rat.num_eq_zero.1 e5
        rw [q0, Rat.zero_mul, Rat.add_zero] at st1 st2
        exact hK _ _ ⟨hw2, e4, t, s, V1.up hz, V2.up hz, by rw [st1]; exact (E1.up hz).le (by omega), by rw [st2]; exact (E2.up hz).le (by omega), by rw [st1]; exact A11, by rw [st1]; exact A12, by rw [st2]; exact A21, by rw [st2]; exact A22⟩
      refine join_mk (fun s' w' => s'.1 = (if q < 0 then ha else la) ∧ s'.2.1 = (if q < 0 then la else ha) ∧ w35 = w') (fun K' hK' => ?_) (fun s' w43 hs' _ => ?_)
      · refine rd_box0 (by kernel_rfl) Z rfl rfl ?_
        refine br_dec (fun e6 => hK' _ _ ⟨?_, ?_, rfl⟩) (fun e6 => hK' _ _ ⟨?_, ?_, rfl⟩)
        · dsimp only; rw [if_pos (num_neg.1 e6)]
        · dsimp only; rw [if_pos (num_neg.1 e6)]
        · dsimp only; rw [if_neg fun c => e6 (num_neg.2 c)]
        · dsimp only; rw [if_neg fun c => e6 (num_neg.2 c)]
      obtain ⟨y1, y2, _⟩ := s'
      obtain ⟨hy1, hy2, rfl⟩ := hs'
      dsimp only at hy1 hy2
      rw [← hy1] at st1
      rw [← hy2] at st2
      have wy1 : Win y1 := by rw [hy1]; split <;> assumption
      have wy2 : Win y2 := by rw [hy2]; split <;> assumption
      clear hy1 hy2
      replace V1 := V1.up hz; replace V2 := V2.up hz; replace E1 := E1.up hz; replace E2 := E2.up hz
      -- one of the two sums
      have one : ∀ (x : Addr) (y : Int) (v : TE) (rr : Rat) (L : Nat) (w44 : World) (Kn : World → Prop), Win y → w16.heap.size ≤ x.block → bel w16 w44 → Box w44 x (boxc v) → Box w44 x32 (encF (fpair q)) → EX L w44 v rr → L ≤ 2000 →
          (∀ (v' : TE) w67, bel w16 w67 → w44.grownBy w67 (some x.block) → Box w67 x (boxc v') → EX (L + 5) w67 v' (rr + q * (y : Rat)) → FrT w44 v' → Kn w67) →
          drw w44 fun w44 => flEx fun F45 =>
            rd Try.prog (Instr.loadAt 81 (.pointer (some x))) (.agg [.bool, .slice, .slice]) w44 fun (x46 : TE) =>
            rd Try.prog (Instr.loadAt 23 (.pointer (some x32))) (.agg [.int .i64, .int .i64]) w44 fun x47 =>
            flc bel w44 (fun _ => True) (fun (w48 : World) => call Try.prog 56 [(.agg #[(.int .i64 x47.1), (.int .i64 x47.2.1)])] (.one (.agg [.bool, .slice, .slice])) w48 fun (x50 : TE) (w51 : World) => (bel w48 w51 ∧ F45 2 [(.agg #[(.int .i64 x47.1), (.int .i64 x47.2.1)])] (exV x50) w51)) fun (x52 : TE) =>
            flc bel w44 (fun w54 => F45 2 [(.agg #[(.int .i64 x47.1), (.int .i64 x47.2.1)])] (exV x52) w54 ∧ True) (fun (w53 : World) => call Try.prog 81 [(.int .i64 y)] (.one (.agg [.bool, .slice, .slice])) w53 fun (x55 : TE) (w56 : World) => (bel w53 w56 ∧ F45 4 [(.int .i64 y)] (exV x55) w56)) fun (x57 : TE) =>
            flc bel w44 (fun w59 => F45 4 [(.int .i64 y)] (exV x57) w59 ∧ F45 2 [(.agg #[(.int .i64 x47.1), (.int .i64 x47.2.1)])] (exV x52) w59 ∧ True) (fun (w58 : World) => call Try.prog 68 [exV x52, exV x57] (.one (.agg [.bool, .slice, .slice])) w58 fun (x60 : TE) (w61 : World) => (bel w58 w61 ∧ F45 5 [exV x52, exV x57] (exV x60) w61)) fun (x62 : TE) =>
            flend bel w44 (fun w64 => F45 5 [exV x52, exV x57] (exV x62) w64 ∧ F45 4 [(.int .i64 y)] (exV x57) w64 ∧ F45 2 [(.agg #[(.int .i64 x47.1), (.int .i64 x47.2.1)])] (exV x52) w64 ∧ True) fun w63 =>
            call Try.prog 60 [exV x46, exV x62] (.one (.agg [.bool, .slice, .slice])) w63 fun (x65 : TE) (w66 : World) =>
            wu Try.prog (Instr.storeAt 81 (.pointer (some x)) (exV x65)) w66 fun (w67 : World) => Kn w67 := by
        intro x y v rr L w44 Kn wy hx hb0 V Z E hL hKn
        refine drw_mk fun w45 h3' _ => ?_
        replace V := V.up h3'; replace Z := Z.up h3'; replace E := E.up h3'
        refine flEx_mk (fun i _ v w' => (i = 2 → ∃ t : TE, v = exV t ∧ EX 2 w' t q) ∧ (i = 4 → ∃ t : TE, v = exV t ∧ EX 2 w' t (y : Rat)) ∧ (i = 5 → ∃ t : TE, v = exV t ∧ EX 4 w' t (q * (y : Rat))))
          (fun _ _ _ _ _ h hb => ⟨fun e => by obtain ⟨t, q1, q2⟩ := h.1 e; exact ⟨t, q1, q2.up hb⟩, fun e => by obtain ⟨t, q1, q2⟩ := h.2.1 e; exact ⟨t, q1, q2.up hb⟩, fun e => by obtain ⟨t, q1, q2⟩ := h.2.2 e; exact ⟨t, q1, q2.up hb⟩⟩) ?_
        refine rd_boxN V (by kernel_rfl) rfl ?_
        refine rd_boxN Z (by kernel_rfl) rfl ?_
        refine flc_mk (fun w70 hb _ => call_mono (fromQ w70 hft) fun y w' ⟨hy, hb'⟩ => ⟨hb', fun _ => ⟨y, rfl, hy⟩, fun e => by omega, fun e => by omega⟩) (fun (x52 : TE) => ?_)
        refine flc_mk (fun w80 hb _ => call_mono (wholeF y w80 ⟨by omega, by omega⟩) fun y w' ⟨hy, _, _, hb'⟩ => ⟨hb', fun e => by omega, fun _ => ⟨y, rfl, hy⟩, fun e => by omega⟩) (fun (x57 : TE) => ?_)
        refine flc_mk (fun w85 hb hf => ?_) (fun (x62 : TE) => ?_)
        · obtain ⟨⟨_, g2, _⟩, ⟨g1, _⟩, _⟩ := hf
          obtain ⟨t1, e1, B1⟩ := g1 rfl
          obtain ⟨t2, e2, B2⟩ := g2 rfl
          have e1' := exV_inj (t := x52) e1
          have e2' := exV_inj (t := x57) e2
          subst e1' e2'
          exact call_mono (mulE x52 x57 _ _ 2 2 w85 B1 B2 (by omega) (by omega)) fun y w' ⟨hy, _, _, hb'⟩ => ⟨hb', fun e => by omega, fun e => by omega, fun _ => ⟨y, rfl, hy⟩⟩
        · refine flend_mk fun w90 hb hf => ?_
          obtain ⟨⟨_, _, g⟩, _⟩ := hf
          obtain ⟨t1, e1, B1⟩ := g rfl
          have e1' := exV_inj (t := x62) e1
          subst e1'
          refine call_mono (addE v x62 _ _ L 4 w90 (E.up hb) B1 (by omega) (by omega)) ?_
          rintro (y' : TE) w93 ⟨hy, f1, f2, h4'⟩
          have A' : ApT x y' (rr + q * (y : Rat)) := ApT.fr (V.up hb) f1 f2
          refine wu_box ((V.up hb).up h4') (by kernel_rfl) (Nat.le_refl 3) rfl fun w94 V' hg _ => ?_
          have hbb := ((h3'.trans hb).trans h4')
          exact hKn y' w94 ((hb0.trans hbb).grownAt hg hx) ((grown_of_bel hbb _).trans hg) V' ((hy.grownA A' hg).le (by omega)) (FrT.mono ⟨f1, f2⟩ (h3'.trans hb).size)
      refine one x17 y1 t _ (2 + 5 * i) w35 _ wy1 n17 hw2 V1 Z E1 (by omega) fun t' w67 hw3 hg3 V1' E1' F1 => ?_
      have ne : some x17.block ≠ some x19.block := by intro e; injection e; omega
      have V2' := V2.grown hg3 (fun e => ne e.symm)
      have Z' := Z.grown hg3 (by intro e; injection e; omega)
      have E2' := E2.grownA A21 hg3
      have F1x17 : ApT x19 t' (lowN T M ls hs i + q * (y1 : Rat)) := ApT.fr V2 F1.1 F1.2
      have F1x17' : ApT x17 t' (lowN T M ls hs i + q * (y1 : Rat)) := ApT.fr V1 F1.1 F1.2
      refine one x19 y2 s _ (2 + 5 * i) w67 _ wy2 n19 hw3 V2' Z' E2' (by omega) fun s' w91 hw4 hg4 V2'' E2'' F2 => ?_
      refine hK _ _ ⟨hw4, e4, t', s', V1'.grown hg4 ne, V2'', ?_, ?_, ?_, ?_, ?_, ?_⟩
      · rw [st1]; exact (E1'.grownA F1x17 hg4).le (by omega)
      · rw [st2]; exact E2''.le (by omega)
      · rw [st1]; exact F1x17'
      · rw [st1]; exact F1x17
      · rw [st2]; exact ApT.fr V1' F2.1 F2.2
      · rw [st2]; exact ApT.fr V2' F2.1 F2.2
    · rcases Nat.lt_or_ge j i with q | q
      · exact hq j q a b c1 c2
      · have : j = i := by omega
        subst this
        rw [hla] at c1; cases c1
        rw [hha] at c2; cases c2
        exact hh2
  · dsimp only at e3
    have hi2 : i = up.length := by omega
    subst hi2
    have nok : ¬ ∃ (k : Nat) (a b : Int), ls[k]? = some a ∧ hs[k]? = some b ∧ b < a := by
      rintro ⟨k, a, b, c1, c2, c3⟩
      exact hq k (by have := (List.getElem?_eq_some_iff.1 c1).1; omega) a b c1 c2 c3
    refine drw_mk fun w93 h' _ => ?_
    have hw1 := hw.trans h'
    replace V1 := V1.up h'; replace V2 := V2.up h'; replace E1 := E1.up h'; replace E2 := E2.up h'
    refine flEx_mk (fun i _ v w' => (i = 2 ∨ i = 8 → ∃ t : TE, v = exV t ∧ EX 2 w' t (rhsQ T rt M)) ∧ (i = 3 → v = .int .i64 (cmpq (lowN T M ls hs up.length) (rhsQ T rt M))))
      (fun _ _ _ _ _ h hb => ⟨fun e => by obtain ⟨t, q1, q2⟩ := h.1 e; exact ⟨t, q1, q2.up hb⟩, h.2⟩) ?_
    refine rd_boxN V1 (by kernel_rfl) rfl ?_
    refine rd_boxN (Y.up hw1) (by kernel_rfl) rfl ?_
    refine flc_mk (fun w70 hb _ => call_mono (fromQ w70 hfr) fun y w' ⟨hy, hb'⟩ => ⟨hb', fun _ => ⟨y, rfl, hy⟩, fun e => by omega⟩) (fun (x101 : TE) => ?_)
    refine flc_mk (fun w70 hb hf => ?_) (fun x106 => ?_)
    · obtain ⟨t1, e1, B1⟩ := hf.1.1 (.inl rfl)
      have e1' := exV_inj (t := x101) e1
      subst e1'
      exact call_mono (cmpX t x101 _ _ (2 + 5 * up.length) 2 w70 (E1.up hb) B1 (by omega) (by omega)) fun y w' ⟨hy, hb'⟩ => ⟨hb', fun e => by omega, fun _ => by rw [hy]⟩
    refine br_dec (fun e6 => flend_mk fun w107 hb hf => ?_) (fun e6 => ?_)
    · have := hf.1.2 rfl
      injection this with _ e7
      rw [e7] at e6
      exact ⟨true, rfl, bnd ⟨fun _ => rfl, fun _ => .inr (.inl (cmpq_gt0.1 e6))⟩, h.trans (hw1.trans hb)⟩
    refine rd_boxN V2 (by kernel_rfl) rfl ?_
    refine rd_boxN (Y.up hw1) (by kernel_rfl) rfl ?_
    refine flc_mk (fun w70 hb _ => call_mono (fromQ w70 hfr) fun y w' ⟨hy, hb'⟩ => ⟨hb', fun _ => ⟨y, rfl, hy⟩, fun e => by omega⟩) (fun (x115 : TE) => ?_)
    refine flend_mk fun w116 hb hf => ?_
    obtain ⟨t1, e1, B1⟩ := hf.1.1 (.inr rfl)
    have e1' := exV_inj (t := x115) e1
    subst e1'
    have := hf.2.1.2 rfl
    injection this with _ e7
    rw [e7] at e6
    refine call_mono (cmpX s x115 _ _ (2 + 5 * up.length) 2 w116 (E2.up hb) B1 (by omega) (by omega)) ?_
    rintro x118 w119 ⟨rfl, h4'⟩
    refine ⟨_, rfl, bnd ⟨fun q => ?_, fun q => .inr (.inr (cmpq_lt0.1 (of_decide_eq_true q)))⟩, h.trans ((hw1.trans hb).trans h4')⟩
    rcases q with q | q | q
    · exact absurd q nok
    · exact absurd (cmpq_gt0.2 q) e6
    · exact decide_eq_true (cmpq_lt0.2 q)
end Go.Proofs.Ytajpdnphamomjaa

/- Bounds that contradict a combination: the reference. -/

namespace Go.Proofs.Ytajpdnphamomjaa
open Go.RowKit Go.Q Go.Q.Num Go.V

/-- digits never lie in a variable of a fraction -/
theorem ap_box {B : Nat} {k : IntKind} {w : World} {s : Hd} {y : Nat} {x : Addr} {t' : TE} (hN : NumAt B k w s.1 s.2.1 s.2.2 y) (X : Box w x (boxc t')) : Apart x s y := fun ad ha hy e => by
  obtain ⟨l, hs, hd, hv⟩ := hN
  cases l with
  | nil => exact hy (by rw [← hv]; rfl)
  | cons d l =>
    obtain ⟨ad', h1, h2, _⟩ := hs.at' 0 (.int k (d : Int)) rfl
    rw [ha] at h1; cases h1
    rw [Go.Q.add_zero] at h2
    obtain ⟨T, hT⟩ := X.blk
    unfold World.cell? at h2
    rw [e, hT] at h2
    simp only at h2
    split at h2
    · cases h2
    · generalize ad.off = o at h2
      match o, h2 with
      | 0, h2 => simp at h2
      | 1, h2 => simp at h2
      | 2, h2 => simp at h2
      | o + 3, h2 => simp at h2
theorem ApT.bx {L : Nat} {w : World} {t t' : TE} {r : Rat} {x : Addr} (h : BX L w t r) (X : Box w x (boxc t')) : ApT x t r := ⟨ap_box h.2.1 X, ap_box h.2.2.1 X⟩
/-- a variable of a fraction is written: other fractions stay -/
theorem BX.put {L : Nat} {w w' : World} {t t' : TE} {r : Rat} {x : Addr} (h : BX L w t r) (X : Box w x (boxc t')) (hg : w.grownBy w' (some x.block)) : BX L w' t r := h.grown (ApT.bx h X) hg
abbrev z0 : TE := (false, (none, 0, 0), (none, 0, 0), ())

set_option maxHeartbeats 3200000 in
theorem bnd11 (u r b lo hi m : Hdr) (up : List Int) (T : List (List Int)) (rt ls hs : List Int) (M : List (Int × Int)) (w : World) (H : Sys w u r b up T rt) (HM : Sl w m.1 m.2.1 m.2.2 2 (M.flatMap encF)) (hI : ∀ p ∈ M, I64 p.1 ∧ I64 p.2)
    (HLo : Sl w lo.1 lo.2.1 lo.2.2 1 (ints .i64 ls)) (HHi : Sl w hi.1 hi.2.1 hi.2.2 1 (ints .i64 hs)) :
    call Try.prog 42 [sysv u r b, .slice lo.1 lo.2.1 lo.2.2, .slice hi.1 hi.2.1 hi.2.2, .slice m.1 m.2.1 m.2.2] (.one (.one .bool)) w (fun x w' => (x = true ↔ BndP up T rt ls hs M) ∧ bel w w') := by
  refine call_of (S42_calls u.1 u.2.1 u.2.2 r.1 r.2.1 r.2.2 b.1 b.2.1 b.2.2 lo.1 lo.2.1 lo.2.2 hi.1 hi.2.1 hi.2.2 m.1 m.2.1 m.2.2 w _ ?_)
  unfold S42
  have hu := H.u.int
  have hlo := HLo.int
  have hhi := HHi.int
  have klo := HLo.le
  have no : ∀ {w' : World}, bel w w' → (BndP up T rt ls hs M → False) → ∃ v : Bool, Value.bool false = (RS.one (.one .bool)).val v ∧ (v = true ↔ BndP up T rt ls hs M) ∧ bel w w' := fun hb q => ⟨false, rfl, ⟨fun e => (Bool.noConfusion e), fun s => (q s).elim⟩, hb⟩
  refine wr_box fun x1 w2 X h _ _ => ?_
  replace X : Box w2 x1 (sysc u r b) := X
  replace H := H.up h; replace HM := HM.up h; replace HLo := HLo.up h; replace HHi := HHi.up h
  refine rd_boxN X (by kernel_rfl) rfl ?_
  refine call_mono (combR11 u r b m up T rt M w2 H HM hI) ?_
  rintro (x4 : CT) w5 ⟨⟨q1, _, _⟩, h'⟩
  replace h := h.trans h'; replace X := X.up h'; replace H := H.up h'; replace HM := HM.up h'; replace HLo := HLo.up h'; replace HHi := HHi.up h'; clear h'
  refine boxF fun x6 w8 h2' Y _ => ?_
  replace h := h.trans h2'; replace X := X.up h2'; replace H := H.up h2'; replace HM := HM.up h2'; replace HLo := HLo.up h2'; replace HHi := HHi.up h2'; clear h2'
  refine br_ne (fun e => no h fun s => e (q1.trans s.ok)) (fun e => ?_)
  have hok : combE up T rt M = 0 := q1.symm.trans e
  obtain ⟨ce1, ce2, ce3, hfit, hfr⟩ := combE_ok hok
  have v1 := (sysE_ok ce1).1
  refine rd_box0 (by kernel_rfl) X rfl rfl ?_
  refine br_ne (fun e1 => no h fun s => ?_) (fun e1 => ?_)
  · have := s.llo; dsimp only at e1; omega
  refine rd_box0 (by kernel_rfl) X rfl rfl ?_
  refine br_ne (fun e2 => no h fun s => ?_) (fun e2 => ?_)
  · have := s.lhi; dsimp only at e2; omega
  dsimp only at e1 e2
  have l1 : ls.length = up.length := by omega
  have l3 : hs.length = up.length := by omega
  refine loop_up lo.2.1 (fun i w' => bel w8 w' ∧ (∀ j, j < i → ∀ x, ls[j]? = some x → Win x) ∧ (∀ j, j < i → ∀ x, hs[j]? = some x → Win x)) ⟨bel.refl _, pre_zero, pre_zero⟩ fun i w13 hi' ⟨hw, hq1, hq2⟩ again hag _ => ?_
  refine br_dec (fun e3 => ?_) (fun e3 => ?_)
  · dsimp only at e3
    refine at_int tyI64 (by kernel_rfl) (HLo.up hw) rfl (by omega) fun la hla => ?_
    refine call_mono (withinF la 1000000000 w13 (by omega)) ?_
    rintro _ w17 ⟨rfl, h'⟩
    replace hw := hw.trans h'
    refine br_not (fun e4 => no (h.trans hw) fun s => ?_) (fun e4 => ?_)
    · have := s.wlo la (mem_at hla); simp at e4; omega
    refine at_int tyI64 (by kernel_rfl) (HHi.up hw) rfl (by omega) fun ha hha => ?_
    refine call_mono (withinF ha 1000000000 w17 (by omega)) ?_
    rintro _ w21 ⟨rfl, h'⟩
    replace hw := hw.trans h'
    refine br_not (fun e5 => no (h.trans hw) fun s => ?_) (fun e5 => ?_)
    · have := s.whi ha (mem_at hha); simp at e5; omega
    refine z_i64 (by dsimp only; omega) ?_
    simp only [Bool.and_eq_true, decide_eq_true_eq] at e4 e5
    exact hag _ (by omega) ⟨hw, pre_step hq1 hla e4, pre_step hq2 hha e5⟩
  dsimp only at e3
  have l2 := pre_all hq1 (by omega)
  have l4 := pre_all hq2 (by omega)
  clear hq1 hq2 hag again
  replace h := h.trans hw; replace X := X.up hw; replace H := H.up hw; replace HM := HM.up hw; replace HLo := HLo.up hw; replace HHi := HHi.up hw; clear hw hi' e3
  have bnd : ∀ {x : Bool}, ((∃ (k : Nat) (a b : Int), ls[k]? = some a ∧ hs[k]? = some b ∧ b < a) ∨ rhsQ T rt M < lowN T M ls hs up.length ∨ lowN T M hs ls up.length < rhsQ T rt M ↔ x = true) → (x = true ↔ BndP up T rt ls hs M) := fun q => ⟨fun e => ⟨hok, l1, l3, l2, l4, q.2 e⟩, fun s => q.1 s.out⟩
  refine loop_up lo.2.1 (fun i w' => bel w13 w' ∧ ∀ j, j < i → ∀ a b, ls[j]? = some a → hs[j]? = some b → ¬ b < a) ⟨bel.refl _, fun j q => by omega⟩ fun i w25 hi' ⟨hw, hq⟩ again hag _ => ?_
  refine br_dec (fun e3 => ?_) (fun e3 => ?_)
  · dsimp only at e3
    refine drw_mk fun w26 h' _ => ?_
    replace hw := hw.trans h'
    refine at_int tyI64 (by kernel_rfl) (HLo.up hw) rfl (by omega) fun la hla => ?_
    refine at_int tyI64 (by kernel_rfl) (HHi.up hw) rfl (by omega) fun ha hha => ?_
    refine br_dec (fun e4 => ⟨true, rfl, bnd ⟨fun _ => rfl, fun _ => .inl ⟨i, la, ha, hla, hha, e4⟩⟩, h.trans hw⟩) (fun e4 => ?_)
    refine z_i64 (by dsimp only; omega) ?_
    refine hag _ (by omega) ⟨hw, fun j hj a b c1 c2 => ?_⟩
    rcases Nat.lt_or_ge j i with q | q
    · exact hq j q a b c1 c2
    · have : j = i := by omega
      subst this
      rw [hla] at c1; cases c1
      rw [hha] at c2; cases c2
      exact e4
  dsimp only at e3
  have nok : ¬ ∃ (k : Nat) (a b : Int), ls[k]? = some a ∧ hs[k]? = some b ∧ b < a := by
    rintro ⟨k, a, b, c1, c2, c3⟩
    exact hq k (by have := (List.getElem?_eq_some_iff.1 c1).1; omega) a b c1 c2 c3
  clear hq hag again
  replace h := h.trans hw; replace X := X.up hw; replace H := H.up hw; replace HM := HM.up hw; replace HLo := HLo.up hw; replace HHi := HHi.up hw; clear hw hi' e3
  refine rd_boxN X (by kernel_rfl) rfl ?_
  refine call_mono (comb11 u r b m up T rt M w25 H HM hI) ?_
  rintro (x33 : BT) w34 ⟨⟨_, hR⟩, h'⟩
  obtain ⟨⟨ts, hS, hts, hB⟩, hBr⟩ := hR (preE_0 ce1 ce2 ce3)
  replace h := h.trans h'; replace X := X.up h'; replace H := H.up h'; replace HM := HM.up h'; replace HLo := HLo.up h'; replace HHi := HHi.up h'; clear h'
  refine var_mk (z := .agg #[.bool false, .slice none 0 0, .slice none 0 0]) (by kernel_rfl) (by kernel_rfl) rfl rfl fun x35 w37 V hv _ => ?_
  replace V : Box w37 x35 (boxc x33.2.1) := V
  refine call_mono (wholeX 0 w37 ⟨by omega, by omega⟩) ?_
  rintro (t0 : TE) w39 ⟨hA0, _, _, h'⟩
  have hv2 := hv.trans h'
  replace V := V.up h'
  refine call_mono (wholeX 0 w39 ⟨by omega, by omega⟩) ?_
  rintro (t1 : TE) w41 ⟨hB0, _, _, h'⟩
  replace hA0 := hA0.up h'
  have hv3 := hv2.trans h'
  replace V := V.up h'
  replace hS := hS.up hv3
  replace hB : ∀ (k : Nat) t, ts[k]? = some t → BX 1000 w41 t (colQ T M k) := fun k t q => (hB k t q).up hv3
  replace hBr := hBr.up hv3
  replace h := h.trans hv3; replace X := X.up hv3; replace H := H.up hv3; replace HM := HM.up hv3; replace HLo := HLo.up hv3; replace HHi := HHi.up hv3; clear hv3
  have hln : ts.length = x33.1.2.1 := by
    have := hS.len
    rw [flat_len boxc_len] at this
    omega
  refine var2_mk (z := .agg #[.bool false, .slice none 0 0, .slice none 0 0]) (by kernel_rfl) (by kernel_rfl) (by kernel_rfl) rfl rfl rfl rfl fun x42 x44 w47 V1 V2 h' n42 n44 n4244 => ?_
  replace V1 : Box w47 x42 (boxc t0) := V1
  replace V2 : Box w47 x44 (boxc t1) := V2
  have ne : some x42.block ≠ some x44.block := by intro e; injection e; omega
  refine loop_up x33.1.2.1 (fun i w' => bel w41 w' ∧ ∃ t s : TE, Box w' x42 (boxc t) ∧ Box w' x44 (boxc s) ∧ BX (3 + 1006 * i) w' t (lowN T M ls hs i) ∧ BX (3 + 1006 * i) w' s (lowN T M hs ls i))
    ⟨h', t0, t1, V1, V2, hA0.up h', hB0.up h'⟩ fun i w50 hi' ⟨hw, t, s, V1, V2, E1, E2⟩ again hag _ => ?_
  refine br_dec (fun e3 => ?_) (fun e3 => ?_)
  · dsimp only at e3
    obtain ⟨la, hla⟩ : ∃ la, ls[i]? = some la := ⟨_, List.getElem?_eq_getElem (by omega)⟩
    obtain ⟨ha, hha⟩ : ∃ ha, hs[i]? = some ha := ⟨_, List.getElem?_eq_getElem (by omega)⟩
    obtain ⟨tc, htc⟩ : ∃ tc, ts[i]? = some tc := ⟨_, List.getElem?_eq_getElem (by omega)⟩
    have wla := l2 la (mem_at hla)
    have wha := l4 ha (mem_at hha)
    have hBq := hB i tc htc
    obtain ⟨q, hq0⟩ : ∃ q, q = colQ T M i := ⟨_, rfl⟩
    rw [← hq0] at hBq
    have st1 : lowN T M ls hs (i + 1) = lowN T M ls hs i + q * ((if q < 0 then ha else la : Int) : Rat) := by
      show lowN T M ls hs i + colQ T M i * ((pickB (colQ T M i) ls hs i : Int) : Rat) = _
      rw [pick_at hla hha, hq0]
    have st2 : lowN T M hs ls (i + 1) = lowN T M hs ls i + q * ((if q < 0 then la else ha : Int) : Rat) := by
      show lowN T M hs ls i + colQ T M i * ((pickB (colQ T M i) hs ls i : Int) : Rat) = _
      rw [pick_at hha hla, hq0]
    refine join_mk (fun _ w' => bel w41 w' ∧ ∃ t s : TE, Box w' x42 (boxc t) ∧ Box w' x44 (boxc s) ∧ BX (3 + 1006 * (i + 1)) w' t (lowN T M ls hs (i + 1)) ∧ BX (3 + 1006 * (i + 1)) w' s (lowN T M hs ls (i + 1))) (fun K hK => ?_) (fun _ w' hh _ => z_i64 (by dsimp only; omega) (hag _ (by omega) hh))
    refine drw_mk fun w55 h' _ => ?_
    have hw1 := hw.trans h'
    replace V1 := V1.up h'; replace V2 := V2.up h'; replace E1 := E1.up h'; replace E2 := E2.up h'
    have l42 := V1.lt
    have l44 := V2.lt
    refine flEx_mk (fun i _ v w' => (i = 8 → ∃ t : TE, v = exV t ∧ BX 3 w' t (la : Rat)) ∧ (i = 9 → ∃ t : TE, v = exV t ∧ BX 1004 w' t (q * (la : Rat))) ∧ (i = 18 → ∃ t : TE, v = exV t ∧ BX 3 w' t (ha : Rat)) ∧ (i = 19 → ∃ t : TE, v = exV t ∧ BX 1004 w' t (q * (ha : Rat))) ∧
        (i = 20 ∨ i = 21 → ∃ a : Addr, v = .pointer (some a) ∧ Box w' a (boxc z0) ∧ w55.heap.size ≤ a.block))
      (fun _ _ _ _ _ h hb => ⟨fun e => by obtain ⟨t, q1, q2⟩ := h.1 e; exact ⟨t, q1, q2.up hb⟩, fun e => by obtain ⟨t, q1, q2⟩ := h.2.1 e; exact ⟨t, q1, q2.up hb⟩, fun e => by obtain ⟨t, q1, q2⟩ := h.2.2.1 e; exact ⟨t, q1, q2.up hb⟩, fun e => by obtain ⟨t, q1, q2⟩ := h.2.2.2.1 e; exact ⟨t, q1, q2.up hb⟩, fun e => by obtain ⟨a, q1, q2, q3⟩ := h.2.2.2.2 e; exact ⟨a, q1, q2.up hb, q3⟩⟩) ?_
    refine at_agg tyBigs agBig boxc_len (by omega) (hS.up hw1) rfl htc rfl ?_
    refine at_int tyI64 (by kernel_rfl) (HLo.up hw1) rfl (by omega) fun a' q' => ?_
    rw [hla] at q'; cases q'
    refine flc_mk (fun w61 hb _ => call_mono (wholeX la w61 ⟨by omega, by omega⟩) fun y w' ⟨hy, _, _, hb'⟩ => ⟨hb', fun _ => ⟨y, rfl, hy⟩, fun e => by omega, fun e => by omega, fun e => by omega, fun e => by omega⟩) (fun (x65 : TE) => ?_)
    refine flc_mk (fun w66 hb hf => ?_) (fun (x70 : TE) => ?_)
    · obtain ⟨t1, e1, B1⟩ := hf.1.1 rfl
      have e1' := exV_inj (t := x65) e1
      subst e1'
      exact call_mono (timesX tc x65 _ _ 1000 3 w66 (hBq.up (hw1.trans hb)) B1 (by omega) (by omega)) fun y w' ⟨hy, _, _, hb'⟩ => ⟨hb', fun e => by omega, fun _ => ⟨y, rfl, hy⟩, fun e => by omega, fun e => by omega, fun e => by omega⟩
    refine at_agg tyBigs agBig boxc_len (by omega) (hS.up hw1) rfl htc rfl ?_
    refine at_int tyI64 (by kernel_rfl) (HHi.up hw1) rfl (by omega) fun a' q' => ?_
    rw [hha] at q'; cases q'
    refine flc_mk (fun w75 hb _ => call_mono (wholeX ha w75 ⟨by omega, by omega⟩) fun y w' ⟨hy, _, _, hb'⟩ => ⟨hb', fun e => by omega, fun e => by omega, fun _ => ⟨y, rfl, hy⟩, fun e => by omega, fun e => by omega⟩) (fun (x79 : TE) => ?_)
    refine flc_mk (fun w80 hb hf => ?_) (fun (x84 : TE) => ?_)
    · obtain ⟨t1, e1, B1⟩ := hf.1.2.2.1 rfl
      have e1' := exV_inj (t := x79) e1
      subst e1'
      exact call_mono (timesX tc x79 _ _ 1000 3 w80 (hBq.up (hw1.trans hb)) B1 (by omega) (by omega)) fun y w' ⟨hy, _, _, hb'⟩ => ⟨hb', fun e => by omega, fun e => by omega, fun e => by omega, fun _ => ⟨y, rfl, hy⟩, fun e => by omega⟩
    refine flc_mk (fun w85 hb _ => wr_alloc (z := .agg #[.bool false, .slice none 0 0, .slice none 0 0]) (by kernel_rfl) fun a w' A hb' ha' _ => ⟨hb', fun e => by omega, fun e => by omega, fun e => by omega, fun e => by omega, fun _ => ⟨a, rfl, A, by have := hb.size; omega⟩⟩) (fun x89 => ?_)
    refine flc_mk (fun w90 hb _ => wr_alloc (z := .agg #[.bool false, .slice none 0 0, .slice none 0 0]) (by kernel_rfl) fun a w' A hb' ha' _ => ⟨hb', fun e => by omega, fun e => by omega, fun e => by omega, fun e => by omega, fun _ => ⟨a, rfl, A, by have := hb.size; omega⟩⟩) (fun x94 => ?_)
    refine flend_mk fun w95 hb hf => ?_
    obtain ⟨⟨f21, f20, f19, _, f9, _⟩, hpw⟩ := hf
    obtain ⟨a94, e94, B94, n94⟩ := f21.2.2.2.2 (.inr rfl)
    obtain ⟨a89, e89, B89, n89⟩ := f20.2.2.2.2 (.inl rfl)
    obtain ⟨t84, et84, P84⟩ := f19.2.2.2.1 rfl
    obtain ⟨t70, et70, P70⟩ := f9.2.1 rfl
    have e1 := exV_inj (t := x84) et84
    have e2 := exV_inj (t := x70) et70
    injection e94 with e94
    injection e94 with e94
    injection e89 with e89
    injection e89 with e89
    subst e1 e2 e94 e89
    have hd : some x89.block ≠ some x94.block := by
      intro e
      injection e with e
      have := (List.pairwise_cons.1 hpw).1 (.pointer (some x89)) (List.mem_cons_self ..)
      apply this
      rw [B94.eq, B89.eq, e]
    replace V1 := V1.up hb; replace V2 := V2.up hb; replace E1 := E1.up hb; replace E2 := E2.up hb
    have hw2 := hw1.trans hb
    have l41 : w41.heap.size ≤ w55.heap.size := hw1.size
    have nA : ∀ {x : Addr}, x.block < w55.heap.size → some x.block ≠ some x89.block := fun q e => by injection e; omega
    have nB : ∀ {x : Addr}, x.block < w55.heap.size → some x.block ≠ some x94.block := fun q e => by injection e; omega
    refine wu_box B89 (by kernel_rfl) (Nat.le_refl 3) rfl fun w97 C89 hg _ => ?_
    replace C89 : Box w97 x89 (boxc x70) := C89
    have C94 := B94.grown hg (fun e => hd e.symm)
    have R70 := P70.put B89 hg
    have R84 := P84.put B89 hg
    have W1 := V1.grown hg (nA l42)
    have W2 := V2.grown hg (nA l44)
    have F1 := E1.put B89 hg
    have F2 := E2.put B89 hg
    have hw3 := hw2.grownAt hg (by omega)
    refine wu_box C94 (by kernel_rfl) (Nat.le_refl 3) rfl fun w98 D94 hg2 _ => ?_
    replace D94 : Box w98 x94 (boxc x84) := D94
    have D89 := C89.grown hg2 hd
    replace R70 := R70.put C94 hg2
    replace R84 := R84.put C94 hg2
    replace W1 := W1.grown hg2 (nB l42)
    replace W2 := W2.grown hg2 (nB l44)
    replace F1 := F1.put C94 hg2
    replace F2 := F2.put C94 hg2
    have hw4 := hw3.grownAt hg2 (by omega)
    refine join_mk (fun _ w' => bel w41 w' ∧ Box w' x42 (boxc t) ∧ Box w' x44 (boxc s) ∧ BX (3 + 1006 * i) w' t (lowN T M ls hs i) ∧ BX (3 + 1006 * i) w' s (lowN T M hs ls i) ∧ ∃ ta tb : TE, Box w' x89 (boxc ta) ∧ Box w' x94 (boxc tb) ∧ BX 1004 w' ta (q * ((if q < 0 then ha else la : Int) : Rat)) ∧ BX 1004 w' tb (q * ((if q < 0 then la else ha : Int) : Rat))) (fun K' hK' => ?_) (fun _ w101 hh _ => ?_)
    · refine at_agg tyBigs agBig boxc_len (by omega) (hS.up hw4) rfl htc rfl ?_
      refine call_mono (signX tc q _ w98 (hBq.up hw4) (by omega)) ?_
      rintro _ w122 ⟨rfl, h'⟩
      replace hw4 := hw4.trans h'
      replace D94 := D94.up h'; replace D89 := D89.up h'; replace R70 := R70.up h'; replace R84 := R84.up h'; replace W1 := W1.up h'; replace W2 := W2.up h'; replace F1 := F1.up h'; replace F2 := F2.up h'
      refine br_dec (fun e5 => ?_) (fun e5 => ?_)
      · have qn := rsign_neg.1 e5
        refine rd_boxN D94 (by kernel_rfl) rfl ?_
        refine rd_boxN D89 (by kernel_rfl) rfl ?_
        refine wu_box D89 (by kernel_rfl) (Nat.le_refl 3) rfl fun w125 G89 hg3 _ => ?_
        replace G89 : Box w125 x89 (boxc x84) := G89
        have G94 := D94.grown hg3 (fun e => hd e.symm)
        replace R70 := R70.put D89 hg3
        replace R84 := R84.put D89 hg3
        replace W1 := W1.grown hg3 (nA l42)
        replace W2 := W2.grown hg3 (nA l44)
        replace F1 := F1.put D89 hg3
        replace F2 := F2.put D89 hg3
        have hw5 := hw4.grownAt hg3 (by omega)
        refine wu_box G94 (by kernel_rfl) (Nat.le_refl 3) rfl fun w126 I94 hg4 _ => ?_
        replace I94 : Box w126 x94 (boxc x70) := I94
        refine hK' _ _ ⟨hw5.grownAt hg4 (by omega), W1.grown hg4 (nB l42), W2.grown hg4 (nB l44), F1.put G94 hg4, F2.put G94 hg4, x84, x70, G89.grown hg4 hd, I94, ?_, ?_⟩
        · rw [if_pos qn]; exact R84.put G94 hg4
        · rw [if_pos qn]; exact R70.put G94 hg4
      · have qn : ¬ q < 0 := fun c => e5 (rsign_neg.2 c)
        refine hK' _ _ ⟨hw4, W1, W2, F1, F2, x70, x84, D89, D94, ?_, ?_⟩
        · rw [if_neg qn]; exact R70
        · rw [if_neg qn]; exact R84
    · obtain ⟨hw5, W1, W2, F1, F2, ta, tb, A1, A2, Q1, Q2⟩ := hh
      refine drw_mk fun w102 h' _ => ?_
      replace hw5 := hw5.trans h'
      replace W1 := W1.up h'; replace W2 := W2.up h'; replace F1 := F1.up h'; replace F2 := F2.up h'; replace A1 := A1.up h'; replace A2 := A2.up h'; replace Q1 := Q1.up h'; replace Q2 := Q2.up h'
      refine flEx_mk (fun _ _ v w' => ∃ y : TE, v = exV y ∧ BX (3 + 1006 * (i + 1)) w' y (lowN T M ls hs (i + 1))) (fun _ _ _ _ _ ⟨y, q1, q2⟩ hb => ⟨y, q1, q2.up hb⟩) ?_
      refine rd_boxN W1 (by kernel_rfl) rfl ?_
      refine rd_boxN A1 (by kernel_rfl) rfl ?_
      refine flc_mk (fun w106 hb _ => call_mono (plusX t ta _ _ (3 + 1006 * i) 1004 w106 (F1.up hb) (Q1.up hb) (by omega) (by omega)) fun y w' ⟨hy, _, _, hb'⟩ => ⟨hb', y, rfl, by rw [st1]; exact BX.le hy (by omega)⟩) (fun (x110 : TE) => ?_)
      refine rd_boxN W2 (by kernel_rfl) rfl ?_
      refine rd_boxN A2 (by kernel_rfl) rfl ?_
      refine flend_mk fun w113 hb hf => ?_
      obtain ⟨⟨y, ey, By⟩, _⟩ := hf
      have ey' := exV_inj (t := x110) ey
      subst ey'
      refine call_mono (plusX s tb _ _ (3 + 1006 * i) 1004 w113 (F2.up hb) (Q2.up hb) (by omega) (by omega)) ?_
      rintro (x115 : TE) w116 ⟨hy, _, _, h2'⟩
      have hy2 : BX (3 + 1006 * (i + 1)) w116 x115 (lowN T M hs ls (i + 1)) := by rw [st2]; exact BX.le hy (by omega)
      replace By := By.up h2'
      have hw6 := (hw5.trans hb).trans h2'
      replace W1 := (W1.up hb).up h2'; replace W2 := (W2.up hb).up h2'
      refine wu_box W1 (by kernel_rfl) (Nat.le_refl 3) rfl fun w117 U1 hg _ => ?_
      replace U1 : Box w117 x42 (boxc x110) := U1
      have U2 := W2.grown hg (fun e => ne e.symm)
      have By2 := By.put W1 hg
      have hy3 := hy2.put W1 hg
      have hw7 := hw6.grownAt hg n42
      refine wu_box U2 (by kernel_rfl) (Nat.le_refl 3) rfl fun w118 T2 hg2 _ => ?_
      exact hK _ _ ⟨hw7.grownAt hg2 n44, x110, x115, U1.grown hg2 ne, T2, By2.put U2 hg2, hy3.put U2 hg2⟩
  · dsimp only at e3
    have hi2 : i = up.length := by omega
    subst hi2
    refine rd_boxN (V.up hw) (by kernel_rfl) rfl ?_
    refine rd_boxN V1 (by kernel_rfl) rfl ?_
    refine call_mono (lessX x33.2.1 t _ _ 1000 (3 + 1006 * up.length) w50 (hBr.up hw) E1 (by omega) (by omega)) ?_
    rintro _ w130 ⟨rfl, h'⟩
    replace V1 := V1.up h'; replace V2 := V2.up h'; replace E1 := E1.up h'; replace E2 := E2.up h'
    have hw1 := hw.trans h'
    refine br_dec (fun e5 => ⟨true, rfl, bnd ⟨fun _ => rfl, fun _ => .inr (.inl (less_iff.1 e5))⟩, h.trans hw1⟩) (fun e5 => ?_)
    refine rd_boxN V2 (by kernel_rfl) rfl ?_
    refine rd_boxN (V.up hw1) (by kernel_rfl) rfl ?_
    refine call_mono (lessX s x33.2.1 _ _ (3 + 1006 * up.length) 1000 w130 E2 (hBr.up hw1) (by omega) (by omega)) ?_
    rintro _ w134 ⟨rfl, h'⟩
    refine ⟨_, rfl, bnd ⟨fun q => ?_, fun q => .inr (.inr (less_iff.1 (of_decide_eq_true q)))⟩, h.trans (hw1.trans h')⟩
    rcases q with q | q | q
    · exact absurd q nok
    · exact absurd (less_iff.2 q) e5
    · exact decide_eq_true (less_iff.2 q)
end Go.Proofs.Ytajpdnphamomjaa

/- The walk of LinearRaw. -/

namespace Go.Proofs.Ytajpdnphamomjaa
open Go.RowKit Go.Q Go.Q.Num Go.V

theorem CombR.same {up : List Int} {T : List (List Int)} {rt : List Int} {M : List (Int × Int)} {x y : CT} {w : World} (h : CombR up T rt M x w) (h' : CombR up T rt M y w) :
    x.2.1 = y.2.1 ∧ x.2.2.1 = y.2.2.1 ∧ ∃ L : List (Int × Int), Sl w x.1.1 x.1.2.1 x.1.2.2 2 (L.flatMap encF) ∧ Sl w y.1.1 y.1.2.1 y.1.2.2 2 (L.flatMap encF) := by
  obtain ⟨h1, h2, h3⟩ := h
  obtain ⟨g1, g2, g3⟩ := h'
  by_cases e : combE up T rt M = 0
  · obtain ⟨a, b⟩ := h2 e
    obtain ⟨c, d⟩ := g2 e
    exact ⟨by rw [b, d], by rw [h1, g1], _, a, c⟩
  · obtain ⟨a, b⟩ := h3 e
    obtain ⟨c, d⟩ := g3 e
    refine ⟨by rw [b, d], by rw [h1, g1], [], ?_, ?_⟩
    · rw [a]; exact Sl.nil _ _
    · rw [c]; exact Sl.nil _ _
theorem litF {n d : Int} {w : World} {k : Hdr → World → Prop} (hk : ∀ (x : Hdr) w', bel w w' → Sl w' x.1 x.2.1 x.2.2 2 (([(n, d)] : List (Int × Int)).flatMap encF) → k x w') : wr Try.prog (Instr.buildSlice 33 1 #[(0, .agg #[.int .i64 n, .int .i64 d])]) (.one .slice) w k :=
  wr_lit tyFracs #[.int .i64 n, .int .i64 d] (fill_one 2 (.agg #[.int .i64 n, .int .i64 d]) _ rfl (by simp)) (by omega) (by omega) rfl (by unfold maxLen; omega) fun ad w' O hb _ _ => hk (some ad, 1, 1) w' hb (O w.heap.size (Nat.le_refl _)).sl
theorem frac12 : IsFrac 1 2 := ⟨by omega, by omega, by omega, by omega, rfl⟩
theorem lat_ex : LatP [1] [[2]] [1] [(1, 2)] := by
  have c : colQ [[2]] [(1, 2)] 0 = 1 := by
    show (0 : Rat) + ratv 1 2 * ((2 : Int) : Rat) = 1
    kernel_rfl
  have d : rhsQ [[2]] [1] [(1, 2)] = mkRat 1 2 := by
    show (0 : Rat) + ratv 1 2 * ((1 : Int) : Rat) = mkRat 1 2
    kernel_rfl
  have e : sysE [1] [[2]] [1] = 0 := sysE_0 (by simp) (by simp) ⟨by simp, by simp, by simp⟩ ⟨rfl, by simp⟩
  refine ⟨combE_0 e rfl (fun p hp => ?_) ⟨fun k hk => ?_, ?_⟩, fun p hp => ?_, ?_⟩
  · simp at hp; subst hp; exact frac12
  · have : k = 0 := by simp at hk; omega
    subst this
    rw [c]; exact ⟨by decide, by decide, by decide⟩
  · rw [d]; exact ⟨by decide, by decide, by decide⟩
  · have : cols [1] [[2]] [(1, 2)] 1 = [fpair (colQ [[2]] [(1, 2)] 0)] := rfl
    have hp' : p ∈ cols [1] [[2]] [(1, 2)] 1 := hp
    rw [this, c] at hp'
    simp at hp'
    subst hp'
    rfl
  · rw [d]; decide

set_option maxHeartbeats 1600000 in
theorem linRaw (u r b m lo hi : Hdr) (up : List Int) (T : List (List Int)) (rt ls hs : List Int) (M : List (Int × Int)) (w : World) (H : Sys w u r b up T rt) (HM : Sl w m.1 m.2.1 m.2.2 2 (M.flatMap encF)) (hI : ∀ p ∈ M, I64 p.1 ∧ I64 p.2)
    (HLo : Sl w lo.1 lo.2.1 lo.2.2 1 (ints .i64 ls)) (HHi : Sl w hi.1 hi.2.1 hi.2.2 1 (ints .i64 hs)) :
    Calls Try.prog 9 #[sysv u r b, .slice m.1 m.2.1 m.2.2, .slice lo.1 lo.2.1 lo.2.2, .slice hi.1 hi.2.1 hi.2.2] w (fun e w' => e = .returned (.bool true) ∧ Below w.heap.size w w') := by
  refine Calls.mono (S9_calls u.1 u.2.1 u.2.2 r.1 r.2.1 r.2.2 b.1 b.2.1 b.2.2 m.1 m.2.1 m.2.2 lo.1 lo.2.1 lo.2.2 hi.1 hi.2.1 hi.2.2 w (fun v w' => v = .bool true ∧ bel w w') ?_) (by rintro e w' ⟨v, rfl, rfl, hb⟩; exact ⟨rfl, hb⟩)
  unfold S9
  refine wr_box fun x1 w2 X h _ _ => ?_
  replace X : Box w2 x1 (sysc u r b) := X
  replace H := H.up h; replace HM := HM.up h; replace HLo := HLo.up h; replace HHi := HHi.up h
  refine rd_boxN X (by kernel_rfl) rfl ?_
  refine call_mono (fewS u r b up T rt w2 H) ?_
  rintro x4 w5 ⟨_, h'⟩
  replace h := h.trans h'; replace X := X.up h'; replace H := H.up h'; replace HM := HM.up h'; replace HLo := HLo.up h'; replace HHi := HHi.up h'; clear h'
  refine br_not (fun _ => ⟨rfl, h⟩) (fun _ => ?_)
  refine br_dec (fun _ => ⟨rfl, h⟩) (fun _ => ?_)
  refine br_dec (fun _ => ⟨rfl, h⟩) (fun _ => ?_)
  refine br_dec (fun _ => ⟨rfl, h⟩) (fun _ => ?_)
  refine rd_boxN X (by kernel_rfl) rfl ?_
  refine call_mono (combL u r b m up T rt M w5 H HM hI) ?_
  rintro (x7 : CT) w8 ⟨C1, h'⟩
  replace h := h.trans h'; replace X := X.up h'; replace H := H.up h'; replace HM := HM.up h'; replace HLo := HLo.up h'; replace HHi := HHi.up h'; clear h'
  refine boxF fun x9 w11 h' Y _ => ?_
  replace C1 := C1.up h'
  replace h := h.trans h'; replace X := X.up h'; replace H := H.up h'; replace HM := HM.up h'; replace HLo := HLo.up h'; replace HHi := HHi.up h'; clear h'
  refine rd_boxN X (by kernel_rfl) rfl ?_
  refine call_mono (combR11 u r b m up T rt M w11 H HM hI) ?_
  rintro (x13 : CT) w14 ⟨C2, h'⟩
  replace C1 := C1.up h'
  replace h := h.trans h'; replace X := X.up h'; replace H := H.up h'; replace HM := HM.up h'; replace HLo := HLo.up h'; replace HHi := HHi.up h'; replace Y := Y.up h'; clear h'
  refine boxF fun x15 w17 h' Z _ => ?_
  replace C1 := C1.up h'; replace C2 := C2.up h'
  replace h := h.trans h'; replace X := X.up h'; replace H := H.up h'; replace HM := HM.up h'; replace HLo := HLo.up h'; replace HHi := HHi.up h'; replace Y := Y.up h'; clear h'
  refine drw_mk fun w18 h' _ => ?_
  replace C1 := C1.up h'; replace C2 := C2.up h'
  replace h := h.trans h'; replace X := X.up h'; replace H := H.up h'; replace HM := HM.up h'; replace HLo := HLo.up h'; replace HHi := HHi.up h'; replace Y := Y.up h'; replace Z := Z.up h'; clear h'
  obtain ⟨s1, s2, L, L1, L2⟩ := C1.same C2
  refine flEx_mk (fun i _ v w' => (i = 2 → v = .bool true) ∧ (i = 18 ∨ i = 23 → ∃ c, v = .bool c ∧ (c = true ↔ BndP up T rt ls hs M)) ∧ (i = 29 ∨ i = 32 → ∃ c, v = .bool c ∧ (c = true ↔ LatP up T rt M)) ∧ (i = 36 ∨ i = 39 → ∃ h : Hdr, v = hv h ∧ Sl w' h.1 h.2.1 h.2.2 1 (ints .i64 [1])) ∧ (i = 37 → ∃ h : Hdr, v = hv h ∧ Sl w' h.1 h.2.1 h.2.2 1 (ints .i64 [2])) ∧
      (i = 38 → ∃ h : Hdr, v = hv h ∧ TabI .i64 w' h [[2]]) ∧ (i = 42 → ∃ h : Hdr, v = hv h ∧ Sl w' h.1 h.2.1 h.2.2 2 (([(1, 2)] : List (Int × Int)).flatMap encF)))
    (fun _ _ _ _ _ h hb => ⟨h.1, h.2.1, h.2.2.1, fun e => by obtain ⟨t, q1, q2⟩ := h.2.2.2.1 e; exact ⟨t, q1, q2.kept hb⟩, fun e => by obtain ⟨t, q1, q2⟩ := h.2.2.2.2.1 e; exact ⟨t, q1, q2.kept hb⟩, fun e => by obtain ⟨t, q1, q2⟩ := h.2.2.2.2.2.1 e; exact ⟨t, q1, q2.up hb⟩, fun e => by obtain ⟨t, q1, q2⟩ := h.2.2.2.2.2.2 e; exact ⟨t, q1, q2.kept hb⟩⟩) ?_
  refine flc_mk (fun w20 hb _ => call_mono (sameF x7.1 x13.1 L w20 (L1.up hb) (L2.up hb)) fun y w' ⟨hy, hb'⟩ => ⟨hb', fun _ => by rw [hy], fun e => by omega, fun e => by omega, fun e => by omega, fun e => by omega, fun e => by omega, fun e => by omega⟩) (fun x24 => ?_)
  have tr : ∀ {c : Bool} {P : Prop}, Value.bool c = .bool true → c = false → P := fun a b => by injection a with a; rw [a] at b; cases b
  refine br_mk (fun e1 => ?_) (fun e1 => flend_mk fun w89 hb hf => tr (hf.1.1 rfl) e1)
  refine rd_boxN Y (by kernel_rfl) rfl ?_
  rw [s1] at *
  refine rd_boxN Z (by kernel_rfl) rfl ?_
  refine rd_eq_same ?_
  refine br_t rfl ?_
  refine br_t (by rw [s2]; simp) ?_
  refine rd_boxN X (by kernel_rfl) rfl ?_
  refine flc_mk (fun w29 hb _ => call_mono (bndL u r b lo hi m up T rt ls hs M w29 (H.up hb) (HM.up hb) hI (HLo.up hb) (HHi.up hb)) fun y w' ⟨hy, hb'⟩ => ⟨hb', fun e => by omega, fun _ => ⟨y, rfl, hy⟩, fun e => by omega, fun e => by omega, fun e => by omega, fun e => by omega, fun e => by omega⟩) (fun x33 => ?_)
  refine rd_boxN X (by kernel_rfl) rfl ?_
  refine flc_mk (fun w35 hb _ => call_mono (bnd11 u r b lo hi m up T rt ls hs M w35 (H.up hb) (HM.up hb) hI (HLo.up hb) (HHi.up hb)) fun y w' ⟨hy, hb'⟩ => ⟨hb', fun e => by omega, fun _ => ⟨y, rfl, hy⟩, fun e => by omega, fun e => by omega, fun e => by omega, fun e => by omega, fun e => by omega⟩) (fun x39 => ?_)
  have same : ∀ {P Q : Prop} {a c : Bool}, (∃ d, Value.bool a = .bool d ∧ (d = true ↔ P)) → (∃ d, Value.bool c = .bool d ∧ (d = true ↔ P)) → (a == c) = false → Q := by
    rintro P Q a c ⟨d, hd, hd2⟩ ⟨e, he, he2⟩ hne
    injection hd with hd; injection he with he
    subst hd he
    have := iff_eq hd2 he2
    subst this
    cases a <;> cases hne
  refine br_mk (fun e2 => ?_) (fun e2 => flend_mk fun w83 hb hf => same (hf.2.1.2.1 (.inl rfl)) (hf.1.2.1 (.inr rfl)) e2)
  refine rd_boxN X (by kernel_rfl) rfl ?_
  refine flc_mk (fun w41 hb _ => call_mono (latL u r b m up T rt M w41 (H.up hb) (HM.up hb) hI) fun y w' ⟨hy, hb'⟩ => ⟨hb', fun e => by omega, fun e => by omega, fun _ => ⟨y, rfl, hy⟩, fun e => by omega, fun e => by omega, fun e => by omega, fun e => by omega⟩) (fun x45 => ?_)
  refine rd_boxN X (by kernel_rfl) rfl ?_
  refine flc_mk (fun w47 hb _ => call_mono (lat11 u r b m up T rt M w47 (H.up hb) (HM.up hb) hI) fun y w' ⟨hy, hb'⟩ => ⟨hb', fun e => by omega, fun e => by omega, fun _ => ⟨y, rfl, hy⟩, fun e => by omega, fun e => by omega, fun e => by omega, fun e => by omega⟩) (fun x51 => ?_)
  refine br_mk (fun e3 => ?_) (fun e3 => flend_mk fun w81 hb hf => same (hf.2.1.2.2.1 (.inl rfl)) (hf.1.2.2.1 (.inr rfl)) e3)
  refine flc_mk (fun w52 hb _ => litI fun y w' hb' hS => ⟨hb', fun e => by omega, fun e => by omega, fun e => by omega, fun _ => ⟨y, rfl, hS⟩, fun e => by omega, fun e => by omega, fun e => by omega⟩) (fun (x56 : Hdr) => ?_)
  refine flc_mk (fun w57 hb _ => litI fun y w' hb' hS => ⟨hb', fun e => by omega, fun e => by omega, fun e => by omega, fun e => by omega, fun _ => ⟨y, rfl, hS⟩, fun e => by omega, fun e => by omega⟩) (fun (x61 : Hdr) => ?_)
  refine flc_mk (fun w62 hb hf => ?_) (fun (x66 : Hdr) => ?_)
  · obtain ⟨y, hy, hS⟩ := hf.1.2.2.2.2.1 rfl
    have := sl_inj hy
    subst this
    exact litT hS fun y w' hb' hT => ⟨hb', fun e => by omega, fun e => by omega, fun e => by omega, fun e => by omega, fun e => by omega, fun _ => ⟨y, rfl, hT⟩, fun e => by omega⟩
  refine flc_mk (fun w67 hb _ => litI fun y w' hb' hS => ⟨hb', fun e => by omega, fun e => by omega, fun e => by omega, fun _ => ⟨y, rfl, hS⟩, fun e => by omega, fun e => by omega, fun e => by omega⟩) (fun (x71 : Hdr) => ?_)
  refine flc_mk (fun w72 hb _ => litF fun y w' hb' hS => ⟨hb', fun e => by omega, fun e => by omega, fun e => by omega, fun e => by omega, fun e => by omega, fun e => by omega, fun _ => ⟨y, rfl, hS⟩⟩) (fun (x76 : Hdr) => ?_)
  refine flend_mk fun w77 hb hf => ?_
  obtain ⟨f42, f39, f38, _, f36, _⟩ := hf
  obtain ⟨a1, e1, S1⟩ := f42.2.2.2.2.2.2 rfl
  obtain ⟨a2, e2, S2⟩ := f39.2.2.2.1 (.inr rfl)
  obtain ⟨a3, e3, S3⟩ := f38.2.2.2.2.2.1 rfl
  obtain ⟨a4, e4, S4⟩ := f36.2.2.2.1 (.inl rfl)
  have q1 := sl_inj e1
  have q2 := sl_inj e2
  have q3 := sl_inj e3
  have q4 := sl_inj e4
  subst q1 q2 q3 q4
  refine call_mono (latL x56 x66 x71 x76 [1] [[2]] [1] [(1, 2)] w77 ⟨S4, S3, S2⟩ S1 (fun p hp => by simp at hp; subst hp; exact ⟨⟨by decide, by decide⟩, ⟨by decide, by decide⟩⟩)) ?_
  rintro x79 w80 ⟨hx, h'⟩
  exact ⟨by rw [hx.2 lat_ex], (h.trans hb).trans h'⟩
end Go.Proofs.Ytajpdnphamomjaa
