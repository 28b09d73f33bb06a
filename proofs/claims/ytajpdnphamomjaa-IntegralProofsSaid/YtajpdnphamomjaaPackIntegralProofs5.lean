import Derived.KernelRfl
import Derived.Laws.CopyRow
import Derived.Test.YtajpdnphamomjaaPackIntegralProofs4

/- Combinations of rows: the reference. -/

namespace Go.Proofs.Ytajpdnphamomjaa
open Go.RowKit Go.Q Go.Q.Num Go.V

theorem tyBigs : TyS Try.prog 112 90 (.agg #[.bool false, .slice none 0 0, .slice none 0 0]) 3 56 := ⟨by kernel_rfl, by kernel_rfl⟩
theorem agBig : aggOf Try.prog 90 3 = true := by kernel_rfl
theorem boxc_len (t : TE) : (boxc t).length = 3 := rfl
/-- digits that lie in no block of a kind -/
abbrev OffQ (o : Option Nat) (t : TE) (r : Rat) : Prop := (∀ ad, t.2.1.1 = some ad → r.num.natAbs ≠ 0 → some ad.block ≠ o) ∧ (∀ ad, t.2.2.1.1 = some ad → r.den ≠ 0 → some ad.block ≠ o)
theorem BX.grownO {L : Nat} {w w' : World} {t : TE} {r : Rat} {o : Option Nat} (h : BX L w t r) (ha : OffQ o t r) (hg : w.grownBy w' o) : BX L w' t r :=
  ⟨h.1, NumAt.grown h.2.1 hg fun a q hv _ => ha.1 a q hv, NumAt.grown h.2.2.1 hg fun a q hv _ => ha.2 a q hv, h.2.2.2⟩
abbrev FrT (w : World) (t : TE) : Prop := Fr w t.2.1.1 ∧ Fr w t.2.2.1.1
theorem FrT.mono {w w' : World} {t : TE} (h : FrT w' t) (hb : w.heap.size ≤ w'.heap.size) : FrT w t := ⟨Fr.mono h.1 hb, Fr.mono h.2 hb⟩
theorem FrT.off {w : World} {t : TE} (h : FrT w t) {o : Option Nat} (ho : ∀ k, o = some k → k < w.heap.size) (r : Rat) : OffQ o t r :=
  ⟨fun ad ha _ e => by have := h.1 ad ha; have := ho _ e.symm; omega, fun ad ha _ e => by have := h.2 ad ha; have := ho _ e.symm; omega⟩
theorem BX.offNew {L : Nat} {w : World} {t : TE} {r : Rat} (h : BX L w t r) {o : Option Nat} (ho : ∀ k, o = some k → w.heap.size ≤ k) : OffQ o t r :=
  ⟨fun ad ha hv e => by have := NumAt.lt_heap h.2.1 hv ad ha; have := ho _ e.symm; omega, fun ad ha hv e => by have := NumAt.lt_heap h.2.2.1 hv ad ha; have := ho _ e.symm; omega⟩

def preE (up : List Int) (T : List (List Int)) (rt : List Int) (M : List (Int × Int)) : Int :=
  if sysE up T rt ≠ 0 then sysE up T rt else if M.length ≠ T.length then 9 else if ∀ p ∈ M, IsFrac p.1 p.2 then 0 else 1
section
variable {up : List Int} {T : List (List Int)} {rt : List Int} {M : List (Int × Int)}
theorem preE_1 (h : sysE up T rt ≠ 0) : preE up T rt M = sysE up T rt := by unfold preE; rw [if_pos h]
theorem preE_2 (h : sysE up T rt = 0) (h2 : M.length ≠ T.length) : preE up T rt M = 9 := by unfold preE; rw [if_neg (by omega), if_pos h2]
theorem preE_3 (h : sysE up T rt = 0) (h2 : M.length = T.length) (h3 : ¬ ∀ p ∈ M, IsFrac p.1 p.2) : preE up T rt M = 1 := by unfold preE; rw [if_neg (by omega), if_neg (by omega), if_neg h3]
theorem preE_0 (h : sysE up T rt = 0) (h2 : M.length = T.length) (h3 : ∀ p ∈ M, IsFrac p.1 p.2) : preE up T rt M = 0 := by unfold preE; rw [if_neg (by omega), if_neg (by omega), if_pos h3]
theorem preE_ok (h : preE up T rt M = 0) : sysE up T rt = 0 ∧ M.length = T.length ∧ (∀ p ∈ M, IsFrac p.1 p.2) := by
  by_cases h1 : sysE up T rt = 0
  · by_cases h2 : M.length = T.length
    · by_cases h3 : ∀ p ∈ M, IsFrac p.1 p.2
      · exact ⟨h1, h2, h3⟩
      · rw [preE_3 h1 h2 h3] at h; omega
    · rw [preE_2 h1 h2] at h; omega
  · rw [preE_1 h1] at h; exact absurd h h1
theorem combE_pre (h : preE up T rt M ≠ 0) : combE up T rt M = preE up T rt M := by
  by_cases h1 : sysE up T rt = 0
  · by_cases h2 : M.length = T.length
    · by_cases h3 : ∀ p ∈ M, IsFrac p.1 p.2
      · exact absurd (preE_0 h1 h2 h3) h
      · rw [preE_3 h1 h2 h3, combE_3 h1 h2 h3]
    · rw [preE_2 h1 h2, combE_2 h1 h2]
  · rw [preE_1 h1, combE_1 h1]
end
abbrev BT := Hdr × TE × Int × Unit
abbrev rBT : RS := .many [.one .slice, sBig, .one (.int .i64)]
def BigR (up : List Int) (T : List (List Int)) (rt : List Int) (M : List (Int × Int)) (x : BT) (w : World) : Prop :=
  x.2.2.1 = preE up T rt M ∧ (preE up T rt M = 0 → (∃ ts : List TE, Sl w x.1.1 x.1.2.1 x.1.2.2 3 (ts.flatMap boxc) ∧ ts.length = up.length ∧ ∀ (k : Nat) t, ts[k]? = some t → BX 1000 w t (colQ T M k)) ∧ BX 1000 w x.2.1 (rhsQ T rt M))

set_option maxHeartbeats 3200000 in
theorem comb11 (u r b m : Hdr) (up : List Int) (T : List (List Int)) (rt : List Int) (M : List (Int × Int)) (w : World) (H : Sys w u r b up T rt) (HM : Sl w m.1 m.2.1 m.2.2 2 (M.flatMap encF)) (hI : ∀ p ∈ M, I64 p.1 ∧ I64 p.2) :
    call Try.prog 90 [sysv u r b, .slice m.1 m.2.1 m.2.2] rBT w (fun x w' => BigR up T rt M x w' ∧ bel w w') := by
  refine call_of (S90_calls u.1 u.2.1 u.2.2 r.1 r.2.1 r.2.2 b.1 b.2.1 b.2.2 m.1 m.2.1 m.2.2 w _ ?_)
  unfold S90
  have hu := H.u.int
  have hT := H.r.len
  have hb := H.b.int
  have hm := fr_len HM
  have km := HM.le
  refine wr_box fun x1 w2 X h _ _ => ?_
  replace X : Box w2 x1 (sysc u r b) := X
  replace H := H.up h; replace HM := HM.up h
  refine wr_alloc (z := .agg #[.bool false, .slice none 0 0, .slice none 0 0]) (by kernel_rfl) fun x3 w4 Z h' hz _ => ?_
  have hne : w.heap.size ≤ x3.block := by rw [hz]; exact h.size
  replace h := h.trans h'; replace X := X.up h'; replace H := H.up h'; replace HM := HM.up h'; clear h'
  have bad : ∀ {w' : World} {e : Int} {cs : List Value}, cs.length = 3 → bel w w' → Box w' x3 cs → preE up T rt M = e → e ≠ 0 →
      wu Try.prog (Instr.storeAt 90 (.pointer (some x3)) (.agg #[.bool false, .slice none 0 0, .slice none 0 0])) w' fun w10 => rd Try.prog (loadVar 90 x3) (.agg [.bool, .slice, .slice]) w10 fun (x11 : TE) =>
        ∃ x : BT, Value.tuple #[.slice none 0 0, .agg #[.bool x11.1, .slice x11.2.1.1 x11.2.1.2.1 x11.2.1.2.2, .slice x11.2.2.1.1 x11.2.2.1.2.1 x11.2.2.1.2.2], .int .i64 e] = rBT.val x ∧ BigR up T rt M x w10 ∧ bel w w10 := by
    intro w' e cs hl h Z he h0
    refine wu_box Z (by kernel_rfl) (by rw [hl]; exact Nat.le_refl 3) rfl fun w5 Z' hg _ => ?_
    have Z2 : Box w5 x3 [.bool false, .slice none 0 0, .slice none 0 0] := by
      match cs, hl with
      | [_, _, _], _ => exact Z'
    exact rd_boxV Z2 (by kernel_rfl) rfl ⟨(((none, 0, 0), (false, (none, 0, 0), (none, 0, 0), ()), e, ()) : BT), rfl, ⟨he.symm, fun q => absurd (he.symm.trans q) h0⟩, h.grownAt hg hne⟩
  refine rd_boxN X (by kernel_rfl) rfl ?_
  refine call_mono (valid11 u r b up T rt w4 H) ?_
  rintro x6 w7 ⟨rfl, h'⟩
  replace h := h.trans h'; replace X := X.up h'; replace H := H.up h'; replace HM := HM.up h'; replace Z := Z.up h'; clear h'
  refine br_ne (fun e0 => bad rfl h Z (preE_1 e0) e0) (fun e0 => ?_)
  obtain ⟨v1, v2, v3, v4⟩ := sysE_ok e0
  refine rd_box (by kernel_rfl) X (i := 1) rfl rfl ?_
  refine br_ne (fun e1 => bad rfl h Z (preE_2 e0 (by dsimp only at e1; omega)) (by omega)) (fun e1 => ?_)
  dsimp only at e1
  have hML : M.length = T.length := by omega
  refine loop_up m.2.1 (fun i w' => bel w7 w' ∧ ∀ j, j < i → ∀ p, M[j]? = some p → IsFrac p.1 p.2) ⟨bel.refl _, pre_zero⟩ fun i w15 hi ⟨hw, hq⟩ again hag _ => ?_
  refine br_dec (fun e => ?_) (fun e => ?_)
  · dsimp only at e
    obtain ⟨p, hp⟩ : ∃ p, M[i]? = some p := ⟨_, List.getElem?_eq_getElem (by omega)⟩
    have hpi := hI p (mem_at hp)
    refine at_frac (HM.up hw) rfl hp ?_
    refine call_mono (callB (valid10 p.1 p.2 w15 hpi.1.1 hpi.1.2 hpi.2.1 hpi.2.2)) ?_
    rintro _ w19 ⟨rfl, h'⟩
    replace hw := hw.trans h'
    refine br_not (fun ev => bad rfl (h.trans hw) (Z.up hw) (preE_3 e0 hML fun q => ?_) (by omega)) (fun ev => ?_)
    · rw [decide_eq_true (q p (mem_at hp))] at ev; cases ev
    refine z_i64 (by dsimp only; omega) ?_
    exact hag _ (by omega) ⟨hw, pre_step hq hp (of_decide_eq_true ev)⟩
  dsimp only at e
  have hF := pre_all hq (by omega)
  clear hq hag again
  replace h := h.trans hw; replace X := X.up hw; replace H := H.up hw; replace HM := HM.up hw; replace Z := Z.up hw; clear hw hi e
  have Z0 := Z.lt
  -- a step of a sum
  have term : ∀ (x : Addr) (col : List Int) (k : Nat) (p : Int × Int) (c : Int) (t : TE) (w65 w5 : World), M[k]? = some p → col[k]? = some c → I64 c → k < 200 → bel w15 w65 → bel w5 w65 → w5.heap.size ≤ x.block → Box w65 x (boxc t) → BX (3 + 9 * k) w65 t (dotN col M k) →
      ∀ (x74 x84 x89 : TE) (w90 : World), bel w65 w90 → BX 7 w90 x89 (ratv p.1 p.2 * (c : Rat)) → ∀ K : World → Prop, (∀ (y : TE) w94, bel w5 w94 → Box w94 x (boxc y) → BX (3 + 9 * (k + 1)) w94 y (dotN col M (k + 1)) → ApT x y (dotN col M (k + 1)) → FrT w65 y → K w94) →
      call Try.prog 62 [exV t, exV x89] (.one sBig) w90 fun (x92 : TE) w93 => wu Try.prog (Instr.storeAt 90 (.pointer (some x)) (exV x92)) w93 fun w94 => K w94 := by
    intro x col k p c t w65 w5 hp hc hci hk hw3 hw5 hnx Y hB _ _ x89 w90 hb B1 K hK
    refine call_mono (plusX t x89 _ _ (3 + 9 * k) 7 w90 (hB.up hb) B1 (by omega) (by omega)) ?_
    rintro (y : TE) w93 ⟨hy, f1, f2, h4'⟩
    have A' : ApT x y (dotN col M (k + 1)) := ApT.fr (Y.up hb) f1 f2
    have e : dotN col M (k + 1) = dotN col M k + ratv p.1 p.2 * (c : Rat) := by
      show dotN col M k + dotT col M k = _
      rw [dotT_at hc hp]
    rw [← e] at hy
    refine wu_box ((Y.up hb).up h4') (by kernel_rfl) (Nat.le_refl 3) rfl fun w94 Y' hg _ => ?_
    exact hK y w94 (((hw5.trans hb).trans h4').grownAt hg hnx) Y' ((hy.grown A' hg).le (by omega)) A' (FrT.mono ⟨f1, f2⟩ hb.size)
  refine loop_upA u.2.1 (fun i (a : Hdr) w' => bel w15 w' ∧ a.2.1 = i ∧ ∃ ts : List TE, Own w' w15.heap.size 90 3 a.1 i a.2.2 (ts.flatMap boxc) ∧ ts.length = i ∧ ∀ (k : Nat) t, ts[k]? = some t → BX 1000 w' t (colQ T M k) ∧ FrT w15 t ∧ OffQ (blk a.1) t (colQ T M k)) ⟨bel.refl _, rfl, [], Own.nil _ _ _ _, rfl, fun k t h => by simp at h⟩ fun i a w25 hi ⟨hw, ha, ts, O, hts, hE⟩ again hag _ => ?_
  refine rd_box0 (by kernel_rfl) (X.up hw) rfl rfl ?_
  refine br_dec (fun e => ?_) (fun e => ?_)
  · dsimp only at e
    refine call_mono (wholeX 0 w25 ⟨by omega, by omega⟩) ?_
    rintro (t0 : TE) w28 ⟨hB0, f1, f2, h'⟩
    refine var_mk (z := .agg #[.bool false, .slice none 0 0, .slice none 0 0]) (by kernel_rfl) (by kernel_rfl) rfl rfl fun x29 w31 Y h2' hy => ?_
    replace Y : Box w31 x29 (boxc t0) := Y
    have A0 : ApT x29 t0 (0 : Rat) := ApT.old hB0 (by omega)
    have hn : w25.heap.size ≤ x29.block := by have := h'.size; omega
    refine loop_up m.2.1 (fun k w' => bel w25 w' ∧ ∃ t, Box w' x29 (boxc t) ∧ BX (3 + 9 * k) w' t (dotN (colI T i) M k) ∧ ApT x29 t (dotN (colI T i) M k) ∧ FrT w25 t) ⟨h'.trans h2', t0, Y, hB0.up h2', A0, f1, f2⟩ fun k w34 hk ⟨hw2, t, Y, hB, hA, hFt⟩ again' hag' _ => ?_
    refine br_dec (fun e2 => ?_) (fun e2 => ?_)
    · dsimp only at e2
      obtain ⟨p, hp⟩ : ∃ p, M[k]? = some p := ⟨_, List.getElem?_eq_getElem (by omega)⟩
      obtain ⟨row, hrow⟩ : ∃ row, T[k]? = some row := ⟨_, List.getElem?_eq_getElem (by omega)⟩
      have hrl := v4.2 row (mem_at hrow)
      obtain ⟨c, hc⟩ : ∃ c, row[i]? = some c := ⟨_, List.getElem?_eq_getElem (by omega)⟩
      have hcol := colI_get hrow hc
      have hF1 := hF p (mem_at hp)
      have hc2 := v3.2.2 row (mem_at hrow) c (mem_at hc)
      refine join_mk (fun _ w' => bel w25 w' ∧ ∃ t, Box w' x29 (boxc t) ∧ BX (3 + 9 * (k + 1)) w' t (dotN (colI T i) M (k + 1)) ∧ ApT x29 t (dotN (colI T i) M (k + 1)) ∧ FrT w25 t) (fun K hK => ?_) (fun _ w' hh _ => z_i64 (by dsimp only; omega) (hag' _ (by omega) hh))
      have same : dotT (colI T i) M k = 0 → K () w34 := fun q => by
        have e : dotN (colI T i) M (k + 1) = dotN (colI T i) M k := by
          show dotN (colI T i) M k + dotT (colI T i) M k = _
          rw [q, Rat.add_zero]
        exact hK _ _ ⟨hw2, t, Y, by rw [e]; exact hB.le (by omega), by rw [e]; exact hA, hFt⟩
      refine at_fst (HM.up (hw.trans hw2)) rfl hp ?_
      refine br_ne (fun n1 => ?_) (fun n1 => same (dotT_p0 hcol hp n1))
      refine rd_box (by kernel_rfl) (X.up (hw.trans hw2)) (i := 1) rfl rfl ?_
      refine (H.up (hw.trans hw2)).r.at tyTab (by kernel_rfl) rfl (by omega) fun y row' h1 HR => ?_
      rw [hrow] at h1; cases h1
      refine at_int tyI64 (by kernel_rfl) HR rfl (by have := Sl.int HR; omega) fun c' hc' => ?_
      rw [hc] at hc'; cases hc'
      refine br_ne (fun n2 => ?_) (fun n2 => same (dotT_c0 hcol hp n2))
      refine drw_mk fun w65 h3' _ => ?_
      have hw3 := hw2.trans h3'
      replace Y := Y.up h3'; replace hB := hB.up h3'
      refine flEx_mk (fun i _ v w' => (i = 5 → ∃ t : TE, v = exV t ∧ BX 3 w' t (ratv p.1 p.2)) ∧ (i = 14 → ∃ t : TE, v = exV t ∧ BX 3 w' t (c : Rat)) ∧ (i = 15 → ∃ t : TE, v = exV t ∧ BX 7 w' t (ratv p.1 p.2 * (c : Rat))))
        (fun _ _ _ _ _ h hb => ⟨fun e => by obtain ⟨t, q1, q2⟩ := h.1 e; exact ⟨t, q1, q2.up hb⟩, fun e => by obtain ⟨t, q1, q2⟩ := h.2.1 e; exact ⟨t, q1, q2.up hb⟩, fun e => by obtain ⟨t, q1, q2⟩ := h.2.2 e; exact ⟨t, q1, q2.up hb⟩⟩) ?_
      refine rd_boxN Y (by kernel_rfl) rfl ?_
      refine at_frac (HM.up (hw.trans hw3)) rfl hp ?_
      refine flc_mk (fun w70 hb _ => call_mono (makeX w70 hF1) fun y w' ⟨hy, _, _, hb'⟩ => ⟨hb', fun _ => ⟨y, rfl, hy⟩, fun e => by omega, fun e => by omega⟩) (fun (x74 : TE) => ?_)
      refine rd_box (by kernel_rfl) (X.up (hw.trans hw3)) (i := 1) rfl rfl ?_
      refine (H.up (hw.trans hw3)).r.at tyTab (by kernel_rfl) rfl (by omega) fun y row' h1 HR => ?_
      rw [hrow] at h1; cases h1
      refine at_int tyI64 (by kernel_rfl) HR rfl (by have := Sl.int HR; omega) fun c' hc' => ?_
      rw [hc] at hc'; cases hc'
      refine flc_mk (fun w80 hb _ => call_mono (wholeX c w80 ⟨by omega, by omega⟩) fun y w' ⟨hy, _, _, hb'⟩ => ⟨hb', fun e => by omega, fun _ => ⟨y, rfl, hy⟩, fun e => by omega⟩) (fun (x84 : TE) => ?_)
      refine flc_mk (fun w85 hb hf => ?_) (fun (x89 : TE) => ?_)
      · obtain ⟨⟨_, g2, _⟩, ⟨g1, _⟩, _⟩ := hf
        obtain ⟨t1, e1, B1⟩ := g1 rfl
        obtain ⟨t2, e2, B2⟩ := g2 rfl
        have e1' := exV_inj (t := x74) e1
        have e2' := exV_inj (t := x84) e2
        subst e1' e2'
        exact call_mono (timesX x74 x84 _ _ 3 3 w85 B1 B2 (by omega) (by omega)) fun y w' ⟨hy, _, _, hb'⟩ => ⟨hb', fun e => by omega, fun e => by omega, fun _ => ⟨y, rfl, hy⟩⟩
      · refine flend_mk fun w90 hb hf => ?_
        obtain ⟨⟨_, _, g⟩, _⟩ := hf
        obtain ⟨t1, e1, B1⟩ := g rfl
        have e1' := exV_inj (t := x89) e1
        subst e1'
        exact term x29 (colI T i) k p c t w65 w25 hp hcol ⟨by omega, by omega⟩ (by omega) (hw.trans hw3) hw3 hn Y hB x74 x84 x89 w90 hb B1 _ fun y w94 q1 q2 q3 q4 q5 => hK _ _ ⟨q1, y, q2, q3, q4, q5.mono hw3.size⟩
    · dsimp only at e2
      have hk' : k = T.length := by omega
      subst hk'
      have hO1 : OffQ (blk a.1) t (colQ T M i) := hFt.off (fun k hk => (O.lt k hk).2) _
      replace O := O.kept hw2
      have hE2 : ∀ (k : Nat) t, ts[k]? = some t → BX 1000 w34 t (colQ T M k) ∧ FrT w15 t ∧ OffQ (blk a.1) t (colQ T M k) := fun k t q => ⟨(hE k t q).1.up hw2, (hE k t q).2⟩
      refine rd_boxN Y (by kernel_rfl) rfl ?_
      dsimp only
      rw [ha]
      refine wr_app1 tyBigs O (hw.trans hw2).size rfl (by omega) (by omega) rfl rfl (by omega) (by unfold maxLen; omega) fun a' c' w39 O' hg hnew _ => ?_
      refine z_i64 (by omega) ?_
      refine hag (a', i + 1, c') w39 (by omega) ⟨(hw.trans hw2).own O hg (Nat.le_refl _), rfl, ts ++ [t], ?_, by simp [hts], fun k t' hk' => ?_⟩
      · rw [List.flatMap_append]; exact O'
      · have key : BX 1000 w34 t' (colQ T M k) ∧ FrT w15 t' ∧ OffQ (blk a.1) t' (colQ T M k) := by
          rcases Nat.lt_or_ge k ts.length with q | q
          · rw [List.getElem?_append_left q] at hk'
            exact hE2 k t' hk'
          · rw [List.getElem?_append_right q] at hk'
            have e : k - ts.length = 0 := by
              rcases Nat.eq_zero_or_pos (k - ts.length) with q2 | q2
              · exact q2
              · rw [List.getElem?_eq_none (by simp; omega)] at hk'; cases hk'
            rw [e] at hk'
            cases hk'
            have : k = i := by omega
            subst this
            exact ⟨BX.le hB (by omega), hFt.mono hw.size, hO1⟩
        obtain ⟨k1, k2, k3⟩ := key
        refine ⟨k1.grownO k3 hg, k2, ?_⟩
        rcases hnew with q | q
        · dsimp only; rw [q]; exact k3
        · exact k1.offNew q
  · dsimp only at e
    have hi' : i = up.length := by omega
    subst hi'
    refine call_mono (wholeX 0 w25 ⟨by omega, by omega⟩) ?_
    rintro (t0 : TE) w28 ⟨hB0, f1, f2, h'⟩
    refine var_mk (z := .agg #[.bool false, .slice none 0 0, .slice none 0 0]) (by kernel_rfl) (by kernel_rfl) rfl rfl fun x84 w31 Y h2' hy => ?_
    replace Y : Box w31 x84 (boxc t0) := Y
    have A0 : ApT x84 t0 (0 : Rat) := ApT.old hB0 (by omega)
    have hn : w25.heap.size ≤ x84.block := by have := h'.size; omega
    refine loop_up m.2.1 (fun k w' => bel w25 w' ∧ ∃ t, Box w' x84 (boxc t) ∧ BX (3 + 9 * k) w' t (dotN rt M k) ∧ ApT x84 t (dotN rt M k) ∧ FrT w25 t) ⟨h'.trans h2', t0, Y, hB0.up h2', A0, f1, f2⟩ fun k w89 hk ⟨hw2, t, Y, hB, hA, hFt⟩ again' hag' _ => ?_
    refine br_dec (fun e2 => ?_) (fun e2 => ?_)
    · dsimp only at e2
      obtain ⟨p, hp⟩ : ∃ p, M[k]? = some p := ⟨_, List.getElem?_eq_getElem (by omega)⟩
      obtain ⟨c, hc⟩ : ∃ c, rt[k]? = some c := ⟨_, List.getElem?_eq_getElem (by have := v4.1; omega)⟩
      have hF1 := hF p (mem_at hp)
      have hc2 := v3.2.1 c (mem_at hc)
      refine drw_mk fun w65 h3' _ => ?_
      have hw3 := hw2.trans h3'
      replace Y := Y.up h3'; replace hB := hB.up h3'
      refine flEx_mk (fun i _ v w' => (i = 5 → ∃ t : TE, v = exV t ∧ BX 3 w' t (ratv p.1 p.2)) ∧ (i = 11 → ∃ t : TE, v = exV t ∧ BX 3 w' t (c : Rat)) ∧ (i = 12 → ∃ t : TE, v = exV t ∧ BX 7 w' t (ratv p.1 p.2 * (c : Rat))))
        (fun _ _ _ _ _ h hb => ⟨fun e => by obtain ⟨t, q1, q2⟩ := h.1 e; exact ⟨t, q1, q2.up hb⟩, fun e => by obtain ⟨t, q1, q2⟩ := h.2.1 e; exact ⟨t, q1, q2.up hb⟩, fun e => by obtain ⟨t, q1, q2⟩ := h.2.2 e; exact ⟨t, q1, q2.up hb⟩⟩) ?_
      refine rd_boxN Y (by kernel_rfl) rfl ?_
      refine at_frac (HM.up (hw.trans hw3)) rfl hp ?_
      refine flc_mk (fun w70 hb _ => call_mono (makeX w70 hF1) fun y w' ⟨hy, _, _, hb'⟩ => ⟨hb', fun _ => ⟨y, rfl, hy⟩, fun e => by omega, fun e => by omega⟩) (fun (x74 : TE) => ?_)
      refine rd_box (by kernel_rfl) (X.up (hw.trans hw3)) (i := 2) rfl rfl ?_
      refine at_int tyI64 (by kernel_rfl) (H.up (hw.trans hw3)).b rfl (by have := v4.1; omega) fun c' hc' => ?_
      rw [hc] at hc'; cases hc'
      refine flc_mk (fun w80 hb _ => call_mono (wholeX c w80 ⟨by omega, by omega⟩) fun y w' ⟨hy, _, _, hb'⟩ => ⟨hb', fun e => by omega, fun _ => ⟨y, rfl, hy⟩, fun e => by omega⟩) (fun (x107 : TE) => ?_)
      refine flc_mk (fun w85 hb hf => ?_) (fun (x112 : TE) => ?_)
      · obtain ⟨⟨_, g2, _⟩, ⟨g1, _⟩, _⟩ := hf
        obtain ⟨t1, e1, B1⟩ := g1 rfl
        obtain ⟨t2, e2, B2⟩ := g2 rfl
        have e1' := exV_inj (t := x74) e1
        have e2' := exV_inj (t := x107) e2
        subst e1' e2'
        exact call_mono (timesX x74 x107 _ _ 3 3 w85 B1 B2 (by omega) (by omega)) fun y w' ⟨hy, _, _, hb'⟩ => ⟨hb', fun e => by omega, fun e => by omega, fun _ => ⟨y, rfl, hy⟩⟩
      · refine flend_mk fun w90 hb hf => ?_
        obtain ⟨⟨_, _, g⟩, _⟩ := hf
        obtain ⟨t1, e1, B1⟩ := g rfl
        have e1' := exV_inj (t := x112) e1
        subst e1'
        exact term x84 rt k p c t w65 w25 hp hc ⟨by omega, by omega⟩ (by omega) (hw.trans hw3) hw3 hn Y hB x74 x107 x112 w90 hb B1 _ fun y w94 q1 q2 q3 q4 q5 => z_i64 (by dsimp only; omega) (hag' _ (by omega) ⟨q1, y, q2, q3, q4, q5.mono hw3.size⟩)
    · dsimp only at e2
      have hk' : k = T.length := by omega
      subst hk'
      refine drw_mk fun w119 h3' _ => ?_
      have hw3 := hw2.trans h3'
      have hw4 := hw.trans hw3
      refine rd_boxN (Y.up h3') (by kernel_rfl) rfl ?_
      refine wu_box (Z.up hw4) (by kernel_rfl) (Nat.le_refl 3) rfl fun w121 Z' hg _ => ?_
      have hx3 : ∀ k, some x3.block = some k → k < w15.heap.size := fun k q => by injection q; omega
      refine rd_boxV Z' (by kernel_rfl) rfl ⟨(((a.1, a.2.1, a.2.2), t, 0, ()) : BT), rfl, ⟨(preE_0 e0 hML hF).symm, fun _ => ⟨⟨ts, ?_, hts, fun k t' hk' => ?_⟩, ?_⟩⟩, (h.trans hw4).grownAt hg hne⟩
      · dsimp only
        rw [ha]
        refine ((O.kept hw3).keptBy hg ?_).sl
        cases hb' : blk a.1 with
        | none => exact .inl rfl
        | some k => exact .inr fun q => by have := (O.lt k hb').1; injection q; omega
      · obtain ⟨k1, k2, _⟩ := hE k t' hk'
        exact (k1.up hw3).grownO (k2.off hx3 _) hg
      · exact BX.le (((hB.up h3')).grownO ((hFt.mono hw.size).off hx3 _) hg) (by omega)
end Go.Proofs.Ytajpdnphamomjaa

/- Combinations: the reference's Combine; comparing lists of fractions; lattices. -/

namespace Go.Proofs.Ytajpdnphamomjaa
open Go.RowKit Go.Q Go.Q.Num Go.V

set_option maxHeartbeats 800000 in
theorem combR11 (u r b m : Hdr) (up : List Int) (T : List (List Int)) (rt : List Int) (M : List (Int × Int)) (w : World) (H : Sys w u r b up T rt) (HM : Sl w m.1 m.2.1 m.2.2 2 (M.flatMap encF)) (hI : ∀ p ∈ M, I64 p.1 ∧ I64 p.2) :
    call Try.prog 37 [sysv u r b, .slice m.1 m.2.1 m.2.2] rCT w (fun x w' => CombR up T rt M x w' ∧ bel w w') := by
  refine call_of (S37_calls u.1 u.2.1 u.2.2 r.1 r.2.1 r.2.2 b.1 b.2.1 b.2.2 m.1 m.2.1 m.2.2 w _ ?_)
  unfold S37
  have hu := H.u.int
  refine wr_box fun x1 w2 X h _ _ => ?_
  replace X : Box w2 x1 (sysc u r b) := X
  replace H := H.up h; replace HM := HM.up h
  refine wr_alloc (z := fracv 0 0) (by kernel_rfl) fun x3 w4 Z h' hz _ => ?_
  have hne : w.heap.size ≤ x3.block := by rw [hz]; exact h.size
  replace h := h.trans h'; replace X := X.up h'; replace H := H.up h'; replace HM := HM.up h'; clear h'
  have bad : ∀ {w' : World} {e : Int} {cs : List Value}, cs.length = 2 → bel w w' → Box w' x3 cs → combE up T rt M = e → e ≠ 0 →
      wu Try.prog (Instr.storeAt 23 (.pointer (some x3)) (.agg #[.int .i64 0, .int .i64 0])) w' fun w10 => rd Try.prog (loadVar 23 x3) (.agg [.int .i64, .int .i64]) w10 fun x11 =>
        ∃ x : CT, Value.tuple #[.slice none 0 0, .agg #[.int .i64 x11.1, .int .i64 x11.2.1], .int .i64 e] = rCT.val x ∧ CombR up T rt M x w10 ∧ bel w w10 := by
    intro w' e cs hl h Z he h0
    refine wu_box Z (by kernel_rfl) (by rw [hl]; exact Nat.le_refl 2) rfl fun w5 Z' hg _ => ?_
    have Z2 : Box w5 x3 [.int .i64 0, .int .i64 0] := by
      match cs, hl with
      | [_, _], _ => exact Z'
    exact rd_boxV Z2 (by kernel_rfl) rfl ⟨(((none, 0, 0), (0, 0, ()), e, ()) : CT), rfl, CombR.bad he h0, h.grownAt hg hne⟩
  refine rd_boxN X (by kernel_rfl) rfl ?_
  refine call_mono (comb11 u r b m up T rt M w4 H HM hI) ?_
  rintro (x6 : BT) w7 ⟨⟨he, hR⟩, h'⟩
  replace h := h.trans h'; replace X := X.up h'; replace H := H.up h'; replace HM := HM.up h'; replace Z := Z.up h'; clear h'
  refine var_mk (z := .agg #[.bool false, .slice none 0 0, .slice none 0 0]) (by kernel_rfl) (by kernel_rfl) rfl rfl fun x8 w10 V hv _ => ?_
  replace V : Box w10 x8 (boxc x6.2.1) := V
  refine br_ne (fun e0 => bad rfl (h.trans hv) (Z.up hv) (by rw [combE_pre (by rw [← he]; exact e0), he]) e0) (fun e0 => ?_)
  obtain ⟨⟨ts, hS, hts, hB⟩, hBr⟩ := hR (by rw [← he]; exact e0)
  obtain ⟨p1, p2, p3⟩ := preE_ok (by rw [← he]; exact e0)
  obtain ⟨v1, v2, v3, v4⟩ := sysE_ok p1
  replace hS := hS.up hv
  replace hB : ∀ (k : Nat) t, ts[k]? = some t → BX 1000 w10 t (colQ T M k) := fun k t q => (hB k t q).up hv
  replace hBr := hBr.up hv
  replace h := h.trans hv; replace X := X.up hv; replace H := H.up hv; replace HM := HM.up hv; replace Z := Z.up hv; clear hv
  have hln : ts.length = x6.1.2.1 := by
    have := hS.len
    rw [flat_len boxc_len] at this
    omega
  refine loop_upA x6.1.2.1 (fun i (a : Hdr) w' => bel w10 w' ∧ a.2.1 = i ∧ Own w' w10.heap.size 23 2 a.1 i a.2.2 ((cols up T M i).flatMap encF) ∧ ∀ k, k < i → Fits (colQ T M k)) ⟨bel.refl _, rfl, Own.nil _ _ _ _, fun k h => by omega⟩ fun i a w15 hi ⟨hw, ha, O, hq⟩ again hag _ => ?_
  have Z0 := Z.lt
  refine br_dec (fun e => ?_) (fun e => ?_)
  · dsimp only at e
    obtain ⟨t, ht⟩ : ∃ t, ts[i]? = some t := ⟨_, List.getElem?_eq_getElem (by omega)⟩
    refine at_agg tyBigs agBig boxc_len (by omega) (hS.up hw) rfl ht rfl ?_
    refine call_mono (fit10 _ _ _ w15 ((hB i t ht).up hw).at) ?_
    rintro (x18 : FE) w19 ⟨rfl, h1'⟩
    have hw1 := hw.trans h1'
    refine boxF fun x20 w22 h2' Y _ => ?_
    have hw2 := hw1.trans h2'
    by_cases hft : Fits (colQ T M i)
    · have eT : fitT (colQ T M i) = (((colQ T M i).num, (((colQ T M i).den : Nat) : Int), ()), 0, ()) := by unfold fitT; rw [if_pos hft]
      rw [eT] at Y ⊢
      refine br_f rfl ?_
      refine rd_boxN Y (by kernel_rfl) rfl ?_
      dsimp only
      rw [ha]
      refine wr_app1 tyFracs (O.kept (h1'.trans h2')) hw2.size rfl (by omega) (by omega) rfl rfl (by omega) (by unfold maxLen; omega) fun a' c' w39 O' hg _ _ => ?_
      refine z_i64 (by omega) ?_
      refine hag (a', i + 1, c') w39 (by omega) ⟨hw2.own (O.kept (h1'.trans h2')) hg (Nat.le_refl _), rfl, ?_, fun k hk => ?_⟩
      · rw [cols_snoc, List.flatMap_append]; exact O'
      · rcases Nat.lt_or_ge k i with q | q
        · exact hq k q
        · have : k = i := by omega
          subst this; exact hft
    · have eT : fitT (colQ T M i) = ((0, 0, ()), 8, ()) := by unfold fitT; rw [if_neg hft]
      rw [eT]
      exact br_t rfl (bad rfl (h.trans hw2) (Z.up hw2) (combE_4 p1 p2 p3 fun q => hft (q.1 i (by omega))) (by decide))
  · dsimp only at e
    have hi' : i = up.length := by omega
    subst hi'
    refine rd_boxN (V.up hw) (by kernel_rfl) rfl ?_
    refine call_mono (fit10 _ _ _ w15 (hBr.up hw).at) ?_
    rintro (x32 : FE) w33 ⟨rfl, h1'⟩
    have hw1 := hw.trans h1'
    refine boxF fun x34 w36 h2' Y _ => ?_
    have hw2 := hw1.trans h2'
    by_cases hft : Fits (rhsQ T rt M)
    · have eT : fitT (rhsQ T rt M) = (((rhsQ T rt M).num, (((rhsQ T rt M).den : Nat) : Int), ()), 0, ()) := by unfold fitT; rw [if_pos hft]
      rw [eT] at Y ⊢
      refine br_f rfl ?_
      refine drw_mk fun w39 h3' _ => ?_
      have hw3 := hw2.trans h3'
      refine rd_boxN (Y.up h3') (by kernel_rfl) rfl ?_
      refine wu_box (Z.up hw3) (by kernel_rfl) (Nat.le_refl 2) rfl fun w41 Z' hg _ => ?_
      have hE := combE_0 p1 p2 p3 ⟨hq, hft⟩
      refine rd_boxV Z' (by kernel_rfl) rfl ⟨(((a.1, a.2.1, a.2.2), ((rhsQ T rt M).num, (((rhsQ T rt M).den : Nat) : Int), ()), 0, ()) : CT), rfl, ⟨hE.symm, fun _ => ⟨?_, rfl⟩, fun q => absurd hE q⟩, (h.trans hw3).grownAt hg hne⟩
      dsimp only
      rw [ha]
      refine ((O.kept ((h1'.trans h2').trans h3')).keptBy hg ?_).sl
      cases hb' : blk a.1 with
      | none => exact .inl rfl
      | some k => exact .inr fun q => by have := (O.lt k hb').1; injection q; omega
    · have eT : fitT (rhsQ T rt M) = ((0, 0, ()), 8, ()) := by unfold fitT; rw [if_neg hft]
      rw [eT]
      exact br_t rfl (bad rfl (h.trans hw2) (Z.up hw2) (combE_4 p1 p2 p3 fun q => hft q.2) (by decide))

theorem not_t {b : Bool} (h : (!b) = true) : b = false := by cases b <;> first | rfl | cases h
/-- two lists of fractions -/
theorem sameF (a b : Hdr) (L : List (Int × Int)) (w : World) (HA : Sl w a.1 a.2.1 a.2.2 2 (L.flatMap encF)) (HB : Sl w b.1 b.2.1 b.2.2 2 (L.flatMap encF)) :
    call Try.prog 38 [.slice a.1 a.2.1 a.2.2, .slice b.1 b.2.1 b.2.2] (.one (.one .bool)) w (fun x w' => x = true ∧ bel w w') := by
  refine call_of (S38_calls a.1 a.2.1 a.2.2 b.1 b.2.1 b.2.2 w _ ?_)
  unfold S38
  have ha := fr_len HA
  have hb := fr_len HB
  have ka := HA.le
  refine br_f (by simp; omega) ?_
  refine loop_up a.2.1 (fun _ w' => bel w w') (bel.refl _) fun i w3 hi hw again hag _ => ?_
  refine br_dec (fun e => ?_) (fun e => ⟨true, rfl, rfl, hw⟩)
  dsimp only at e
  obtain ⟨p, hp⟩ : ∃ p, L[i]? = some p := ⟨_, List.getElem?_eq_getElem (by omega)⟩
  refine drw_mk fun w4 h' _ => ?_
  replace hw := hw.trans h'
  refine at_frac (HA.up hw) rfl hp ?_
  refine at_frac (HB.up hw) rfl hp ?_
  refine rd_ne_same (br_f rfl ?_)
  refine z_i64 (by dsimp only; omega) ?_
  exact hag _ (by omega) hw

/-! ### lattices -/
structure LatP (up : List Int) (T : List (List Int)) (rt : List Int) (M : List (Int × Int)) : Prop where
  ok : combE up T rt M = 0
  whole : ∀ p ∈ cols up T M up.length, p.2 = 1
  part : (((rhsQ T rt M).den : Nat) : Int) ≠ 1
theorem lat1F (p : Int × Int) (w : World) : call Try.prog 91 [.agg #[.int .i64 p.1, .int .i64 p.2]] (.one (.one .bool)) w (fun x w' => x = (p.2 != 1) ∧ bel w w') := by
  refine call_of (S91_calls p.1 p.2 w _ ?_)
  unfold S91
  refine wr_box fun x1 w2 X h' _ _ => ?_
  refine rd_box (by kernel_rfl) X (i := 1) rfl rfl ?_
  exact ⟨_, rfl, rfl, h'⟩
theorem hasE (m : Hdr) (M : List (Int × Int)) (w : World) (H : Sl w m.1 m.2.1 m.2.2 2 (M.flatMap encF)) :
    call Try.prog 84 [.slice m.1 m.2.1 m.2.2, .func (.func 91) #[] #[]] (.one (.one .bool)) w (fun x w' => x = M.any (fun p => p.2 != 1) ∧ bel w w') := by
  refine call_of (S84e_calls m.1 m.2.1 m.2.2 w _ ?_)
  unfold S84e
  refine call_mono (r := .one (.one (.int .i64))) (Q := fun x w' => x = idxI (fun p : Int × Int => p.2 != 1) M ∧ bel w w') (call_of (S114e_calls m.1 m.2.1 m.2.2 w _ ?_)) ?_
  · unfold S114e
    exact idx_aggs tyFracs agFrac encF_len (by omega) (l := [.int .i64, .int .i64]) (dec := fun p => (p.1, p.2, ())) dec_frac (fargs := fun (x5 : Int × Int × Unit) => [.agg #[.int .i64 x5.1, .int .i64 x5.2.1]]) H (fun p => p.2 != 1) (fun j p hp w' hb => lat1F p w')
  · rintro x w2 ⟨rfl, hb⟩
    exact ⟨_, rfl, idxI_any _ _, hb⟩
theorem latL (u r b m : Hdr) (up : List Int) (T : List (List Int)) (rt : List Int) (M : List (Int × Int)) (w : World) (H : Sys w u r b up T rt) (HM : Sl w m.1 m.2.1 m.2.2 2 (M.flatMap encF)) (hI : ∀ p ∈ M, I64 p.1 ∧ I64 p.2) :
    call Try.prog 39 [sysv u r b, .slice m.1 m.2.1 m.2.2] (.one (.one .bool)) w (fun x w' => (x = true ↔ LatP up T rt M) ∧ bel w w') := by
  refine call_of (S39_calls u.1 u.2.1 u.2.2 r.1 r.2.1 r.2.2 b.1 b.2.1 b.2.2 m.1 m.2.1 m.2.2 w _ ?_)
  unfold S39
  refine wr_box fun x1 w2 X h _ _ => ?_
  replace X : Box w2 x1 (sysc u r b) := X
  refine rd_boxN X (by kernel_rfl) rfl ?_
  refine call_mono (combL u r b m up T rt M w2 (H.up h) (HM.up h) hI) ?_
  rintro (x4 : CT) w5 ⟨⟨q1, q2, q3⟩, h'⟩
  replace h := h.trans h'
  refine boxF fun x6 w8 h2' Y _ => ?_
  replace h := h.trans h2'
  refine br_eq (fun e => ?_) (fun e => ⟨false, rfl, ⟨fun c => (Bool.noConfusion c), fun s => absurd (q1.trans s.ok) e⟩, h⟩)
  obtain ⟨g1, g2⟩ := q2 (q1.symm.trans e)
  have g3 : x4.2.1.2.1 = (((rhsQ T rt M).den : Nat) : Int) := by rw [g2]
  refine rd_box (by kernel_rfl) Y (i := 1) rfl rfl ?_
  refine br_ne (fun e2 => ?_) (fun e2 => ⟨false, rfl, ⟨fun c => (Bool.noConfusion c), fun s => absurd (g3.symm.trans e2) s.part⟩, h⟩)
  refine call_mono (hasE x4.1 _ w8 (g1.up h2')) ?_
  rintro _ w11 ⟨rfl, h3'⟩
  refine ⟨_, rfl, ⟨fun c => ⟨q1.symm.trans e, fun p hp => ?_, fun q => e2 (g3.trans q)⟩, fun s => ?_⟩, h.trans h3'⟩
  · have c' : (cols up T M up.length).any (fun p => p.2 != 1) = false := not_t c
    have := any_f c' p hp
    simpa using this
  · have : (cols up T M up.length).any (fun p => p.2 != 1) = false := by
      rw [List.any_eq_false]
      intro p hp
      simp [s.whole p hp]
    rw [this]; rfl
theorem lat11 (u r b m : Hdr) (up : List Int) (T : List (List Int)) (rt : List Int) (M : List (Int × Int)) (w : World) (H : Sys w u r b up T rt) (HM : Sl w m.1 m.2.1 m.2.2 2 (M.flatMap encF)) (hI : ∀ p ∈ M, I64 p.1 ∧ I64 p.2) :
    call Try.prog 40 [sysv u r b, .slice m.1 m.2.1 m.2.2] (.one (.one .bool)) w (fun x w' => (x = true ↔ LatP up T rt M) ∧ bel w w') := by
  refine call_of (S40_calls u.1 u.2.1 u.2.2 r.1 r.2.1 r.2.2 b.1 b.2.1 b.2.2 m.1 m.2.1 m.2.2 w _ ?_)
  unfold S40
  refine wr_box fun x1 w2 X h _ _ => ?_
  replace X : Box w2 x1 (sysc u r b) := X
  refine rd_boxN X (by kernel_rfl) rfl ?_
  refine call_mono (combR11 u r b m up T rt M w2 (H.up h) (HM.up h) hI) ?_
  rintro (x4 : CT) w5 ⟨⟨q1, q2, q3⟩, h'⟩
  replace h := h.trans h'
  refine boxF fun x6 w8 h2' Y _ => ?_
  replace h := h.trans h2'
  refine br_ne (fun e => ⟨false, rfl, ⟨fun c => (Bool.noConfusion c), fun s => absurd (q1.trans s.ok) e⟩, h⟩) (fun e => ?_)
  obtain ⟨g1, g2⟩ := q2 (q1.symm.trans e)
  have g3 : x4.2.1.2.1 = (((rhsQ T rt M).den : Nat) : Int) := by rw [g2]
  have hl := fr_len g1
  have kl := g1.le
  replace g1 := g1.up h2'
  refine loop_up x4.1.2.1 (fun i w' => bel w8 w' ∧ ∀ j, j < i → ∀ p, (cols up T M up.length)[j]? = some p → p.2 = 1) ⟨bel.refl _, pre_zero⟩ fun i w11 hi ⟨hw, hq⟩ again hag _ => ?_
  refine br_dec (fun e2 => ?_) (fun e2 => ?_)
  · dsimp only at e2
    obtain ⟨p, hp⟩ : ∃ p, (cols up T M up.length)[i]? = some p := ⟨_, List.getElem?_eq_getElem (by omega)⟩
    refine idx_agg tyFracs encF_len (by omega) (g1.up hw) rfl hp fun ad had => ?_
    refine rd_cell (by kernel_rfl) (had 1 _ rfl) rfl ?_
    refine br_ne (fun e3 => ⟨false, rfl, ⟨fun c => (Bool.noConfusion c), fun s => absurd (s.whole p (mem_at hp)) e3⟩, h.trans hw⟩) (fun e3 => ?_)
    refine z_i64 (by dsimp only; omega) ?_
    exact hag _ (by omega) ⟨hw, pre_step hq hp e3⟩
  · dsimp only at e2
    refine rd_box (by kernel_rfl) (Y.up hw) (i := 1) rfl rfl ?_
    refine ⟨_, rfl, ⟨fun c => ⟨q1.symm.trans e, pre_all hq (by omega), fun q => ?_⟩, fun s => ?_⟩, h.trans hw⟩
    · have : x4.2.1.2.1 = 1 := g3.trans q
      simp [this] at c
    · have := s.part
      rw [← g3] at this
      exact bne_iff_ne.2 this
end Go.Proofs.Ytajpdnphamomjaa

/- Bounds that contradict a combination: the program. -/

namespace Go.Proofs.Ytajpdnphamomjaa
open Go.RowKit Go.Q Go.Q.Num Go.V

/-- the least value of the first k terms; with the bounds turned about: the greatest -/
def pickB (q : Rat) (lo hi : List Int) (k : Nat) : Int :=
  match lo[k]?, hi[k]? with
  | some a, some b => if q < 0 then b else a
  | _, _ => 0
def lowN (T : List (List Int)) (M : List (Int × Int)) (lo hi : List Int) : Nat → Rat
  | 0 => 0
  | k + 1 => lowN T M lo hi k + colQ T M k * ((pickB (colQ T M k) lo hi k : Int) : Rat)
abbrev Win (x : Int) : Prop := -1000000000 ≤ x ∧ x ≤ 1000000000
structure BndP (up : List Int) (T : List (List Int)) (rt : List Int) (lo hi : List Int) (M : List (Int × Int)) : Prop where
  ok : combE up T rt M = 0
  llo : lo.length = up.length
  lhi : hi.length = up.length
  wlo : ∀ x ∈ lo, Win x
  whi : ∀ x ∈ hi, Win x
  out : (∃ (k : Nat) (a b : Int), lo[k]? = some a ∧ hi[k]? = some b ∧ b < a) ∨ rhsQ T rt M < lowN T M lo hi up.length ∨ lowN T M hi lo up.length < rhsQ T rt M
theorem pick_at {q : Rat} {lo hi : List Int} {k : Nat} {a b : Int} (h1 : lo[k]? = some a) (h2 : hi[k]? = some b) : pickB q lo hi k = if q < 0 then b else a := by unfold pickB; rw [h1, h2]
theorem outB_iff {x : Int} : outB (-1000000000) 1000000000 x = false ↔ Win x := by unfold outB; simp
theorem fromQ {q : Rat} (w : World) (h : Fits q) : call Try.prog 56 [.agg #[.int .i64 q.num, .int .i64 ((q.den : Nat) : Int)]] (.one sBig) w (fun (x : TE) w' => EX 2 w' x q ∧ bel w w') := by
  have := fromX (n := q.num) (d := ((q.den : Nat) : Int)) w (frac_fits h)
  rw [ratv_fits] at this
  exact this
/-- two variables are made and written -/
theorem var2_mk {P : Program} {e : TypeId} {z v v' : Value} {w : World} {k : Addr → Addr → World → Prop} (hz : zeroOf P e = some z) (hs : sizeIs P e v.cells.size = true) (hs' : sizeIs P e v'.cells.size = true) (hl : v.cells.size = z.cells.size) (hl' : v'.cells.size = z.cells.size) (hp : plainV v.cells.toList = true) (hp' : plainV v'.cells.toList = true)
    (hk : ∀ a b w', Box w' a v.cells.toList → Box w' b v'.cells.toList → bel w w' → w.heap.size ≤ a.block → w.heap.size ≤ b.block → a.block ≠ b.block → k a b w') :
    wr P (Instr.alloc e true (.tuple #[])) (.one .addr) w fun x w1 => wr P (Instr.alloc e true (.tuple #[])) (.one .addr) w1 fun y w2 => wu P (Instr.storeAt e (.pointer (some x)) v) w2 fun w3 => wu P (Instr.storeAt e (.pointer (some y)) v') w3 fun w4 => k x y w4 := by
  have put : ∀ (vs cs : List Value), cs.length = vs.length → putAt cs 0 vs = vs := by
    have key : ∀ (vs pre cs : List Value), cs.length = vs.length → putAt (pre ++ cs) pre.length vs = pre ++ vs := by
      intro vs
      induction vs with
      | nil => intro pre cs h; rw [List.eq_nil_of_length_eq_zero h]; rfl
      | cons x vs ih =>
        intro pre cs h
        cases cs with
        | nil => simp at h
        | cons c cs =>
          simp only [putAt]
          have h1 : (pre ++ c :: cs).set pre.length x = (pre ++ [x]) ++ cs := by simp
          rw [h1]
          have := ih (pre ++ [x]) cs (by simpa using h)
          simp only [List.length_append, List.length_cons, List.length_nil, Nat.zero_add] at this
          rw [this]; simp
    intro vs cs h
    simpa using key vs [] cs h
  refine wr_alloc hz fun a w1 A h ha _ => ?_
  refine wr_alloc hz fun b w2 B h2 hb2 _ => ?_
  replace A := A.up h2
  have n1 := A.lt
  have hab : a.block < b.block := by have := A.lt; have := h.size; have := h2.size; omega
  refine wu_box A hs (by rw [hl]; simp) hp fun w3 A' hg _ => ?_
  have B' := B.grown hg (by intro e; injection e; omega)
  refine wu_box B' hs' (by rw [hl']; simp) hp' fun w4 B2 hg2 _ => ?_
  have A2 := A'.grown hg2 (by intro e; injection e; omega)
  rw [put _ _ (by simp [hl])] at A2
  rw [put _ _ (by simp [hl'])] at B2
  exact hk _ _ _ A2 B2 (((h.trans h2).grownAt hg (by omega)).grownAt hg2 (by have := h.size; omega)) (by omega) (by have := h.size; omega) (by omega)

theorem bnd11F (n : Int) (w : World) : call Try.prog 93 [.int .i64 n] (.one (.one .bool)) w (fun x w' => x = outB (-1000000000) 1000000000 n ∧ bel w w') := by
  refine call_of (S93_calls n w _ ?_)
  unfold S93
  refine call_mono (outsideF n _ _ w) ?_
  rintro x w2 ⟨rfl, h⟩
  exact ⟨_, rfl, rfl, h⟩
theorem hasG (a : Hdr) (xs : List Int) (w : World) (H : Sl w a.1 a.2.1 a.2.2 1 (ints .i64 xs)) :
    call Try.prog 74 [.slice a.1 a.2.1 a.2.2, .func (.func 93) #[] #[]] (.one (.one .bool)) w (fun x w' => x = xs.any (outB (-1000000000) 1000000000) ∧ bel w w') := by
  refine call_of (S74b_calls a.1 a.2.1 a.2.2 w _ ?_)
  unfold S74b
  refine call_mono (r := .one (.one (.int .i64))) (Q := fun x w' => x = idxI (outB (-1000000000) 1000000000) xs ∧ bel w w') (call_of (S112b_calls a.1 a.2.1 a.2.2 w _ ?_)) ?_
  · unfold S112b
    exact idx_ints tyI64 (by kernel_rfl) (fargs := fun x5 => [.int .i64 x5]) H (outB (-1000000000) 1000000000) (fun j x hx w' hb => bnd11F x w')
  · rintro x w2 ⟨rfl, hb⟩
    exact ⟨_, rfl, idxI_any _ _, hb⟩
theorem bnd1F (a u : Hdr) (xs up : List Int) (v1 v2 : Value) (c0 : Addr) (w : World) (H : Sl w a.1 a.2.1 a.2.2 1 (ints .i64 xs)) (X : Box w c0 [.slice u.1 u.2.1 u.2.2, v1, v2]) (hu : up.length = u.2.1) :
    call Try.prog 92 [.slice a.1 a.2.1 a.2.2, .pointer (some c0)] (.one (.one .bool)) w (fun x w' => (x = false ↔ xs.length = up.length ∧ ∀ x ∈ xs, Win x) ∧ bel w w') := by
  refine call_of (S92_calls a.1 a.2.1 a.2.2 c0 w _ ?_)
  unfold S92
  have hl := H.int
  refine rd_box0 (by kernel_rfl) X rfl rfl ?_
  refine br_ne (fun e => ⟨true, rfl, ⟨fun c => (Bool.noConfusion c), fun s => ?_⟩, bel.refl _⟩) (fun e => ?_)
  · dsimp only at e; omega
  dsimp only at e
  refine call_mono (hasG a xs w H) ?_
  rintro _ w3 ⟨rfl, h⟩
  refine ⟨_, rfl, ⟨fun c => ⟨by omega, fun x hx => outB_iff.1 (any_f c x hx)⟩, fun s => ?_⟩, h⟩
  show xs.any _ = false
  rw [List.any_eq_false]
  intro x hx
  rw [outB_iff.2 (s.2 x hx)]; simp

set_option maxHeartbeats 3200000 in
theorem bndL (u r b lo hi m : Hdr) (up : List Int) (T : List (List Int)) (rt ls hs : List Int) (M : List (Int × Int)) (w : World) (H : Sys w u r b up T rt) (HM : Sl w m.1 m.2.1 m.2.2 2 (M.flatMap encF)) (hI : ∀ p ∈ M, I64 p.1 ∧ I64 p.2)
    (HLo : Sl w lo.1 lo.2.1 lo.2.2 1 (ints .i64 ls)) (HHi : Sl w hi.1 hi.2.1 hi.2.2 1 (ints .i64 hs)) :
    call Try.prog 41 [sysv u r b, .slice lo.1 lo.2.1 lo.2.2, .slice hi.1 hi.2.1 hi.2.2, .slice m.1 m.2.1 m.2.2] (.one (.one .bool)) w (fun x w' => (x = true ↔ BndP up T rt ls hs M) ∧ bel w w') := by
  refine call_of (S41_calls u.1 u.2.1 u.2.2 r.1 r.2.1 r.2.2 b.1 b.2.1 b.2.2 lo.1 lo.2.1 lo.2.2 hi.1 hi.2.1 hi.2.2 m.1 m.2.1 m.2.2 w _ ?_)
  unfold S41
  have hu := H.u.int
  have hlo := HLo.int
  have hhi := HHi.int
  have no : ∀ {w' : World}, bel w w' → (BndP up T rt ls hs M → False) → ∃ v : Bool, Value.bool false = (RS.one (.one .bool)).val v ∧ (v = true ↔ BndP up T rt ls hs M) ∧ bel w w' := fun hb q => ⟨false, rfl, ⟨fun e => (Bool.noConfusion e), fun s => (q s).elim⟩, hb⟩
  refine wr_box fun x1 w2 X h _ _ => ?_
  replace X : Box w2 x1 (sysc u r b) := X
  replace HLo := HLo.up h; replace HHi := HHi.up h
  refine rd_boxN X (by kernel_rfl) rfl ?_
  refine call_mono (combL u r b m up T rt M w2 (H.up h) (HM.up h) hI) ?_
  rintro (x4 : CT) w5 ⟨⟨q1, q2, _⟩, h'⟩
  replace h := h.trans h'; replace X := X.up h'; replace HLo := HLo.up h'; replace HHi := HHi.up h'; clear h'
  refine boxF fun x6 w8 h2' Y _ => ?_
  refine br_ne (fun e => no (h.trans h2') fun s => e (q1.trans s.ok)) (fun e => ?_)
  have hok : combE up T rt M = 0 := q1.symm.trans e
  obtain ⟨g1, g2⟩ := q2 hok
  obtain ⟨ce1, _, _, hfit, hfr⟩ := combE_ok hok
  have v1 := (sysE_ok ce1).1
  have hln := fr_len g1
  rw [cols_len] at hln
  have kl := g1.le
  replace g1 := g1.up h2'
  replace h := h.trans h2'; replace X := X.up h2'; replace HLo := HLo.up h2'; replace HHi := HHi.up h2'; clear h2'
  rw [g2] at Y
  refine call_mono (bnd1F lo u ls up _ _ x1 w8 HLo X hu) ?_
  rintro x9 w10 ⟨b1, h'⟩
  replace h := h.trans h'; replace X := X.up h'; replace HLo := HLo.up h'; replace HHi := HHi.up h'; replace Y := Y.up h'; replace g1 := g1.up h'; clear h'
  refine br_mk (fun e1 => no h fun s => ?_) (fun e1 => ?_)
  · rw [b1.2 ⟨s.llo, s.wlo⟩] at e1; cases e1
  obtain ⟨l1, l2⟩ := b1.1 e1
  refine call_mono (bnd1F hi u hs up _ _ x1 w10 HHi X hu) ?_
  rintro x11 w12 ⟨b2, h'⟩
  replace h := h.trans h'; replace X := X.up h'; replace HLo := HLo.up h'; replace HHi := HHi.up h'; replace Y := Y.up h'; replace g1 := g1.up h'; clear h'
  refine br_mk (fun e2 => no h fun s => ?_) (fun e2 => ?_)
  · rw [b2.2 ⟨s.lhi, s.whi⟩] at e2; cases e2
  obtain ⟨l3, l4⟩ := b2.1 e2
  have bnd : ∀ {x : Bool}, ((∃ (k : Nat) (a b : Int), ls[k]? = some a ∧ hs[k]? = some b ∧ b < a) ∨ rhsQ T rt M < lowN T M ls hs up.length ∨ lowN T M hs ls up.length < rhsQ T rt M ↔ x = true) → (x = true ↔ BndP up T rt ls hs M) := fun q => ⟨fun e => ⟨hok, l1, l3, l2, l4, q.2 e⟩, fun s => q.1 s.out⟩
  refine call_mono (wholeF 0 w12 ⟨by omega, by omega⟩) ?_
  rintro (t0 : TE) w14 ⟨hA0, _, _, h'⟩
  replace h := h.trans h'; replace X := X.up h'; replace HLo := HLo.up h'; replace HHi := HHi.up h'; replace Y := Y.up h'; replace g1 := g1.up h'; clear h'
  refine call_mono (wholeF 0 w14 ⟨by omega, by omega⟩) ?_
  rintro (t1 : TE) w16 ⟨hB0, _, _, h'⟩
  replace hA0 := hA0.up h'
  replace h := h.trans h'; replace X := X.up h'; replace HLo := HLo.up h'; replace HHi := HHi.up h'; replace Y := Y.up h'; replace g1 := g1.up h'; clear h'
  refine var2_mk (z := .agg #[.bool false, .slice none 0 0, .slice none 0 0]) (by kernel_rfl) (by kernel_rfl) (by kernel_rfl) rfl rfl rfl rfl fun x17 x19 w22 V1 V2 h' n17 n19 n1719 => ?_
  replace V1 : Box w22 x17 (boxc t0) := V1
  replace V2 : Box w22 x19 (boxc t1) := V2
  refine loop_up x4.1.2.1 (fun i w' => bel w16 w' ∧ (∀ j, j < i → ∀ a b, ls[j]? = some a → hs[j]? = some b → ¬ b < a) ∧ ∃ t s : TE, Box w' x17 (boxc t) ∧ Box w' x19 (boxc s) ∧ EX (2 + 5 * i) w' t (lowN T M ls hs i) ∧ EX (2 + 5 * i) w' s (lowN T M hs ls i) ∧ ApT x17 t (lowN T M ls hs i) ∧ ApT x19 t (lowN T M ls hs i) ∧ ApT x17 s (lowN T M hs ls i) ∧ ApT x19 s (lowN T M hs ls i))
    ⟨h', fun j q => by omega, t0, t1, V1, V2, hA0.up h', hB0.up h', ApT.oldE hA0 n17, ApT.oldE hA0 n19, ApT.oldE hB0 n17, ApT.oldE hB0 n19⟩ fun i w25 hi' ⟨hw, hq, t, s, V1, V2, E1, E2, A11, A12, A21, A22⟩ again hag _ => ?_
  refine br_dec (fun e3 => ?_) (fun e3 => ?_)
  · dsimp only at e3
    obtain ⟨la, hla⟩ : ∃ la, ls[i]? = some la := ⟨_, List.getElem?_eq_getElem (by omega)⟩
    obtain ⟨ha, hha⟩ : ∃ ha, hs[i]? = some ha := ⟨_, List.getElem?_eq_getElem (by omega)⟩
    have hp : (cols up T M up.length)[i]? = some (fpair (colQ T M i)) := cols_get (by omega)
    have hft := hfit i (by omega)
    have wla := l2 la (mem_at hla)
    have wha := l4 ha (mem_at hha)
    have l17 := V1.lt
    have l19 := V2.lt
    obtain ⟨q, hq0⟩ : ∃ q, q = colQ T M i := ⟨_, rfl⟩
    rw [← hq0] at hp hft
    refine join_mk (fun _ w' => bel w16 w' ∧ ¬ ha < la ∧ ∃ t s : TE, Box w' x17 (boxc t) ∧ Box w' x19 (boxc s) ∧ EX (2 + 5 * (i + 1)) w' t (lowN T M ls hs (i + 1)) ∧ EX (2 + 5 * (i + 1)) w' s (lowN T M hs ls (i + 1)) ∧ ApT x17 t (lowN T M ls hs (i + 1)) ∧ ApT x19 t (lowN T M ls hs (i + 1)) ∧ ApT x17 s (lowN T M hs ls (i + 1)) ∧ ApT x19 s (lowN T M hs ls (i + 1))) (fun K hK => ?_) (fun _ w' ⟨hh1, hh2, hh3⟩ _ => z_i64 (by dsimp only; omega) (hag _ (by omega) ⟨hh1, fun j hj a b c1 c2 => ?_, hh3⟩))
    · -- one round
      refine at_frac (g1.up hw) rfl hp ?_
      refine boxF fun x32 w34 h' Z n32 => ?_
      have hw1 := hw.trans h'
      refine drw_mk fun w35 h2' _ => ?_
      have hw2 := hw1.trans h2'
      have hz := h'.trans h2'
      replace Z := Z.up h2'
      refine at_int tyI64 (by kernel_rfl) (HLo.up hw2) rfl (by omega) fun a ha' => ?_
      rw [hla] at ha'; cases ha'
      refine at_int tyI64 (by kernel_rfl) (HHi.up hw2) rfl (by omega) fun a ha' => ?_
      rw [hha] at ha'; cases ha'
      refine br_dec (fun e4 => ⟨true, rfl, bnd ⟨fun _ => rfl, fun _ => .inl ⟨i, la, ha, hla, hha, e4⟩⟩, h.trans hw2⟩) (fun e4 => ?_)
      refine rd_box0 (by kernel_rfl) Z rfl rfl ?_
      have st1 : lowN T M ls hs (i + 1) = lowN T M ls hs i + q * ((if q < 0 then ha else la : Int) : Rat) := by
        show lowN T M ls hs i + colQ T M i * ((pickB (colQ T M i) ls hs i : Int) : Rat) = _
        rw [pick_at hla hha, hq0]
      have st2 : lowN T M hs ls (i + 1) = lowN T M hs ls i + q * ((if q < 0 then la else ha : Int) : Rat) := by
        show lowN T M hs ls i + colQ T M i * ((pickB (colQ T M i) hs ls i : Int) : Rat) = _
        rw [pick_at hha hla, hq0]
      refine br_eq (fun e5 => ?_) (fun e5 => ?_)
      · have q0 : q = 0 := Rat.num_eq_zero.1 e5
        rw [q0, Rat.zero_mul, Rat.add_zero] at st1 st2
        exact hK _ _ ⟨hw2, e4, t, s, V1.up hz, V2.up hz, by rw [st1]; exact (E1.up hz).le (by omega), by rw [st2]; exact (E2.up hz).le (by omega), by rw [st1]; exact A11, by rw [st1]; exact A12, by rw [st2]; exact A21, by rw [st2]; exact A22⟩
      refine join_mk (fun s' w' => s'.1 = (if q < 0 then ha else la) ∧ s'.2.1 = (if q < 0 then la else ha) ∧ w35 = w') (fun K' hK' => ?_) (fun s' w43 hs' _ => ?_)
      · refine rd_box0 (by kernel_rfl) Z rfl rfl ?_
        refine br_dec (fun e6 => hK' _ _ ⟨?_, ?_, rfl⟩) (fun e6 => hK' _ _ ⟨?_, ?_, rfl⟩)
        · dsimp only; rw [if_pos (num_neg.1 e6)]
        · dsimp only; rw [if_pos (num_neg.1 e6)]
        · dsimp only; rw [if_neg fun c => e6 (num_neg.2 c)]
        · dsimp only; rw [if_neg fun c => e6 (num_neg.2 c)]
      obtain ⟨y1, y2, _⟩ := s'
      obtain ⟨hy1, hy2, rfl⟩ := hs'
      dsimp only at hy1 hy2
      rw [← hy1] at st1
      rw [← hy2] at st2
      have wy1 : Win y1 := by rw [hy1]; split <;> assumption
      have wy2 : Win y2 := by rw [hy2]; split <;> assumption
      clear hy1 hy2
      replace V1 := V1.up hz; replace V2 := V2.up hz; replace E1 := E1.up hz; replace E2 := E2.up hz
      -- one of the two sums
      have one : ∀ (x : Addr) (y : Int) (v : TE) (rr : Rat) (L : Nat) (w44 : World) (Kn : World → Prop), Win y → w16.heap.size ≤ x.block → bel w16 w44 → Box w44 x (boxc v) → Box w44 x32 (encF (fpair q)) → EX L w44 v rr → L ≤ 2000 →
          (∀ (v' : TE) w67, bel w16 w67 → w44.grownBy w67 (some x.block) → Box w67 x (boxc v') → EX (L + 5) w67 v' (rr + q * (y : Rat)) → FrT w44 v' → Kn w67) →
          drw w44 fun w44 => flEx fun F45 =>
            rd Try.prog (Instr.loadAt 81 (.pointer (some x))) (.agg [.bool, .slice, .slice]) w44 fun (x46 : TE) =>
            rd Try.prog (Instr.loadAt 23 (.pointer (some x32))) (.agg [.int .i64, .int .i64]) w44 fun x47 =>
            flc bel w44 (fun _ => True) (fun (w48 : World) => call Try.prog 56 [(.agg #[(.int .i64 x47.1), (.int .i64 x47.2.1)])] (.one (.agg [.bool, .slice, .slice])) w48 fun (x50 : TE) (w51 : World) => (bel w48 w51 ∧ F45 2 [(.agg #[(.int .i64 x47.1), (.int .i64 x47.2.1)])] (exV x50) w51)) fun (x52 : TE) =>
            flc bel w44 (fun w54 => F45 2 [(.agg #[(.int .i64 x47.1), (.int .i64 x47.2.1)])] (exV x52) w54 ∧ True) (fun (w53 : World) => call Try.prog 81 [(.int .i64 y)] (.one (.agg [.bool, .slice, .slice])) w53 fun (x55 : TE) (w56 : World) => (bel w53 w56 ∧ F45 4 [(.int .i64 y)] (exV x55) w56)) fun (x57 : TE) =>
            flc bel w44 (fun w59 => F45 4 [(.int .i64 y)] (exV x57) w59 ∧ F45 2 [(.agg #[(.int .i64 x47.1), (.int .i64 x47.2.1)])] (exV x52) w59 ∧ True) (fun (w58 : World) => call Try.prog 68 [exV x52, exV x57] (.one (.agg [.bool, .slice, .slice])) w58 fun (x60 : TE) (w61 : World) => (bel w58 w61 ∧ F45 5 [exV x52, exV x57] (exV x60) w61)) fun (x62 : TE) =>
            flend bel w44 (fun w64 => F45 5 [exV x52, exV x57] (exV x62) w64 ∧ F45 4 [(.int .i64 y)] (exV x57) w64 ∧ F45 2 [(.agg #[(.int .i64 x47.1), (.int .i64 x47.2.1)])] (exV x52) w64 ∧ True) fun w63 =>
            call Try.prog 60 [exV x46, exV x62] (.one (.agg [.bool, .slice, .slice])) w63 fun (x65 : TE) (w66 : World) =>
            wu Try.prog (Instr.storeAt 81 (.pointer (some x)) (exV x65)) w66 fun (w67 : World) => Kn w67 := by
        intro x y v rr L w44 Kn wy hx hb0 V Z E hL hKn
        refine drw_mk fun w45 h3' _ => ?_
        replace V := V.up h3'; replace Z := Z.up h3'; replace E := E.up h3'
        refine flEx_mk (fun i _ v w' => (i = 2 → ∃ t : TE, v = exV t ∧ EX 2 w' t q) ∧ (i = 4 → ∃ t : TE, v = exV t ∧ EX 2 w' t (y : Rat)) ∧ (i = 5 → ∃ t : TE, v = exV t ∧ EX 4 w' t (q * (y : Rat))))
          (fun _ _ _ _ _ h hb => ⟨fun e => by obtain ⟨t, q1, q2⟩ := h.1 e; exact ⟨t, q1, q2.up hb⟩, fun e => by obtain ⟨t, q1, q2⟩ := h.2.1 e; exact ⟨t, q1, q2.up hb⟩, fun e => by obtain ⟨t, q1, q2⟩ := h.2.2 e; exact ⟨t, q1, q2.up hb⟩⟩) ?_
        refine rd_boxN V (by kernel_rfl) rfl ?_
        refine rd_boxN Z (by kernel_rfl) rfl ?_
        refine flc_mk (fun w70 hb _ => call_mono (fromQ w70 hft) fun y w' ⟨hy, hb'⟩ => ⟨hb', fun _ => ⟨y, rfl, hy⟩, fun e => by omega, fun e => by omega⟩) (fun (x52 : TE) => ?_)
        refine flc_mk (fun w80 hb _ => call_mono (wholeF y w80 ⟨by omega, by omega⟩) fun y w' ⟨hy, _, _, hb'⟩ => ⟨hb', fun e => by omega, fun _ => ⟨y, rfl, hy⟩, fun e => by omega⟩) (fun (x57 : TE) => ?_)
        refine flc_mk (fun w85 hb hf => ?_) (fun (x62 : TE) => ?_)
        · obtain ⟨⟨_, g2, _⟩, ⟨g1, _⟩, _⟩ := hf
          obtain ⟨t1, e1, B1⟩ := g1 rfl
          obtain ⟨t2, e2, B2⟩ := g2 rfl
          have e1' := exV_inj (t := x52) e1
          have e2' := exV_inj (t := x57) e2
          subst e1' e2'
          exact call_mono (mulE x52 x57 _ _ 2 2 w85 B1 B2 (by omega) (by omega)) fun y w' ⟨hy, _, _, hb'⟩ => ⟨hb', fun e => by omega, fun e => by omega, fun _ => ⟨y, rfl, hy⟩⟩
        · refine flend_mk fun w90 hb hf => ?_
          obtain ⟨⟨_, _, g⟩, _⟩ := hf
          obtain ⟨t1, e1, B1⟩ := g rfl
          have e1' := exV_inj (t := x62) e1
          subst e1'
          refine call_mono (addE v x62 _ _ L 4 w90 (E.up hb) B1 (by omega) (by omega)) ?_
          rintro (y' : TE) w93 ⟨hy, f1, f2, h4'⟩
          have A' : ApT x y' (rr + q * (y : Rat)) := ApT.fr (V.up hb) f1 f2
          refine wu_box ((V.up hb).up h4') (by kernel_rfl) (Nat.le_refl 3) rfl fun w94 V' hg _ => ?_
          have hbb := ((h3'.trans hb).trans h4')
          exact hKn y' w94 ((hb0.trans hbb).grownAt hg hx) ((grown_of_bel hbb _).trans hg) V' ((hy.grownA A' hg).le (by omega)) (FrT.mono ⟨f1, f2⟩ (h3'.trans hb).size)
      refine one x17 y1 t _ (2 + 5 * i) w35 _ wy1 n17 hw2 V1 Z E1 (by omega) fun t' w67 hw3 hg3 V1' E1' F1 => ?_
      have ne : some x17.block ≠ some x19.block := by intro e; injection e; omega
      have V2' := V2.grown hg3 (fun e => ne e.symm)
      have Z' := Z.grown hg3 (by intro e; injection e; omega)
      have E2' := E2.grownA A21 hg3
      have F1x17 : ApT x19 t' (lowN T M ls hs i + q * (y1 : Rat)) := ApT.fr V2 F1.1 F1.2
      have F1x17' : ApT x17 t' (lowN T M ls hs i + q * (y1 : Rat)) := ApT.fr V1 F1.1 F1.2
      refine one x19 y2 s _ (2 + 5 * i) w67 _ wy2 n19 hw3 V2' Z' E2' (by omega) fun s' w91 hw4 hg4 V2'' E2'' F2 => ?_
      refine hK _ _ ⟨hw4, e4, t', s', V1'.grown hg4 ne, V2'', ?_, ?_, ?_, ?_, ?_, ?_⟩
      · rw [st1]; exact (E1'.grownA F1x17 hg4).le (by omega)
      · rw [st2]; exact E2''.le (by omega)
      · rw [st1]; exact F1x17'
      · rw [st1]; exact F1x17
      · rw [st2]; exact ApT.fr V1' F2.1 F2.2
      · rw [st2]; exact ApT.fr V2' F2.1 F2.2
    · rcases Nat.lt_or_ge j i with q | q
      · exact hq j q a b c1 c2
      · have : j = i := by omega
        subst this
        rw [hla] at c1; cases c1
        rw [hha] at c2; cases c2
        exact hh2
  · dsimp only at e3
    have hi2 : i = up.length := by omega
    subst hi2
    have nok : ¬ ∃ (k : Nat) (a b : Int), ls[k]? = some a ∧ hs[k]? = some b ∧ b < a := by
      rintro ⟨k, a, b, c1, c2, c3⟩
      exact hq k (by have := (List.getElem?_eq_some_iff.1 c1).1; omega) a b c1 c2 c3
    refine drw_mk fun w93 h' _ => ?_
    have hw1 := hw.trans h'
    replace V1 := V1.up h'; replace V2 := V2.up h'; replace E1 := E1.up h'; replace E2 := E2.up h'
    refine flEx_mk (fun i _ v w' => (i = 2 ∨ i = 8 → ∃ t : TE, v = exV t ∧ EX 2 w' t (rhsQ T rt M)) ∧ (i = 3 → v = .int .i64 (cmpq (lowN T M ls hs up.length) (rhsQ T rt M))))
      (fun _ _ _ _ _ h hb => ⟨fun e => by obtain ⟨t, q1, q2⟩ := h.1 e; exact ⟨t, q1, q2.up hb⟩, h.2⟩) ?_
    refine rd_boxN V1 (by kernel_rfl) rfl ?_
    refine rd_boxN (Y.up hw1) (by kernel_rfl) rfl ?_
    refine flc_mk (fun w70 hb _ => call_mono (fromQ w70 hfr) fun y w' ⟨hy, hb'⟩ => ⟨hb', fun _ => ⟨y, rfl, hy⟩, fun e => by omega⟩) (fun (x101 : TE) => ?_)
    refine flc_mk (fun w70 hb hf => ?_) (fun x106 => ?_)
    · obtain ⟨t1, e1, B1⟩ := hf.1.1 (.inl rfl)
      have e1' := exV_inj (t := x101) e1
      subst e1'
      exact call_mono (cmpX t x101 _ _ (2 + 5 * up.length) 2 w70 (E1.up hb) B1 (by omega) (by omega)) fun y w' ⟨hy, hb'⟩ => ⟨hb', fun e => by omega, fun _ => by rw [hy]⟩
    refine br_dec (fun e6 => flend_mk fun w107 hb hf => ?_) (fun e6 => ?_)
    · have := hf.1.2 rfl
      injection this with _ e7
      rw [e7] at e6
      exact ⟨true, rfl, bnd ⟨fun _ => rfl, fun _ => .inr (.inl (cmpq_gt0.1 e6))⟩, h.trans (hw1.trans hb)⟩
    refine rd_boxN V2 (by kernel_rfl) rfl ?_
    refine rd_boxN (Y.up hw1) (by kernel_rfl) rfl ?_
    refine flc_mk (fun w70 hb _ => call_mono (fromQ w70 hfr) fun y w' ⟨hy, hb'⟩ => ⟨hb', fun _ => ⟨y, rfl, hy⟩, fun e => by omega⟩) (fun (x115 : TE) => ?_)
    refine flend_mk fun w116 hb hf => ?_
    obtain ⟨t1, e1, B1⟩ := hf.1.1 (.inr rfl)
    have e1' := exV_inj (t := x115) e1
    subst e1'
    have := hf.2.1.2 rfl
    injection this with _ e7
    rw [e7] at e6
    refine call_mono (cmpX s x115 _ _ (2 + 5 * up.length) 2 w116 (E2.up hb) B1 (by omega) (by omega)) ?_
    rintro x118 w119 ⟨rfl, h4'⟩
    refine ⟨_, rfl, bnd ⟨fun q => ?_, fun q => .inr (.inr (cmpq_lt0.1 (of_decide_eq_true q)))⟩, h.trans ((hw1.trans hb).trans h4')⟩
    rcases q with q | q | q
    · exact absurd q nok
    · exact absurd (cmpq_gt0.2 q) e6
    · exact decide_eq_true (cmpq_lt0.2 q)
end Go.Proofs.Ytajpdnphamomjaa

/- Bounds that contradict a combination: the reference. -/

namespace Go.Proofs.Ytajpdnphamomjaa
open Go.RowKit Go.Q Go.Q.Num Go.V

/-- digits never lie in a variable of a fraction -/
theorem ap_box {B : Nat} {k : IntKind} {w : World} {s : Hd} {y : Nat} {x : Addr} {t' : TE} (hN : NumAt B k w s.1 s.2.1 s.2.2 y) (X : Box w x (boxc t')) : Apart x s y := fun ad ha hy e => by
  obtain ⟨l, hs, hd, hv⟩ := hN
  cases l with
  | nil => exact hy (by rw [← hv]; rfl)
  | cons d l =>
    obtain ⟨ad', h1, h2, _⟩ := hs.at' 0 (.int k (d : Int)) rfl
    rw [ha] at h1; cases h1
    rw [Go.Q.add_zero] at h2
    obtain ⟨T, hT⟩ := X.blk
    unfold World.cell? at h2
    rw [e, hT] at h2
    simp only at h2
    split at h2
    · cases h2
    · generalize ad.off = o at h2
      match o, h2 with
      | 0, h2 => simp at h2
      | 1, h2 => simp at h2
      | 2, h2 => simp at h2
      | o + 3, h2 => simp at h2
theorem ApT.bx {L : Nat} {w : World} {t t' : TE} {r : Rat} {x : Addr} (h : BX L w t r) (X : Box w x (boxc t')) : ApT x t r := ⟨ap_box h.2.1 X, ap_box h.2.2.1 X⟩
/-- a variable of a fraction is written: other fractions stay -/
theorem BX.put {L : Nat} {w w' : World} {t t' : TE} {r : Rat} {x : Addr} (h : BX L w t r) (X : Box w x (boxc t')) (hg : w.grownBy w' (some x.block)) : BX L w' t r := h.grown (ApT.bx h X) hg
abbrev z0 : TE := (false, (none, 0, 0), (none, 0, 0), ())

set_option maxHeartbeats 3200000 in
theorem bnd11 (u r b lo hi m : Hdr) (up : List Int) (T : List (List Int)) (rt ls hs : List Int) (M : List (Int × Int)) (w : World) (H : Sys w u r b up T rt) (HM : Sl w m.1 m.2.1 m.2.2 2 (M.flatMap encF)) (hI : ∀ p ∈ M, I64 p.1 ∧ I64 p.2)
    (HLo : Sl w lo.1 lo.2.1 lo.2.2 1 (ints .i64 ls)) (HHi : Sl w hi.1 hi.2.1 hi.2.2 1 (ints .i64 hs)) :
    call Try.prog 42 [sysv u r b, .slice lo.1 lo.2.1 lo.2.2, .slice hi.1 hi.2.1 hi.2.2, .slice m.1 m.2.1 m.2.2] (.one (.one .bool)) w (fun x w' => (x = true ↔ BndP up T rt ls hs M) ∧ bel w w') := by
  refine call_of (S42_calls u.1 u.2.1 u.2.2 r.1 r.2.1 r.2.2 b.1 b.2.1 b.2.2 lo.1 lo.2.1 lo.2.2 hi.1 hi.2.1 hi.2.2 m.1 m.2.1 m.2.2 w _ ?_)
  unfold S42
  have hu := H.u.int
  have hlo := HLo.int
  have hhi := HHi.int
  have klo := HLo.le
  have no : ∀ {w' : World}, bel w w' → (BndP up T rt ls hs M → False) → ∃ v : Bool, Value.bool false = (RS.one (.one .bool)).val v ∧ (v = true ↔ BndP up T rt ls hs M) ∧ bel w w' := fun hb q => ⟨false, rfl, ⟨fun e => (Bool.noConfusion e), fun s => (q s).elim⟩, hb⟩
  refine wr_box fun x1 w2 X h _ _ => ?_
  replace X : Box w2 x1 (sysc u r b) := X
  replace H := H.up h; replace HM := HM.up h; replace HLo := HLo.up h; replace HHi := HHi.up h
  refine rd_boxN X (by kernel_rfl) rfl ?_
  refine call_mono (combR11 u r b m up T rt M w2 H HM hI) ?_
  rintro (x4 : CT) w5 ⟨⟨q1, _, _⟩, h'⟩
  replace h := h.trans h'; replace X := X.up h'; replace H := H.up h'; replace HM := HM.up h'; replace HLo := HLo.up h'; replace HHi := HHi.up h'; clear h'
  refine boxF fun x6 w8 h2' Y _ => ?_
  replace h := h.trans h2'; replace X := X.up h2'; replace H := H.up h2'; replace HM := HM.up h2'; replace HLo := HLo.up h2'; replace HHi := HHi.up h2'; clear h2'
  refine br_ne (fun e => no h fun s => e (q1.trans s.ok)) (fun e => ?_)
  have hok : combE up T rt M = 0 := q1.symm.trans e
  obtain ⟨ce1, ce2, ce3, hfit, hfr⟩ := combE_ok hok
  have v1 := (sysE_ok ce1).1
  refine rd_box0 (by kernel_rfl) X rfl rfl ?_
  refine br_ne (fun e1 => no h fun s => ?_) (fun e1 => ?_)
  · have := s.llo; dsimp only at e1; omega
  refine rd_box0 (by kernel_rfl) X rfl rfl ?_
  refine br_ne (fun e2 => no h fun s => ?_) (fun e2 => ?_)
  · have := s.lhi; dsimp only at e2; omega
  dsimp only at e1 e2
  have l1 : ls.length = up.length := by omega
  have l3 : hs.length = up.length := by omega
  refine loop_up lo.2.1 (fun i w' => bel w8 w' ∧ (∀ j, j < i → ∀ x, ls[j]? = some x → Win x) ∧ (∀ j, j < i → ∀ x, hs[j]? = some x → Win x)) ⟨bel.refl _, pre_zero, pre_zero⟩ fun i w13 hi' ⟨hw, hq1, hq2⟩ again hag _ => ?_
  refine br_dec (fun e3 => ?_) (fun e3 => ?_)
  · dsimp only at e3
    refine at_int tyI64 (by kernel_rfl) (HLo.up hw) rfl (by omega) fun la hla => ?_
    refine call_mono (withinF la 1000000000 w13 (by omega)) ?_
    rintro _ w17 ⟨rfl, h'⟩
    replace hw := hw.trans h'
    refine br_not (fun e4 => no (h.trans hw) fun s => ?_) (fun e4 => ?_)
    · have := s.wlo la (mem_at hla); simp at e4; omega
    refine at_int tyI64 (by kernel_rfl) (HHi.up hw) rfl (by omega) fun ha hha => ?_
    refine call_mono (withinF ha 1000000000 w17 (by omega)) ?_
    rintro _ w21 ⟨rfl, h'⟩
    replace hw := hw.trans h'
    refine br_not (fun e5 => no (h.trans hw) fun s => ?_) (fun e5 => ?_)
    · have := s.whi ha (mem_at hha); simp at e5; omega
    refine z_i64 (by dsimp only; omega) ?_
    simp only [Bool.and_eq_true, decide_eq_true_eq] at e4 e5
    exact hag _ (by omega) ⟨hw, pre_step hq1 hla e4, pre_step hq2 hha e5⟩
  dsimp only at e3
  have l2 := pre_all hq1 (by omega)
  have l4 := pre_all hq2 (by omega)
  clear hq1 hq2 hag again
  replace h := h.trans hw; replace X := X.up hw; replace H := H.up hw; replace HM := HM.up hw; replace HLo := HLo.up hw; replace HHi := HHi.up hw; clear hw hi' e3
  have bnd : ∀ {x : Bool}, ((∃ (k : Nat) (a b : Int), ls[k]? = some a ∧ hs[k]? = some b ∧ b < a) ∨ rhsQ T rt M < lowN T M ls hs up.length ∨ lowN T M hs ls up.length < rhsQ T rt M ↔ x = true) → (x = true ↔ BndP up T rt ls hs M) := fun q => ⟨fun e => ⟨hok, l1, l3, l2, l4, q.2 e⟩, fun s => q.1 s.out⟩
  refine loop_up lo.2.1 (fun i w' => bel w13 w' ∧ ∀ j, j < i → ∀ a b, ls[j]? = some a → hs[j]? = some b → ¬ b < a) ⟨bel.refl _, fun j q => by omega⟩ fun i w25 hi' ⟨hw, hq⟩ again hag _ => ?_
  refine br_dec (fun e3 => ?_) (fun e3 => ?_)
  · dsimp only at e3
    refine drw_mk fun w26 h' _ => ?_
    replace hw := hw.trans h'
    refine at_int tyI64 (by kernel_rfl) (HLo.up hw) rfl (by omega) fun la hla => ?_
    refine at_int tyI64 (by kernel_rfl) (HHi.up hw) rfl (by omega) fun ha hha => ?_
    refine br_dec (fun e4 => ⟨true, rfl, bnd ⟨fun _ => rfl, fun _ => .inl ⟨i, la, ha, hla, hha, e4⟩⟩, h.trans hw⟩) (fun e4 => ?_)
    refine z_i64 (by dsimp only; omega) ?_
    refine hag _ (by omega) ⟨hw, fun j hj a b c1 c2 => ?_⟩
    rcases Nat.lt_or_ge j i with q | q
    · exact hq j q a b c1 c2
    · have : j = i := by omega
      subst this
      rw [hla] at c1; cases c1
      rw [hha] at c2; cases c2
      exact e4
  dsimp only at e3
  have nok : ¬ ∃ (k : Nat) (a b : Int), ls[k]? = some a ∧ hs[k]? = some b ∧ b < a := by
    rintro ⟨k, a, b, c1, c2, c3⟩
    exact hq k (by have := (List.getElem?_eq_some_iff.1 c1).1; omega) a b c1 c2 c3
  clear hq hag again
  replace h := h.trans hw; replace X := X.up hw; replace H := H.up hw; replace HM := HM.up hw; replace HLo := HLo.up hw; replace HHi := HHi.up hw; clear hw hi' e3
  refine rd_boxN X (by kernel_rfl) rfl ?_
  refine call_mono (comb11 u r b m up T rt M w25 H HM hI) ?_
  rintro (x33 : BT) w34 ⟨⟨_, hR⟩, h'⟩
  obtain ⟨⟨ts, hS, hts, hB⟩, hBr⟩ := hR (preE_0 ce1 ce2 ce3)
  replace h := h.trans h'; replace X := X.up h'; replace H := H.up h'; replace HM := HM.up h'; replace HLo := HLo.up h'; replace HHi := HHi.up h'; clear h'
  refine var_mk (z := .agg #[.bool false, .slice none 0 0, .slice none 0 0]) (by kernel_rfl) (by kernel_rfl) rfl rfl fun x35 w37 V hv _ => ?_
  replace V : Box w37 x35 (boxc x33.2.1) := V
  refine call_mono (wholeX 0 w37 ⟨by omega, by omega⟩) ?_
  rintro (t0 : TE) w39 ⟨hA0, _, _, h'⟩
  have hv2 := hv.trans h'
  replace V := V.up h'
  refine call_mono (wholeX 0 w39 ⟨by omega, by omega⟩) ?_
  rintro (t1 : TE) w41 ⟨hB0, _, _, h'⟩
  replace hA0 := hA0.up h'
  have hv3 := hv2.trans h'
  replace V := V.up h'
  replace hS := hS.up hv3
  replace hB : ∀ (k : Nat) t, ts[k]? = some t → BX 1000 w41 t (colQ T M k) := fun k t q => (hB k t q).up hv3
  replace hBr := hBr.up hv3
  replace h := h.trans hv3; replace X := X.up hv3; replace H := H.up hv3; replace HM := HM.up hv3; replace HLo := HLo.up hv3; replace HHi := HHi.up hv3; clear hv3
  have hln : ts.length = x33.1.2.1 := by
    have := hS.len
    rw [flat_len boxc_len] at this
    omega
  refine var2_mk (z := .agg #[.bool false, .slice none 0 0, .slice none 0 0]) (by kernel_rfl) (by kernel_rfl) (by kernel_rfl) rfl rfl rfl rfl fun x42 x44 w47 V1 V2 h' n42 n44 n4244 => ?_
  replace V1 : Box w47 x42 (boxc t0) := V1
  replace V2 : Box w47 x44 (boxc t1) := V2
  have ne : some x42.block ≠ some x44.block := by intro e; injection e; omega
  refine loop_up x33.1.2.1 (fun i w' => bel w41 w' ∧ ∃ t s : TE, Box w' x42 (boxc t) ∧ Box w' x44 (boxc s) ∧ BX (3 + 1006 * i) w' t (lowN T M ls hs i) ∧ BX (3 + 1006 * i) w' s (lowN T M hs ls i))
    ⟨h', t0, t1, V1, V2, hA0.up h', hB0.up h'⟩ fun i w50 hi' ⟨hw, t, s, V1, V2, E1, E2⟩ again hag _ => ?_
  refine br_dec (fun e3 => ?_) (fun e3 => ?_)
  · dsimp only at e3
    obtain ⟨la, hla⟩ : ∃ la, ls[i]? = some la := ⟨_, List.getElem?_eq_getElem (by omega)⟩
    obtain ⟨ha, hha⟩ : ∃ ha, hs[i]? = some ha := ⟨_, List.getElem?_eq_getElem (by omega)⟩
    obtain ⟨tc, htc⟩ : ∃ tc, ts[i]? = some tc := ⟨_, List.getElem?_eq_getElem (by omega)⟩
    have wla := l2 la (mem_at hla)
    have wha := l4 ha (mem_at hha)
    have hBq := hB i tc htc
    obtain ⟨q, hq0⟩ : ∃ q, q = colQ T M i := ⟨_, rfl⟩
    rw [← hq0] at hBq
    have st1 : lowN T M ls hs (i + 1) = lowN T M ls hs i + q * ((if q < 0 then ha else la : Int) : Rat) := by
      show lowN T M ls hs i + colQ T M i * ((pickB (colQ T M i) ls hs i : Int) : Rat) = _
      rw [pick_at hla hha, hq0]
    have st2 : lowN T M hs ls (i + 1) = lowN T M hs ls i + q * ((if q < 0 then la else ha : Int) : Rat) := by
      show lowN T M hs ls i + colQ T M i * ((pickB (colQ T M i) hs ls i : Int) : Rat) = _
      rw [pick_at hha hla, hq0]
    refine join_mk (fun _ w' => bel w41 w' ∧ ∃ t s : TE, Box w' x42 (boxc t) ∧ Box w' x44 (boxc s) ∧ BX (3 + 1006 * (i + 1)) w' t (lowN T M ls hs (i + 1)) ∧ BX (3 + 1006 * (i + 1)) w' s (lowN T M hs ls (i + 1))) (fun K hK => ?_) (fun _ w' hh _ => z_i64 (by dsimp only; omega) (hag _ (by omega) hh))
    refine drw_mk fun w55 h' _ => ?_
    have hw1 := hw.trans h'
    replace V1 := V1.up h'; replace V2 := V2.up h'; replace E1 := E1.up h'; replace E2 := E2.up h'
    have l42 := V1.lt
    have l44 := V2.lt
    refine flEx_mk (fun i _ v w' => (i = 8 → ∃ t : TE, v = exV t ∧ BX 3 w' t (la : Rat)) ∧ (i = 9 → ∃ t : TE, v = exV t ∧ BX 1004 w' t (q * (la : Rat))) ∧ (i = 18 → ∃ t : TE, v = exV t ∧ BX 3 w' t (ha : Rat)) ∧ (i = 19 → ∃ t : TE, v = exV t ∧ BX 1004 w' t (q * (ha : Rat))) ∧
        (i = 20 ∨ i = 21 → ∃ a : Addr, v = .pointer (some a) ∧ Box w' a (boxc z0) ∧ w55.heap.size ≤ a.block))
      (fun _ _ _ _ _ h hb => ⟨fun e => by obtain ⟨t, q1, q2⟩ := h.1 e; exact ⟨t, q1, q2.up hb⟩, fun e => by obtain ⟨t, q1, q2⟩ := h.2.1 e; exact ⟨t, q1, q2.up hb⟩, fun e => by obtain ⟨t, q1, q2⟩ := h.2.2.1 e; exact ⟨t, q1, q2.up hb⟩, fun e => by obtain ⟨t, q1, q2⟩ := h.2.2.2.1 e; exact ⟨t, q1, q2.up hb⟩, fun e => by obtain ⟨a, q1, q2, q3⟩ := h.2.2.2.2 e; exact ⟨a, q1, q2.up hb, q3⟩⟩) ?_
    refine at_agg tyBigs agBig boxc_len (by omega) (hS.up hw1) rfl htc rfl ?_
    refine at_int tyI64 (by kernel_rfl) (HLo.up hw1) rfl (by omega) fun a' q' => ?_
    rw [hla] at q'; cases q'
    refine flc_mk (fun w61 hb _ => call_mono (wholeX la w61 ⟨by omega, by omega⟩) fun y w' ⟨hy, _, _, hb'⟩ => ⟨hb', fun _ => ⟨y, rfl, hy⟩, fun e => by omega, fun e => by omega, fun e => by omega, fun e => by omega⟩) (fun (x65 : TE) => ?_)
    refine flc_mk (fun w66 hb hf => ?_) (fun (x70 : TE) => ?_)
    · obtain ⟨t1, e1, B1⟩ := hf.1.1 rfl
      have e1' := exV_inj (t := x65) e1
      subst e1'
      exact call_mono (timesX tc x65 _ _ 1000 3 w66 (hBq.up (hw1.trans hb)) B1 (by omega) (by omega)) fun y w' ⟨hy, _, _, hb'⟩ => ⟨hb', fun e => by omega, fun _ => ⟨y, rfl, hy⟩, fun e => by omega, fun e => by omega, fun e => by omega⟩
    refine at_agg tyBigs agBig boxc_len (by omega) (hS.up hw1) rfl htc rfl ?_
    refine at_int tyI64 (by kernel_rfl) (HHi.up hw1) rfl (by omega) fun a' q' => ?_
    rw [hha] at q'; cases q'
    refine flc_mk (fun w75 hb _ => call_mono (wholeX ha w75 ⟨by omega, by omega⟩) fun y w' ⟨hy, _, _, hb'⟩ => ⟨hb', fun e => by omega, fun e => by omega, fun _ => ⟨y, rfl, hy⟩, fun e => by omega, fun e => by omega⟩) (fun (x79 : TE) => ?_)
    refine flc_mk (fun w80 hb hf => ?_) (fun (x84 : TE) => ?_)
    · obtain ⟨t1, e1, B1⟩ := hf.1.2.2.1 rfl
      have e1' := exV_inj (t := x79) e1
      subst e1'
      exact call_mono (timesX tc x79 _ _ 1000 3 w80 (hBq.up (hw1.trans hb)) B1 (by omega) (by omega)) fun y w' ⟨hy, _, _, hb'⟩ => ⟨hb', fun e => by omega, fun e => by omega, fun e => by omega, fun _ => ⟨y, rfl, hy⟩, fun e => by omega⟩
    refine flc_mk (fun w85 hb _ => wr_alloc (z := .agg #[.bool false, .slice none 0 0, .slice none 0 0]) (by kernel_rfl) fun a w' A hb' ha' _ => ⟨hb', fun e => by omega, fun e => by omega, fun e => by omega, fun e => by omega, fun _ => ⟨a, rfl, A, by have := hb.size; omega⟩⟩) (fun x89 => ?_)
    refine flc_mk (fun w90 hb _ => wr_alloc (z := .agg #[.bool false, .slice none 0 0, .slice none 0 0]) (by kernel_rfl) fun a w' A hb' ha' _ => ⟨hb', fun e => by omega, fun e => by omega, fun e => by omega, fun e => by omega, fun _ => ⟨a, rfl, A, by have := hb.size; omega⟩⟩) (fun x94 => ?_)
    refine flend_mk fun w95 hb hf => ?_
    obtain ⟨⟨f21, f20, f19, _, f9, _⟩, hpw⟩ := hf
    obtain ⟨a94, e94, B94, n94⟩ := f21.2.2.2.2 (.inr rfl)
    obtain ⟨a89, e89, B89, n89⟩ := f20.2.2.2.2 (.inl rfl)
    obtain ⟨t84, et84, P84⟩ := f19.2.2.2.1 rfl
    obtain ⟨t70, et70, P70⟩ := f9.2.1 rfl
    have e1 := exV_inj (t := x84) et84
    have e2 := exV_inj (t := x70) et70
    injection e94 with e94
    injection e94 with e94
    injection e89 with e89
    injection e89 with e89
    subst e1 e2 e94 e89
    have hd : some x89.block ≠ some x94.block := by
      intro e
      injection e with e
      have := (List.pairwise_cons.1 hpw).1 (.pointer (some x89)) (List.mem_cons_self ..)
      apply this
      rw [B94.eq, B89.eq, e]
    replace V1 := V1.up hb; replace V2 := V2.up hb; replace E1 := E1.up hb; replace E2 := E2.up hb
    have hw2 := hw1.trans hb
    have l41 : w41.heap.size ≤ w55.heap.size := hw1.size
    have nA : ∀ {x : Addr}, x.block < w55.heap.size → some x.block ≠ some x89.block := fun q e => by injection e; omega
    have nB : ∀ {x : Addr}, x.block < w55.heap.size → some x.block ≠ some x94.block := fun q e => by injection e; omega
    refine wu_box B89 (by kernel_rfl) (Nat.le_refl 3) rfl fun w97 C89 hg _ => ?_
    replace C89 : Box w97 x89 (boxc x70) := C89
    have C94 := B94.grown hg (fun e => hd e.symm)
    have R70 := P70.put B89 hg
    have R84 := P84.put B89 hg
    have W1 := V1.grown hg (nA l42)
    have W2 := V2.grown hg (nA l44)
    have F1 := E1.put B89 hg
    have F2 := E2.put B89 hg
    have hw3 := hw2.grownAt hg (by omega)
    refine wu_box C94 (by kernel_rfl) (Nat.le_refl 3) rfl fun w98 D94 hg2 _ => ?_
    replace D94 : Box w98 x94 (boxc x84) := D94
    have D89 := C89.grown hg2 hd
    replace R70 := R70.put C94 hg2
    replace R84 := R84.put C94 hg2
    replace W1 := W1.grown hg2 (nB l42)
    replace W2 := W2.grown hg2 (nB l44)
    replace F1 := F1.put C94 hg2
    replace F2 := F2.put C94 hg2
    have hw4 := hw3.grownAt hg2 (by omega)
    refine join_mk (fun _ w' => bel w41 w' ∧ Box w' x42 (boxc t) ∧ Box w' x44 (boxc s) ∧ BX (3 + 1006 * i) w' t (lowN T M ls hs i) ∧ BX (3 + 1006 * i) w' s (lowN T M hs ls i) ∧ ∃ ta tb : TE, Box w' x89 (boxc ta) ∧ Box w' x94 (boxc tb) ∧ BX 1004 w' ta (q * ((if q < 0 then ha else la : Int) : Rat)) ∧ BX 1004 w' tb (q * ((if q < 0 then la else ha : Int) : Rat))) (fun K' hK' => ?_) (fun _ w101 hh _ => ?_)
    · refine at_agg tyBigs agBig boxc_len (by omega) (hS.up hw4) rfl htc rfl ?_
      refine call_mono (signX tc q _ w98 (hBq.up hw4) (by omega)) ?_
      rintro _ w122 ⟨rfl, h'⟩
      replace hw4 := hw4.trans h'
      replace D94 := D94.up h'; replace D89 := D89.up h'; replace R70 := R70.up h'; replace R84 := R84.up h'; replace W1 := W1.up h'; replace W2 := W2.up h'; replace F1 := F1.up h'; replace F2 := F2.up h'
      refine br_dec (fun e5 => ?_) (fun e5 => ?_)
      · have qn := rsign_neg.1 e5
        refine rd_boxN D94 (by kernel_rfl) rfl ?_
        refine rd_boxN D89 (by kernel_rfl) rfl ?_
        refine wu_box D89 (by kernel_rfl) (Nat.le_refl 3) rfl fun w125 G89 hg3 _ => ?_
        replace G89 : Box w125 x89 (boxc x84) := G89
        have G94 := D94.grown hg3 (fun e => hd e.symm)
        replace R70 := R70.put D89 hg3
        replace R84 := R84.put D89 hg3
        replace W1 := W1.grown hg3 (nA l42)
        replace W2 := W2.grown hg3 (nA l44)
        replace F1 := F1.put D89 hg3
        replace F2 := F2.put D89 hg3
        have hw5 := hw4.grownAt hg3 (by omega)
        refine wu_box G94 (by kernel_rfl) (Nat.le_refl 3) rfl fun w126 I94 hg4 _ => ?_
        replace I94 : Box w126 x94 (boxc x70) := I94
        refine hK' _ _ ⟨hw5.grownAt hg4 (by omega), W1.grown hg4 (nB l42), W2.grown hg4 (nB l44), F1.put G94 hg4, F2.put G94 hg4, x84, x70, G89.grown hg4 hd, I94, ?_, ?_⟩
        · rw [if_pos qn]; exact R84.put G94 hg4
        · rw [if_pos qn]; exact R70.put G94 hg4
      · have qn : ¬ q < 0 := fun c => e5 (rsign_neg.2 c)
        refine hK' _ _ ⟨hw4, W1, W2, F1, F2, x70, x84, D89, D94, ?_, ?_⟩
        · rw [if_neg qn]; exact R70
        · rw [if_neg qn]; exact R84
    · obtain ⟨hw5, W1, W2, F1, F2, ta, tb, A1, A2, Q1, Q2⟩ := hh
      refine drw_mk fun w102 h' _ => ?_
      replace hw5 := hw5.trans h'
      replace W1 := W1.up h'; replace W2 := W2.up h'; replace F1 := F1.up h'; replace F2 := F2.up h'; replace A1 := A1.up h'; replace A2 := A2.up h'; replace Q1 := Q1.up h'; replace Q2 := Q2.up h'
      refine flEx_mk (fun _ _ v w' => ∃ y : TE, v = exV y ∧ BX (3 + 1006 * (i + 1)) w' y (lowN T M ls hs (i + 1))) (fun _ _ _ _ _ ⟨y, q1, q2⟩ hb => ⟨y, q1, q2.up hb⟩) ?_
      refine rd_boxN W1 (by kernel_rfl) rfl ?_
      refine rd_boxN A1 (by kernel_rfl) rfl ?_
      refine flc_mk (fun w106 hb _ => call_mono (plusX t ta _ _ (3 + 1006 * i) 1004 w106 (F1.up hb) (Q1.up hb) (by omega) (by omega)) fun y w' ⟨hy, _, _, hb'⟩ => ⟨hb', y, rfl, by rw [st1]; exact BX.le hy (by omega)⟩) (fun (x110 : TE) => ?_)
      refine rd_boxN W2 (by kernel_rfl) rfl ?_
      refine rd_boxN A2 (by kernel_rfl) rfl ?_
      refine flend_mk fun w113 hb hf => ?_
      obtain ⟨⟨y, ey, By⟩, _⟩ := hf
      have ey' := exV_inj (t := x110) ey
      subst ey'
      refine call_mono (plusX s tb _ _ (3 + 1006 * i) 1004 w113 (F2.up hb) (Q2.up hb) (by omega) (by omega)) ?_
      rintro (x115 : TE) w116 ⟨hy, _, _, h2'⟩
      have hy2 : BX (3 + 1006 * (i + 1)) w116 x115 (lowN T M hs ls (i + 1)) := by rw [st2]; exact BX.le hy (by omega)
      replace By := By.up h2'
      have hw6 := (hw5.trans hb).trans h2'
      replace W1 := (W1.up hb).up h2'; replace W2 := (W2.up hb).up h2'
      refine wu_box W1 (by kernel_rfl) (Nat.le_refl 3) rfl fun w117 U1 hg _ => ?_
      replace U1 : Box w117 x42 (boxc x110) := U1
      have U2 := W2.grown hg (fun e => ne e.symm)
      have By2 := By.put W1 hg
      have hy3 := hy2.put W1 hg
      have hw7 := hw6.grownAt hg n42
      refine wu_box U2 (by kernel_rfl) (Nat.le_refl 3) rfl fun w118 T2 hg2 _ => ?_
      exact hK _ _ ⟨hw7.grownAt hg2 n44, x110, x115, U1.grown hg2 ne, T2, By2.put U2 hg2, hy3.put U2 hg2⟩
  · dsimp only at e3
    have hi2 : i = up.length := by omega
    subst hi2
    refine rd_boxN (V.up hw) (by kernel_rfl) rfl ?_
    refine rd_boxN V1 (by kernel_rfl) rfl ?_
    refine call_mono (lessX x33.2.1 t _ _ 1000 (3 + 1006 * up.length) w50 (hBr.up hw) E1 (by omega) (by omega)) ?_
    rintro _ w130 ⟨rfl, h'⟩
    replace V1 := V1.up h'; replace V2 := V2.up h'; replace E1 := E1.up h'; replace E2 := E2.up h'
    have hw1 := hw.trans h'
    refine br_dec (fun e5 => ⟨true, rfl, bnd ⟨fun _ => rfl, fun _ => .inr (.inl (less_iff.1 e5))⟩, h.trans hw1⟩) (fun e5 => ?_)
    refine rd_boxN V2 (by kernel_rfl) rfl ?_
    refine rd_boxN (V.up hw1) (by kernel_rfl) rfl ?_
    refine call_mono (lessX s x33.2.1 _ _ (3 + 1006 * up.length) 1000 w130 E2 (hBr.up hw1) (by omega) (by omega)) ?_
    rintro _ w134 ⟨rfl, h'⟩
    refine ⟨_, rfl, bnd ⟨fun q => ?_, fun q => .inr (.inr (less_iff.1 (of_decide_eq_true q)))⟩, h.trans (hw1.trans h')⟩
    rcases q with q | q | q
    · exact absurd q nok
    · exact absurd (less_iff.2 q) e5
    · exact decide_eq_true (less_iff.2 q)
end Go.Proofs.Ytajpdnphamomjaa

/- The walk of LinearRaw. -/

namespace Go.Proofs.Ytajpdnphamomjaa
open Go.RowKit Go.Q Go.Q.Num Go.V

theorem CombR.same {up : List Int} {T : List (List Int)} {rt : List Int} {M : List (Int × Int)} {x y : CT} {w : World} (h : CombR up T rt M x w) (h' : CombR up T rt M y w) :
    x.2.1 = y.2.1 ∧ x.2.2.1 = y.2.2.1 ∧ ∃ L : List (Int × Int), Sl w x.1.1 x.1.2.1 x.1.2.2 2 (L.flatMap encF) ∧ Sl w y.1.1 y.1.2.1 y.1.2.2 2 (L.flatMap encF) := by
  obtain ⟨h1, h2, h3⟩ := h
  obtain ⟨g1, g2, g3⟩ := h'
  by_cases e : combE up T rt M = 0
  · obtain ⟨a, b⟩ := h2 e
    obtain ⟨c, d⟩ := g2 e
    exact ⟨by rw [b, d], by rw [h1, g1], _, a, c⟩
  · obtain ⟨a, b⟩ := h3 e
    obtain ⟨c, d⟩ := g3 e
    refine ⟨by rw [b, d], by rw [h1, g1], [], ?_, ?_⟩
    · rw [a]; exact Sl.nil _ _
    · rw [c]; exact Sl.nil _ _
theorem litF {n d : Int} {w : World} {k : Hdr → World → Prop} (hk : ∀ (x : Hdr) w', bel w w' → Sl w' x.1 x.2.1 x.2.2 2 (([(n, d)] : List (Int × Int)).flatMap encF) → k x w') : wr Try.prog (Instr.buildSlice 33 1 #[(0, .agg #[.int .i64 n, .int .i64 d])]) (.one .slice) w k :=
  wr_lit tyFracs #[.int .i64 n, .int .i64 d] (fill_one 2 (.agg #[.int .i64 n, .int .i64 d]) _ rfl (by simp)) (by omega) (by omega) rfl (by unfold maxLen; omega) fun ad w' O hb _ _ => hk (some ad, 1, 1) w' hb (O w.heap.size (Nat.le_refl _)).sl
theorem frac12 : IsFrac 1 2 := ⟨by omega, by omega, by omega, by omega, rfl⟩
theorem lat_ex : LatP [1] [[2]] [1] [(1, 2)] := by
  have c : colQ [[2]] [(1, 2)] 0 = 1 := by
    show (0 : Rat) + ratv 1 2 * ((2 : Int) : Rat) = 1
    kernel_rfl
  have d : rhsQ [[2]] [1] [(1, 2)] = mkRat 1 2 := by
    show (0 : Rat) + ratv 1 2 * ((1 : Int) : Rat) = mkRat 1 2
    kernel_rfl
  have e : sysE [1] [[2]] [1] = 0 := sysE_0 (by simp) (by simp) ⟨by simp, by simp, by simp⟩ ⟨rfl, by simp⟩
  refine ⟨combE_0 e rfl (fun p hp => ?_) ⟨fun k hk => ?_, ?_⟩, fun p hp => ?_, ?_⟩
  · simp at hp; subst hp; exact frac12
  · have : k = 0 := by simp at hk; omega
    subst this
    rw [c]; exact ⟨by decide, by decide, by decide⟩
  · rw [d]; exact ⟨by decide, by decide, by decide⟩
  · have : cols [1] [[2]] [(1, 2)] 1 = [fpair (colQ [[2]] [(1, 2)] 0)] := rfl
    have hp' : p ∈ cols [1] [[2]] [(1, 2)] 1 := hp
    rw [this, c] at hp'
    simp at hp'
    subst hp'
    rfl
  · rw [d]; decide

set_option maxHeartbeats 1600000 in
theorem linRaw (u r b m lo hi : Hdr) (up : List Int) (T : List (List Int)) (rt ls hs : List Int) (M : List (Int × Int)) (w : World) (H : Sys w u r b up T rt) (HM : Sl w m.1 m.2.1 m.2.2 2 (M.flatMap encF)) (hI : ∀ p ∈ M, I64 p.1 ∧ I64 p.2)
    (HLo : Sl w lo.1 lo.2.1 lo.2.2 1 (ints .i64 ls)) (HHi : Sl w hi.1 hi.2.1 hi.2.2 1 (ints .i64 hs)) :
    Calls Try.prog 9 #[sysv u r b, .slice m.1 m.2.1 m.2.2, .slice lo.1 lo.2.1 lo.2.2, .slice hi.1 hi.2.1 hi.2.2] w (fun e w' => e = .returned (.bool true) ∧ Below w.heap.size w w') := by
  refine Calls.mono (S9_calls u.1 u.2.1 u.2.2 r.1 r.2.1 r.2.2 b.1 b.2.1 b.2.2 m.1 m.2.1 m.2.2 lo.1 lo.2.1 lo.2.2 hi.1 hi.2.1 hi.2.2 w (fun v w' => v = .bool true ∧ bel w w') ?_) (by rintro e w' ⟨v, rfl, rfl, hb⟩; exact ⟨rfl, hb⟩)
  unfold S9
  refine wr_box fun x1 w2 X h _ _ => ?_
  replace X : Box w2 x1 (sysc u r b) := X
  replace H := H.up h; replace HM := HM.up h; replace HLo := HLo.up h; replace HHi := HHi.up h
  refine rd_boxN X (by kernel_rfl) rfl ?_
  refine call_mono (fewS u r b up T rt w2 H) ?_
  rintro x4 w5 ⟨_, h'⟩
  replace h := h.trans h'; replace X := X.up h'; replace H := H.up h'; replace HM := HM.up h'; replace HLo := HLo.up h'; replace HHi := HHi.up h'; clear h'
  refine br_not (fun _ => ⟨rfl, h⟩) (fun _ => ?_)
  refine br_dec (fun _ => ⟨rfl, h⟩) (fun _ => ?_)
  refine br_dec (fun _ => ⟨rfl, h⟩) (fun _ => ?_)
  refine br_dec (fun _ => ⟨rfl, h⟩) (fun _ => ?_)
  refine rd_boxN X (by kernel_rfl) rfl ?_
  refine call_mono (combL u r b m up T rt M w5 H HM hI) ?_
  rintro (x7 : CT) w8 ⟨C1, h'⟩
  replace h := h.trans h'; replace X := X.up h'; replace H := H.up h'; replace HM := HM.up h'; replace HLo := HLo.up h'; replace HHi := HHi.up h'; clear h'
  refine boxF fun x9 w11 h' Y _ => ?_
  replace C1 := C1.up h'
  replace h := h.trans h'; replace X := X.up h'; replace H := H.up h'; replace HM := HM.up h'; replace HLo := HLo.up h'; replace HHi := HHi.up h'; clear h'
  refine rd_boxN X (by kernel_rfl) rfl ?_
  refine call_mono (combR11 u r b m up T rt M w11 H HM hI) ?_
  rintro (x13 : CT) w14 ⟨C2, h'⟩
  replace C1 := C1.up h'
  replace h := h.trans h'; replace X := X.up h'; replace H := H.up h'; replace HM := HM.up h'; replace HLo := HLo.up h'; replace HHi := HHi.up h'; replace Y := Y.up h'; clear h'
  refine boxF fun x15 w17 h' Z _ => ?_
  replace C1 := C1.up h'; replace C2 := C2.up h'
  replace h := h.trans h'; replace X := X.up h'; replace H := H.up h'; replace HM := HM.up h'; replace HLo := HLo.up h'; replace HHi := HHi.up h'; replace Y := Y.up h'; clear h'
  refine drw_mk fun w18 h' _ => ?_
  replace C1 := C1.up h'; replace C2 := C2.up h'
  replace h := h.trans h'; replace X := X.up h'; replace H := H.up h'; replace HM := HM.up h'; replace HLo := HLo.up h'; replace HHi := HHi.up h'; replace Y := Y.up h'; replace Z := Z.up h'; clear h'
  obtain ⟨s1, s2, L, L1, L2⟩ := C1.same C2
  refine flEx_mk (fun i _ v w' => (i = 2 → v = .bool true) ∧ (i = 18 ∨ i = 23 → ∃ c, v = .bool c ∧ (c = true ↔ BndP up T rt ls hs M)) ∧ (i = 29 ∨ i = 32 → ∃ c, v = .bool c ∧ (c = true ↔ LatP up T rt M)) ∧ (i = 36 ∨ i = 39 → ∃ h : Hdr, v = hv h ∧ Sl w' h.1 h.2.1 h.2.2 1 (ints .i64 [1])) ∧ (i = 37 → ∃ h : Hdr, v = hv h ∧ Sl w' h.1 h.2.1 h.2.2 1 (ints .i64 [2])) ∧
      (i = 38 → ∃ h : Hdr, v = hv h ∧ TabI .i64 w' h [[2]]) ∧ (i = 42 → ∃ h : Hdr, v = hv h ∧ Sl w' h.1 h.2.1 h.2.2 2 (([(1, 2)] : List (Int × Int)).flatMap encF)))
    (fun _ _ _ _ _ h hb => ⟨h.1, h.2.1, h.2.2.1, fun e => by obtain ⟨t, q1, q2⟩ := h.2.2.2.1 e; exact ⟨t, q1, q2.kept hb⟩, fun e => by obtain ⟨t, q1, q2⟩ := h.2.2.2.2.1 e; exact ⟨t, q1, q2.kept hb⟩, fun e => by obtain ⟨t, q1, q2⟩ := h.2.2.2.2.2.1 e; exact ⟨t, q1, q2.up hb⟩, fun e => by obtain ⟨t, q1, q2⟩ := h.2.2.2.2.2.2 e; exact ⟨t, q1, q2.kept hb⟩⟩) ?_
  refine flc_mk (fun w20 hb _ => call_mono (sameF x7.1 x13.1 L w20 (L1.up hb) (L2.up hb)) fun y w' ⟨hy, hb'⟩ => ⟨hb', fun _ => by rw [hy], fun e => by omega, fun e => by omega, fun e => by omega, fun e => by omega, fun e => by omega, fun e => by omega⟩) (fun x24 => ?_)
  have tr : ∀ {c : Bool} {P : Prop}, Value.bool c = .bool true → c = false → P := fun a b => by injection a with a; rw [a] at b; cases b
  refine br_mk (fun e1 => ?_) (fun e1 => flend_mk fun w89 hb hf => tr (hf.1.1 rfl) e1)
  refine rd_boxN Y (by kernel_rfl) rfl ?_
  rw [s1] at *
  refine rd_boxN Z (by kernel_rfl) rfl ?_
  refine rd_eq_same ?_
  refine br_t rfl ?_
  refine br_t (by rw [s2]; simp) ?_
  refine rd_boxN X (by kernel_rfl) rfl ?_
  refine flc_mk (fun w29 hb _ => call_mono (bndL u r b lo hi m up T rt ls hs M w29 (H.up hb) (HM.up hb) hI (HLo.up hb) (HHi.up hb)) fun y w' ⟨hy, hb'⟩ => ⟨hb', fun e => by omega, fun _ => ⟨y, rfl, hy⟩, fun e => by omega, fun e => by omega, fun e => by omega, fun e => by omega, fun e => by omega⟩) (fun x33 => ?_)
  refine rd_boxN X (by kernel_rfl) rfl ?_
  refine flc_mk (fun w35 hb _ => call_mono (bnd11 u r b lo hi m up T rt ls hs M w35 (H.up hb) (HM.up hb) hI (HLo.up hb) (HHi.up hb)) fun y w' ⟨hy, hb'⟩ => ⟨hb', fun e => by omega, fun _ => ⟨y, rfl, hy⟩, fun e => by omega, fun e => by omega, fun e => by omega, fun e => by omega, fun e => by omega⟩) (fun x39 => ?_)
  have same : ∀ {P Q : Prop} {a c : Bool}, (∃ d, Value.bool a = .bool d ∧ (d = true ↔ P)) → (∃ d, Value.bool c = .bool d ∧ (d = true ↔ P)) → (a == c) = false → Q := by
    rintro P Q a c ⟨d, hd, hd2⟩ ⟨e, he, he2⟩ hne
    injection hd with hd; injection he with he
    subst hd he
    have := iff_eq hd2 he2
    subst this
    cases a <;> cases hne
  refine br_mk (fun e2 => ?_) (fun e2 => flend_mk fun w83 hb hf => same (hf.2.1.2.1 (.inl rfl)) (hf.1.2.1 (.inr rfl)) e2)
  refine rd_boxN X (by kernel_rfl) rfl ?_
  refine flc_mk (fun w41 hb _ => call_mono (latL u r b m up T rt M w41 (H.up hb) (HM.up hb) hI) fun y w' ⟨hy, hb'⟩ => ⟨hb', fun e => by omega, fun e => by omega, fun _ => ⟨y, rfl, hy⟩, fun e => by omega, fun e => by omega, fun e => by omega, fun e => by omega⟩) (fun x45 => ?_)
  refine rd_boxN X (by kernel_rfl) rfl ?_
  refine flc_mk (fun w47 hb _ => call_mono (lat11 u r b m up T rt M w47 (H.up hb) (HM.up hb) hI) fun y w' ⟨hy, hb'⟩ => ⟨hb', fun e => by omega, fun e => by omega, fun _ => ⟨y, rfl, hy⟩, fun e => by omega, fun e => by omega, fun e => by omega, fun e => by omega⟩) (fun x51 => ?_)
  refine br_mk (fun e3 => ?_) (fun e3 => flend_mk fun w81 hb hf => same (hf.2.1.2.2.1 (.inl rfl)) (hf.1.2.2.1 (.inr rfl)) e3)
  refine flc_mk (fun w52 hb _ => litI fun y w' hb' hS => ⟨hb', fun e => by omega, fun e => by omega, fun e => by omega, fun _ => ⟨y, rfl, hS⟩, fun e => by omega, fun e => by omega, fun e => by omega⟩) (fun (x56 : Hdr) => ?_)
  refine flc_mk (fun w57 hb _ => litI fun y w' hb' hS => ⟨hb', fun e => by omega, fun e => by omega, fun e => by omega, fun e => by omega, fun _ => ⟨y, rfl, hS⟩, fun e => by omega, fun e => by omega⟩) (fun (x61 : Hdr) => ?_)
  refine flc_mk (fun w62 hb hf => ?_) (fun (x66 : Hdr) => ?_)
  · obtain ⟨y, hy, hS⟩ := hf.1.2.2.2.2.1 rfl
    have := sl_inj hy
    subst this
    exact litT hS fun y w' hb' hT => ⟨hb', fun e => by omega, fun e => by omega, fun e => by omega, fun e => by omega, fun e => by omega, fun _ => ⟨y, rfl, hT⟩, fun e => by omega⟩
  refine flc_mk (fun w67 hb _ => litI fun y w' hb' hS => ⟨hb', fun e => by omega, fun e => by omega, fun e => by omega, fun _ => ⟨y, rfl, hS⟩, fun e => by omega, fun e => by omega, fun e => by omega⟩) (fun (x71 : Hdr) => ?_)
  refine flc_mk (fun w72 hb _ => litF fun y w' hb' hS => ⟨hb', fun e => by omega, fun e => by omega, fun e => by omega, fun e => by omega, fun e => by omega, fun e => by omega, fun _ => ⟨y, rfl, hS⟩⟩) (fun (x76 : Hdr) => ?_)
  refine flend_mk fun w77 hb hf => ?_
  obtain ⟨f42, f39, f38, _, f36, _⟩ := hf
  obtain ⟨a1, e1, S1⟩ := f42.2.2.2.2.2.2 rfl
  obtain ⟨a2, e2, S2⟩ := f39.2.2.2.1 (.inr rfl)
  obtain ⟨a3, e3, S3⟩ := f38.2.2.2.2.2.1 rfl
  obtain ⟨a4, e4, S4⟩ := f36.2.2.2.1 (.inl rfl)
  have q1 := sl_inj e1
  have q2 := sl_inj e2
  have q3 := sl_inj e3
  have q4 := sl_inj e4
  subst q1 q2 q3 q4
  refine call_mono (latL x56 x66 x71 x76 [1] [[2]] [1] [(1, 2)] w77 ⟨S4, S3, S2⟩ S1 (fun p hp => by simp at hp; subst hp; exact ⟨⟨by decide, by decide⟩, ⟨by decide, by decide⟩⟩)) ?_
  rintro x79 w80 ⟨hx, h'⟩
  exact ⟨by rw [hx.2 lat_ex], (h.trans hb).trans h'⟩
end Go.Proofs.Ytajpdnphamomjaa

/- The conditions of functions, printed by our tool; each is checked against the code by the kernel. -/



namespace Go.Proofs
open Go Go.V Go.RowKit
/-- querylab/querylablaw12.few -/
def S95 (p_0 : Int) (p_1a : Option Addr) (p_1n : Nat) (p_1c : Nat) (p_2 : Int) (p_3 : Int) (p_4a : Option Addr) (p_4n : Nat) (p_4c : Nat) (depth_ : Int) (w0 : World) (R : Value → World → Prop) : Prop :=
 wr Try.prog (Instr.box 67 (.agg #[(.int .i64 p_0), (.slice p_1a p_1n p_1c), (.int .i64 p_2), (.int .i64 p_3), (.slice p_4a p_4n p_4c)])) (.one .addr) w0 fun (x1 : Addr) (w2 : World) =>
 br (decide (depth_ > 30)) (R (.bool false) w2)
 (rd Try.prog (Instr.loadAt 65 (.pointer (some (Addr.add x1 4)))) (.one .slice) w2 fun (x3 : (Option Addr × Nat × Nat)) =>
 br (decide (((x3.2.1 : Nat) : Int) > 3)) (R (.bool false) w2)
 (rd Try.prog (Instr.loadAt 33 (.pointer (some (Addr.add x1 1)))) (.one .slice) w2 fun (x4 : (Option Addr × Nat × Nat)) =>
 br (decide (((x4.2.1 : Nat) : Int) > 12)) (R (.bool false) w2)
 (loop (T := (Int × Unit)) (0, ()) w2 fun (again5 : (Int × Unit) → World → Prop) (s6 : (Int × Unit)) w7 => ∀ _ : Nat → Value,
 rd Try.prog (Instr.loadAt 65 (.pointer (some (Addr.add x1 4)))) (.one .slice) w7 fun (x8 : (Option Addr × Nat × Nat)) =>
 br (decide (s6.1 < ((x8.2.1 : Nat) : Int))) (rd Try.prog (Instr.loadAt 65 (.pointer (some (Addr.add x1 4)))) (.one .slice) w7 fun (x9 : (Option Addr × Nat × Nat)) =>
 rdp Try.prog (Instr.indexAt 65 (.slice x9.1 x9.2.1 x9.2.2) (.int .i64 s6.1)) (.one .addr) fun (x10 : Addr) =>
 rd Try.prog (Instr.loadAt 67 (.pointer (some x10))) (.agg [(.int .i64), .slice, (.int .i64), (.int .i64), .slice]) w7 fun (x11 : (Int × (Option Addr × Nat × Nat) × Int × Int × (Option Addr × Nat × Nat) × Unit)) =>
 z (IntKind.wrap .i64 (depth_ + 1)) fun (z12 : Int) =>
 call Try.prog 95 [(.agg #[(.int .i64 x11.1), (.slice x11.2.1.1 x11.2.1.2.1 x11.2.1.2.2), (.int .i64 x11.2.2.1), (.int .i64 x11.2.2.2.1), (.slice x11.2.2.2.2.1.1 x11.2.2.2.2.1.2.1 x11.2.2.2.2.1.2.2)]), (.int .i64 z12)] (.one (.one .bool)) w7 fun (x13 : Bool) (w14 : World) =>
 br (!x13) (R (.bool false) w14)
 (z (IntKind.wrap .i64 (s6.1 + 1)) fun (z15 : Int) =>
 again5 (z15, ()) w14))
 (R (.bool true) w7))))
def H95 : Hints := ⟨[(2, 0, [(5, (.one (.int .i64)))])], [], [], []⟩
set_option maxRecDepth 100000 in
theorem S95_eq (p_0 : Int) (p_1a : Option Addr) (p_1n : Nat) (p_1c : Nat) (p_2 : Int) (p_3 : Int) (p_4a : Option Addr) (p_4n : Nat) (p_4c : Nat) (depth_ : Int) (w0 : World) (R : Value → World → Prop) : vcFn Try.prog H95 Try.f95 [(.agg #[(.int .i64 p_0), (.slice p_1a p_1n p_1c), (.int .i64 p_2), (.int .i64 p_3), (.slice p_4a p_4n p_4c)]), (.int .i64 depth_)] w0 R = S95 p_0 p_1a p_1n p_1c p_2 p_3 p_4a p_4n p_4c depth_ w0 R := by kernel_rfl
set_option maxRecDepth 100000 in
theorem S95_calls (p_0 : Int) (p_1a : Option Addr) (p_1n : Nat) (p_1c : Nat) (p_2 : Int) (p_3 : Int) (p_4a : Option Addr) (p_4n : Nat) (p_4c : Nat) (depth_ : Int) (w0 : World) (R : Value → World → Prop) (h : S95 p_0 p_1a p_1n p_1c p_2 p_3 p_4a p_4n p_4c depth_ w0 R) : Calls Try.prog 95 #[(.agg #[(.int .i64 p_0), (.slice p_1a p_1n p_1c), (.int .i64 p_2), (.int .i64 p_3), (.slice p_4a p_4n p_4c)]), (.int .i64 depth_)] w0 (ret R) := by
  rw [← S95_eq] at h; exact vcFn_sound follows_ Try.func95 h

/-- querylab/querylablaw12.Few -/
def S46 (p_0 : Int) (p_1a : Option Addr) (p_1n : Nat) (p_1c : Nat) (p_2 : Int) (p_3 : Int) (p_4a : Option Addr) (p_4n : Nat) (p_4c : Nat) (w0 : World) (R : Value → World → Prop) : Prop :=
 wr Try.prog (Instr.box 67 (.agg #[(.int .i64 p_0), (.slice p_1a p_1n p_1c), (.int .i64 p_2), (.int .i64 p_3), (.slice p_4a p_4n p_4c)])) (.one .addr) w0 fun (x1 : Addr) (w2 : World) =>
 rd Try.prog (Instr.loadAt 67 (.pointer (some x1))) (.agg [(.int .i64), .slice, (.int .i64), (.int .i64), .slice]) w2 fun (x3 : (Int × (Option Addr × Nat × Nat) × Int × Int × (Option Addr × Nat × Nat) × Unit)) =>
 call Try.prog 95 [(.agg #[(.int .i64 x3.1), (.slice x3.2.1.1 x3.2.1.2.1 x3.2.1.2.2), (.int .i64 x3.2.2.1), (.int .i64 x3.2.2.2.1), (.slice x3.2.2.2.2.1.1 x3.2.2.2.2.1.2.1 x3.2.2.2.2.1.2.2)]), (.int .i64 0)] (.one (.one .bool)) w2 fun (x4 : Bool) (w5 : World) =>
 R (.bool x4) w5
def H46 : Hints := ⟨[], [], [], []⟩
set_option maxRecDepth 100000 in
theorem S46_eq (p_0 : Int) (p_1a : Option Addr) (p_1n : Nat) (p_1c : Nat) (p_2 : Int) (p_3 : Int) (p_4a : Option Addr) (p_4n : Nat) (p_4c : Nat) (w0 : World) (R : Value → World → Prop) : vcFn Try.prog H46 Try.f46 [(.agg #[(.int .i64 p_0), (.slice p_1a p_1n p_1c), (.int .i64 p_2), (.int .i64 p_3), (.slice p_4a p_4n p_4c)])] w0 R = S46 p_0 p_1a p_1n p_1c p_2 p_3 p_4a p_4n p_4c w0 R := by kernel_rfl
set_option maxRecDepth 100000 in
theorem S46_calls (p_0 : Int) (p_1a : Option Addr) (p_1n : Nat) (p_1c : Nat) (p_2 : Int) (p_3 : Int) (p_4a : Option Addr) (p_4n : Nat) (p_4c : Nat) (w0 : World) (R : Value → World → Prop) (h : S46 p_0 p_1a p_1n p_1c p_2 p_3 p_4a p_4n p_4c w0 R) : Calls Try.prog 46 #[(.agg #[(.int .i64 p_0), (.slice p_1a p_1n p_1c), (.int .i64 p_2), (.int .i64 p_3), (.slice p_4a p_4n p_4c)])] w0 (ret R) := by
  rw [← S46_eq] at h; exact vcFn_sound follows_ Try.func46 h

/-- querylab/integral.Size -/
def S49 (p_0 : Int) (p_1a : Option Addr) (p_1n : Nat) (p_1c : Nat) (p_2 : Int) (p_3 : Int) (p_4a : Option Addr) (p_4n : Nat) (p_4c : Nat) (w0 : World) (R : Value → World → Prop) : Prop :=
 wr Try.prog (Instr.box 67 (.agg #[(.int .i64 p_0), (.slice p_1a p_1n p_1c), (.int .i64 p_2), (.int .i64 p_3), (.slice p_4a p_4n p_4c)])) (.one .addr) w0 fun (x1 : Addr) (w2 : World) =>
 rd Try.prog (Instr.loadAt 65 (.pointer (some (Addr.add x1 4)))) (.one .slice) w2 fun (x3 : (Option Addr × Nat × Nat)) =>
 loop (T := (Int × Int × Unit)) (1, 0, ()) w2 fun (again4 : (Int × Int × Unit) → World → Prop) (s5 : (Int × Int × Unit)) w6 => ∀ _ : Nat → Value,
 br (decide (s5.2.1 < ((x3.2.1 : Nat) : Int))) (rdp Try.prog (Instr.indexAt 65 (.slice x3.1 x3.2.1 x3.2.2) (.int .i64 s5.2.1)) (.one .addr) fun (x7 : Addr) =>
 rd Try.prog (Instr.loadAt 67 (.pointer (some x7))) (.agg [(.int .i64), .slice, (.int .i64), (.int .i64), .slice]) w6 fun (x8 : (Int × (Option Addr × Nat × Nat) × Int × Int × (Option Addr × Nat × Nat) × Unit)) =>
 wr Try.prog (Instr.alloc 67 true (.tuple #[])) (.one .addr) w6 fun (x9 : Addr) (w10 : World) =>
 wu Try.prog (Instr.storeAt 67 (.pointer (some x9)) (.agg #[(.int .i64 x8.1), (.slice x8.2.1.1 x8.2.1.2.1 x8.2.1.2.2), (.int .i64 x8.2.2.1), (.int .i64 x8.2.2.2.1), (.slice x8.2.2.2.2.1.1 x8.2.2.2.2.1.2.1 x8.2.2.2.2.1.2.2)])) w10 fun (w11 : World) =>
 rd Try.prog (Instr.loadAt 67 (.pointer (some x9))) (.agg [(.int .i64), .slice, (.int .i64), (.int .i64), .slice]) w11 fun (x12 : (Int × (Option Addr × Nat × Nat) × Int × Int × (Option Addr × Nat × Nat) × Unit)) =>
 call Try.prog 49 [(.agg #[(.int .i64 x12.1), (.slice x12.2.1.1 x12.2.1.2.1 x12.2.1.2.2), (.int .i64 x12.2.2.1), (.int .i64 x12.2.2.2.1), (.slice x12.2.2.2.2.1.1 x12.2.2.2.2.1.2.1 x12.2.2.2.2.1.2.2)])] (.one (.one (.int .i64))) w11 fun (x13 : Int) (w14 : World) =>
 z (IntKind.wrap .i64 (s5.1 + x13)) fun (z15 : Int) =>
 z (IntKind.wrap .i64 (s5.2.1 + 1)) fun (z16 : Int) =>
 again4 (z15, z16, ()) w14)
 (R (.int .i64 s5.1) w6)
def H49 : Hints := ⟨[(2, 0, [(3, (.one (.int .i64))), (9, (.one (.int .i64)))])], [], [], []⟩
set_option maxRecDepth 100000 in
theorem S49_eq (p_0 : Int) (p_1a : Option Addr) (p_1n : Nat) (p_1c : Nat) (p_2 : Int) (p_3 : Int) (p_4a : Option Addr) (p_4n : Nat) (p_4c : Nat) (w0 : World) (R : Value → World → Prop) : vcFn Try.prog H49 Try.f49 [(.agg #[(.int .i64 p_0), (.slice p_1a p_1n p_1c), (.int .i64 p_2), (.int .i64 p_3), (.slice p_4a p_4n p_4c)])] w0 R = S49 p_0 p_1a p_1n p_1c p_2 p_3 p_4a p_4n p_4c w0 R := by kernel_rfl
set_option maxRecDepth 100000 in
theorem S49_calls (p_0 : Int) (p_1a : Option Addr) (p_1n : Nat) (p_1c : Nat) (p_2 : Int) (p_3 : Int) (p_4a : Option Addr) (p_4n : Nat) (p_4c : Nat) (w0 : World) (R : Value → World → Prop) (h : S49 p_0 p_1a p_1n p_1c p_2 p_3 p_4a p_4n p_4c w0 R) : Calls Try.prog 49 #[(.agg #[(.int .i64 p_0), (.slice p_1a p_1n p_1c), (.int .i64 p_2), (.int .i64 p_3), (.slice p_4a p_4n p_4c)])] w0 (ret R) := by
  rw [← S49_eq] at h; exact vcFn_sound follows_ Try.func49 h

/-- querylab/querylabref12.Size -/
def S50 (p_0 : Int) (p_1a : Option Addr) (p_1n : Nat) (p_1c : Nat) (p_2 : Int) (p_3 : Int) (p_4a : Option Addr) (p_4n : Nat) (p_4c : Nat) (w0 : World) (R : Value → World → Prop) : Prop :=
 wr Try.prog (Instr.box 67 (.agg #[(.int .i64 p_0), (.slice p_1a p_1n p_1c), (.int .i64 p_2), (.int .i64 p_3), (.slice p_4a p_4n p_4c)])) (.one .addr) w0 fun (x1 : Addr) (w2 : World) =>
 loop (T := (Int × Int × Unit)) (1, 0, ()) w2 fun (again3 : (Int × Int × Unit) → World → Prop) (s4 : (Int × Int × Unit)) w5 => ∀ _ : Nat → Value,
 rd Try.prog (Instr.loadAt 65 (.pointer (some (Addr.add x1 4)))) (.one .slice) w5 fun (x6 : (Option Addr × Nat × Nat)) =>
 br (decide (s4.2.1 < ((x6.2.1 : Nat) : Int))) (rd Try.prog (Instr.loadAt 65 (.pointer (some (Addr.add x1 4)))) (.one .slice) w5 fun (x7 : (Option Addr × Nat × Nat)) =>
 rdp Try.prog (Instr.indexAt 65 (.slice x7.1 x7.2.1 x7.2.2) (.int .i64 s4.2.1)) (.one .addr) fun (x8 : Addr) =>
 rd Try.prog (Instr.loadAt 67 (.pointer (some x8))) (.agg [(.int .i64), .slice, (.int .i64), (.int .i64), .slice]) w5 fun (x9 : (Int × (Option Addr × Nat × Nat) × Int × Int × (Option Addr × Nat × Nat) × Unit)) =>
 call Try.prog 50 [(.agg #[(.int .i64 x9.1), (.slice x9.2.1.1 x9.2.1.2.1 x9.2.1.2.2), (.int .i64 x9.2.2.1), (.int .i64 x9.2.2.2.1), (.slice x9.2.2.2.2.1.1 x9.2.2.2.2.1.2.1 x9.2.2.2.2.1.2.2)])] (.one (.one (.int .i64))) w5 fun (x10 : Int) (w11 : World) =>
 z (IntKind.wrap .i64 (s4.1 + x10)) fun (z12 : Int) =>
 z (IntKind.wrap .i64 (s4.2.1 + 1)) fun (z13 : Int) =>
 again3 (z12, z13, ()) w11)
 (R (.int .i64 s4.1) w5)
def H50 : Hints := ⟨[(2, 0, [(3, (.one (.int .i64))), (4, (.one (.int .i64)))])], [], [], []⟩
set_option maxRecDepth 100000 in
theorem S50_eq (p_0 : Int) (p_1a : Option Addr) (p_1n : Nat) (p_1c : Nat) (p_2 : Int) (p_3 : Int) (p_4a : Option Addr) (p_4n : Nat) (p_4c : Nat) (w0 : World) (R : Value → World → Prop) : vcFn Try.prog H50 Try.f50 [(.agg #[(.int .i64 p_0), (.slice p_1a p_1n p_1c), (.int .i64 p_2), (.int .i64 p_3), (.slice p_4a p_4n p_4c)])] w0 R = S50 p_0 p_1a p_1n p_1c p_2 p_3 p_4a p_4n p_4c w0 R := by kernel_rfl
set_option maxRecDepth 100000 in
theorem S50_calls (p_0 : Int) (p_1a : Option Addr) (p_1n : Nat) (p_1c : Nat) (p_2 : Int) (p_3 : Int) (p_4a : Option Addr) (p_4n : Nat) (p_4c : Nat) (w0 : World) (R : Value → World → Prop) (h : S50 p_0 p_1a p_1n p_1c p_2 p_3 p_4a p_4n p_4c w0 R) : Calls Try.prog 50 #[(.agg #[(.int .i64 p_0), (.slice p_1a p_1n p_1c), (.int .i64 p_2), (.int .i64 p_3), (.slice p_4a p_4n p_4c)])] w0 (ret R) := by
  rw [← S50_eq] at h; exact vcFn_sound follows_ Try.func50 h

/-- querylab/integral.depth -/
def S96 (p_0 : Int) (p_1a : Option Addr) (p_1n : Nat) (p_1c : Nat) (p_2 : Int) (p_3 : Int) (p_4a : Option Addr) (p_4n : Nat) (p_4c : Nat) (w0 : World) (R : Value → World → Prop) : Prop :=
 wr Try.prog (Instr.box 67 (.agg #[(.int .i64 p_0), (.slice p_1a p_1n p_1c), (.int .i64 p_2), (.int .i64 p_3), (.slice p_4a p_4n p_4c)])) (.one .addr) w0 fun (x1 : Addr) (w2 : World) =>
 rd Try.prog (Instr.loadAt 65 (.pointer (some (Addr.add x1 4)))) (.one .slice) w2 fun (x3 : (Option Addr × Nat × Nat)) =>
 loop (T := (Int × Int × Unit)) (0, 0, ()) w2 fun (again4 : (Int × Int × Unit) → World → Prop) (s5 : (Int × Int × Unit)) w6 => ∀ _ : Nat → Value,
 br (decide (s5.2.1 < ((x3.2.1 : Nat) : Int))) (rdp Try.prog (Instr.indexAt 65 (.slice x3.1 x3.2.1 x3.2.2) (.int .i64 s5.2.1)) (.one .addr) fun (x7 : Addr) =>
 rd Try.prog (Instr.loadAt 67 (.pointer (some x7))) (.agg [(.int .i64), .slice, (.int .i64), (.int .i64), .slice]) w6 fun (x8 : (Int × (Option Addr × Nat × Nat) × Int × Int × (Option Addr × Nat × Nat) × Unit)) =>
 wr Try.prog (Instr.alloc 67 true (.tuple #[])) (.one .addr) w6 fun (x9 : Addr) (w10 : World) =>
 wu Try.prog (Instr.storeAt 67 (.pointer (some x9)) (.agg #[(.int .i64 x8.1), (.slice x8.2.1.1 x8.2.1.2.1 x8.2.1.2.2), (.int .i64 x8.2.2.1), (.int .i64 x8.2.2.2.1), (.slice x8.2.2.2.2.1.1 x8.2.2.2.2.1.2.1 x8.2.2.2.2.1.2.2)])) w10 fun (w11 : World) =>
 rd Try.prog (Instr.loadAt 67 (.pointer (some x9))) (.agg [(.int .i64), .slice, (.int .i64), (.int .i64), .slice]) w11 fun (x12 : (Int × (Option Addr × Nat × Nat) × Int × Int × (Option Addr × Nat × Nat) × Unit)) =>
 call Try.prog 96 [(.agg #[(.int .i64 x12.1), (.slice x12.2.1.1 x12.2.1.2.1 x12.2.1.2.2), (.int .i64 x12.2.2.1), (.int .i64 x12.2.2.2.1), (.slice x12.2.2.2.2.1.1 x12.2.2.2.2.1.2.1 x12.2.2.2.2.1.2.2)])] (.one (.one (.int .i64))) w11 fun (x13 : Int) (w14 : World) =>
 z (if x13 > s5.1 then x13 else s5.1) fun (z15 : Int) =>
 z (IntKind.wrap .i64 (s5.2.1 + 1)) fun (z16 : Int) =>
 again4 (z15, z16, ()) w14)
 (z (IntKind.wrap .i64 (s5.1 + 1)) fun (z17 : Int) =>
 R (.int .i64 z17) w6)
def H96 : Hints := ⟨[(2, 0, [(3, (.one (.int .i64))), (9, (.one (.int .i64)))])], [], [], []⟩
set_option maxRecDepth 100000 in
theorem S96_eq (p_0 : Int) (p_1a : Option Addr) (p_1n : Nat) (p_1c : Nat) (p_2 : Int) (p_3 : Int) (p_4a : Option Addr) (p_4n : Nat) (p_4c : Nat) (w0 : World) (R : Value → World → Prop) : vcFn Try.prog H96 Try.f96 [(.agg #[(.int .i64 p_0), (.slice p_1a p_1n p_1c), (.int .i64 p_2), (.int .i64 p_3), (.slice p_4a p_4n p_4c)])] w0 R = S96 p_0 p_1a p_1n p_1c p_2 p_3 p_4a p_4n p_4c w0 R := by kernel_rfl
set_option maxRecDepth 100000 in
theorem S96_calls (p_0 : Int) (p_1a : Option Addr) (p_1n : Nat) (p_1c : Nat) (p_2 : Int) (p_3 : Int) (p_4a : Option Addr) (p_4n : Nat) (p_4c : Nat) (w0 : World) (R : Value → World → Prop) (h : S96 p_0 p_1a p_1n p_1c p_2 p_3 p_4a p_4n p_4c w0 R) : Calls Try.prog 96 #[(.agg #[(.int .i64 p_0), (.slice p_1a p_1n p_1c), (.int .i64 p_2), (.int .i64 p_3), (.slice p_4a p_4n p_4c)])] w0 (ret R) := by
  rw [← S96_eq] at h; exact vcFn_sound follows_ Try.func96 h

/-- querylab/querylabref12.depth -/
def S98 (p_0 : Int) (p_1a : Option Addr) (p_1n : Nat) (p_1c : Nat) (p_2 : Int) (p_3 : Int) (p_4a : Option Addr) (p_4n : Nat) (p_4c : Nat) (w0 : World) (R : Value → World → Prop) : Prop :=
 wr Try.prog (Instr.box 67 (.agg #[(.int .i64 p_0), (.slice p_1a p_1n p_1c), (.int .i64 p_2), (.int .i64 p_3), (.slice p_4a p_4n p_4c)])) (.one .addr) w0 fun (x1 : Addr) (w2 : World) =>
 loop (T := (Int × Int × Unit)) (0, 0, ()) w2 fun (again3 : (Int × Int × Unit) → World → Prop) (s4 : (Int × Int × Unit)) w5 => ∀ _ : Nat → Value,
 rd Try.prog (Instr.loadAt 65 (.pointer (some (Addr.add x1 4)))) (.one .slice) w5 fun (x6 : (Option Addr × Nat × Nat)) =>
 br (decide (s4.2.1 < ((x6.2.1 : Nat) : Int))) (rd Try.prog (Instr.loadAt 65 (.pointer (some (Addr.add x1 4)))) (.one .slice) w5 fun (x7 : (Option Addr × Nat × Nat)) =>
 rdp Try.prog (Instr.indexAt 65 (.slice x7.1 x7.2.1 x7.2.2) (.int .i64 s4.2.1)) (.one .addr) fun (x8 : Addr) =>
 rd Try.prog (Instr.loadAt 67 (.pointer (some x8))) (.agg [(.int .i64), .slice, (.int .i64), (.int .i64), .slice]) w5 fun (x9 : (Int × (Option Addr × Nat × Nat) × Int × Int × (Option Addr × Nat × Nat) × Unit)) =>
 call Try.prog 98 [(.agg #[(.int .i64 x9.1), (.slice x9.2.1.1 x9.2.1.2.1 x9.2.1.2.2), (.int .i64 x9.2.2.1), (.int .i64 x9.2.2.2.1), (.slice x9.2.2.2.2.1.1 x9.2.2.2.2.1.2.1 x9.2.2.2.2.1.2.2)])] (.one (.one (.int .i64))) w5 fun (x10 : Int) (w11 : World) =>
 z (if x10 > s4.1 then x10 else s4.1) fun (z12 : Int) =>
 z (IntKind.wrap .i64 (s4.2.1 + 1)) fun (z13 : Int) =>
 again3 (z12, z13, ()) w11)
 (z (IntKind.wrap .i64 (s4.1 + 1)) fun (z14 : Int) =>
 R (.int .i64 z14) w5)
def H98 : Hints := ⟨[(2, 0, [(3, (.one (.int .i64))), (4, (.one (.int .i64)))])], [], [], []⟩
set_option maxRecDepth 100000 in
theorem S98_eq (p_0 : Int) (p_1a : Option Addr) (p_1n : Nat) (p_1c : Nat) (p_2 : Int) (p_3 : Int) (p_4a : Option Addr) (p_4n : Nat) (p_4c : Nat) (w0 : World) (R : Value → World → Prop) : vcFn Try.prog H98 Try.f98 [(.agg #[(.int .i64 p_0), (.slice p_1a p_1n p_1c), (.int .i64 p_2), (.int .i64 p_3), (.slice p_4a p_4n p_4c)])] w0 R = S98 p_0 p_1a p_1n p_1c p_2 p_3 p_4a p_4n p_4c w0 R := by kernel_rfl
set_option maxRecDepth 100000 in
theorem S98_calls (p_0 : Int) (p_1a : Option Addr) (p_1n : Nat) (p_1c : Nat) (p_2 : Int) (p_3 : Int) (p_4a : Option Addr) (p_4n : Nat) (p_4c : Nat) (w0 : World) (R : Value → World → Prop) (h : S98 p_0 p_1a p_1n p_1c p_2 p_3 p_4a p_4n p_4c w0 R) : Calls Try.prog 98 #[(.agg #[(.int .i64 p_0), (.slice p_1a p_1n p_1c), (.int .i64 p_2), (.int .i64 p_3), (.slice p_4a p_4n p_4c)])] w0 (ret R) := by
  rw [← S98_eq] at h; exact vcFn_sound follows_ Try.func98 h

/-- querylab/querylabref12.copied -/
def S125 (l_a : Option Addr) (l_n : Nat) (l_c : Nat) (w0 : World) (R : Value → World → Prop) : Prop :=
 wr Try.prog (Instr.makeSlice 40 (.int .i64 ((l_n : Nat) : Int)) (.int .i64 ((l_n : Nat) : Int))) (.one .slice) w0 fun (x1 : (Option Addr × Nat × Nat)) (w2 : World) =>
 wr Try.prog (Builtin.copy_ #[40, 40] 3 #[(.slice x1.1 x1.2.1 x1.2.2), (.slice l_a l_n l_c)]) (.one (.int .i64)) w2 fun (_x3 : Int) (w4 : World) =>
 R (.slice x1.1 x1.2.1 x1.2.2) w4
def H125 : Hints := ⟨[], [], [], []⟩
set_option maxRecDepth 100000 in
theorem S125_eq (l_a : Option Addr) (l_n : Nat) (l_c : Nat) (w0 : World) (R : Value → World → Prop) : vcFn Try.prog H125 Try.f125 [(.slice l_a l_n l_c)] w0 R = S125 l_a l_n l_c w0 R := by kernel_rfl
set_option maxRecDepth 100000 in
theorem S125_calls (l_a : Option Addr) (l_n : Nat) (l_c : Nat) (w0 : World) (R : Value → World → Prop) (h : S125 l_a l_n l_c w0 R) : Calls Try.prog 125 #[(.slice l_a l_n l_c)] w0 (ret R) := by
  rw [← S125_eq] at h; exact vcFn_sound follows_ Try.func125 h

/-- slices.Clone[[]int64,int64] -/
def S124 (s_a : Option Addr) (s_n : Nat) (s_c : Nat) (w0 : World) (R : Value → World → Prop) : Prop :=
 rd Try.prog (cmpS .eql 40 (.tmp 3) (.const (.slice none 0 0)) (.slice s_a s_n s_c) (.slice none 0 0)) (.one .bool) w0 fun (x1 : Bool) =>
 br x1 (R (.slice none 0 0) w0)
 (wr Try.prog (Instr.buildSlice 40 0 #[]) (.one .slice) w0 fun (x2 : (Option Addr × Nat × Nat)) (w3 : World) =>
 wr Try.prog (Builtin.append_ #[40, 40] 40 #[(.slice x2.1 x2.2.1 x2.2.2), (.slice s_a s_n s_c)]) (.one .slice) w3 fun (x4 : (Option Addr × Nat × Nat)) (w5 : World) =>
 R (.slice x4.1 x4.2.1 x4.2.2) w5)
def H124 : Hints := ⟨[], [], [], []⟩
set_option maxRecDepth 100000 in
theorem S124_eq (s_a : Option Addr) (s_n : Nat) (s_c : Nat) (w0 : World) (R : Value → World → Prop) : vcFn Try.prog H124 Try.f124 [(.slice s_a s_n s_c)] w0 R = S124 s_a s_n s_c w0 R := by kernel_rfl
set_option maxRecDepth 100000 in
theorem S124_calls (s_a : Option Addr) (s_n : Nat) (s_c : Nat) (w0 : World) (R : Value → World → Prop) (h : S124 s_a s_n s_c w0 R) : Calls Try.prog 124 #[(.slice s_a s_n s_c)] w0 (ret R) := by
  rw [← S124_eq] at h; exact vcFn_sound follows_ Try.func124 h

/-- querylab/integral.right -/
def S97 (s_0a : Option Addr) (s_0n : Nat) (s_0c : Nat) (s_1a : Option Addr) (s_1n : Nat) (s_1c : Nat) (s_2a : Option Addr) (s_2n : Nat) (s_2c : Nat) (p_0 : Int) (p_1a : Option Addr) (p_1n : Nat) (p_1c : Nat) (p_2 : Int) (p_3 : Int) (p_4a : Option Addr) (p_4n : Nat) (p_4c : Nat) (lower_a : Option Addr) (lower_n : Nat) (lower_c : Nat) (upper_a : Option Addr) (upper_n : Nat) (upper_c : Nat) (w0 : World) (R : Value → World → Prop) : Prop :=
 wr Try.prog (Instr.box 43 (.agg #[(.slice s_0a s_0n s_0c), (.slice s_1a s_1n s_1c), (.slice s_2a s_2n s_2c)])) (.one .addr) w0 fun (x1 : Addr) (w2 : World) =>
 wr Try.prog (Instr.box 67 (.agg #[(.int .i64 p_0), (.slice p_1a p_1n p_1c), (.int .i64 p_2), (.int .i64 p_3), (.slice p_4a p_4n p_4c)])) (.one .addr) w2 fun (x3 : Addr) (w4 : World) =>
 join (T := (Bool × Unit)) (fun (s6 : (Bool × Unit)) w7 => ∀ _ : Nat → Value,
 rd Try.prog (Instr.loadAt 3 (.pointer (some x3))) (.one (.int .i64)) w7 fun (x8 : Int) =>
 br (x8 == 1) (br (!s6.1) (rd Try.prog (Instr.loadAt 43 (.pointer (some x1))) (.agg [.slice, .slice, .slice]) w7 fun (x9 : ((Option Addr × Nat × Nat) × (Option Addr × Nat × Nat) × (Option Addr × Nat × Nat) × Unit)) =>
 rd Try.prog (Instr.loadAt 33 (.pointer (some (Addr.add x3 1)))) (.one .slice) w7 fun (x10 : (Option Addr × Nat × Nat)) =>
 call Try.prog 41 [(.agg #[(.slice x9.1.1 x9.1.2.1 x9.1.2.2), (.slice x9.2.1.1 x9.2.1.2.1 x9.2.1.2.2), (.slice x9.2.2.1.1 x9.2.2.1.2.1 x9.2.2.1.2.2)]), (.slice lower_a lower_n lower_c), (.slice upper_a upper_n upper_c), (.slice x10.1 x10.2.1 x10.2.2)] (.one (.one .bool)) w7 fun (x11 : Bool) (w12 : World) =>
 R (.bool x11) w12)
 (R (.bool false) w7))
 (br (x8 == 2) (br (!s6.1) (rd Try.prog (Instr.loadAt 43 (.pointer (some x1))) (.agg [.slice, .slice, .slice]) w7 fun (x13 : ((Option Addr × Nat × Nat) × (Option Addr × Nat × Nat) × (Option Addr × Nat × Nat) × Unit)) =>
 rd Try.prog (Instr.loadAt 33 (.pointer (some (Addr.add x3 1)))) (.one .slice) w7 fun (x14 : (Option Addr × Nat × Nat)) =>
 call Try.prog 39 [(.agg #[(.slice x13.1.1 x13.1.2.1 x13.1.2.2), (.slice x13.2.1.1 x13.2.1.2.1 x13.2.1.2.2), (.slice x13.2.2.1.1 x13.2.2.1.2.1 x13.2.2.1.2.2)]), (.slice x14.1 x14.2.1 x14.2.2)] (.one (.one .bool)) w7 fun (x15 : Bool) (w16 : World) =>
 R (.bool x15) w16)
 (R (.bool false) w7))
 (br (x8 == 3) (rd Try.prog (Instr.loadAt 65 (.pointer (some (Addr.add x3 4)))) (.one .slice) w7 fun (x17 : (Option Addr × Nat × Nat)) =>
 br (((x17.2.1 : Nat) : Int) != 2) (R (.bool false) w7)
 (rd Try.prog (Instr.loadAt 33 (.pointer (some (Addr.add x3 1)))) (.one .slice) w7 fun (x18 : (Option Addr × Nat × Nat)) =>
 br (decide (((x18.2.1 : Nat) : Int) > 0)) (R (.bool false) w7)
 (rd Try.prog (Instr.loadAt 3 (.pointer (some (Addr.add x3 2)))) (.one (.int .i64)) w7 fun (x19 : Int) =>
 br (decide (x19 < 0)) (R (.bool false) w7)
 (rd Try.prog (Instr.loadAt 3 (.pointer (some (Addr.add x3 2)))) (.one (.int .i64)) w7 fun (x20 : Int) =>
 rd Try.prog (Instr.loadAt 40 (.pointer (some x1))) (.one .slice) w7 fun (x21 : (Option Addr × Nat × Nat)) =>
 br (decide (x20 ≥ ((x21.2.1 : Nat) : Int))) (R (.bool false) w7)
 (rd Try.prog (Instr.loadAt 2 (.pointer (some (Addr.add x3 3)))) (.one (.int .i64)) w7 fun (x22 : Int) =>
 br (decide (x22 < 0)) (R (.bool false) w7)
 (rd Try.prog (Instr.loadAt 2 (.pointer (some (Addr.add x3 3)))) (.one (.int .i64)) w7 fun (x23 : Int) =>
 br (decide (x23 > 1000000000)) (R (.bool false) w7)
 (call Try.prog 124 [(.slice lower_a lower_n lower_c)] (.one (.one .slice)) w7 fun (x24 : (Option Addr × Nat × Nat)) (w25 : World) =>
 call Try.prog 124 [(.slice upper_a upper_n upper_c)] (.one (.one .slice)) w25 fun (x26 : (Option Addr × Nat × Nat)) (w27 : World) =>
 drw w27 fun w28 => flExC w28 fun E31 G30 Y29 F32 =>
 rdE Try.prog (ER Y29 [24, 26] E31) (Instr.loadAt 3 (.pointer (some (Addr.add x3 2)))) (.one (.int .i64)) w28 fun (x33 : Int) =>
 rdE Try.prog (ER Y29 [26] E31) (Instr.loadAt 3 (.pointer (some (Addr.add x3 2)))) (.one (.int .i64)) w28 fun (x34 : Int) =>
 rdE Try.prog (ER Y29 [24, 26] E31) (Instr.loadAt 3 (.pointer (some (Addr.add x3 2)))) (.one (.int .i64)) w28 fun (x35 : Int) =>
 rdp Try.prog (Instr.indexAt 40 (.slice x26.1 x26.2.1 x26.2.2) (.int .i64 x35)) (.one .addr) fun (x36 : Addr) =>
 rdE Try.prog (ER Y29 [24, 26] E31) (Instr.loadAt 2 (.pointer (some x36))) (.one (.int .i64)) w28 fun (x37 : Int) =>
 rdE Try.prog (ER Y29 [24, 26] E31) (Instr.loadAt 2 (.pointer (some (Addr.add x3 3)))) (.one (.int .i64)) w28 fun (x38 : Int) =>
 z (if x38 < x37 then x38 else x37) fun (z39 : Int) =>
 rdE Try.prog (ER Y29 [24, 26] E31) (Instr.loadAt 3 (.pointer (some (Addr.add x3 2)))) (.one (.int .i64)) w28 fun (x40 : Int) =>
 rdp Try.prog (Instr.indexAt 40 (.slice x24.1 x24.2.1 x24.2.2) (.int .i64 x40)) (.one .addr) fun (x41 : Addr) =>
 rdE Try.prog (ER Y29 [24, 26] E31) (Instr.loadAt 2 (.pointer (some x41))) (.one (.int .i64)) w28 fun (x42 : Int) =>
 rdE Try.prog (ER Y29 [26] E31) (Instr.loadAt 2 (.pointer (some (Addr.add x3 3)))) (.one (.int .i64)) w28 fun (x43 : Int) =>
 z (IntKind.wrap .i64 (x43 + 1)) fun (z44 : Int) =>
 z (if z44 > x42 then z44 else x42) fun (z45 : Int) =>
 rdp Try.prog (Instr.indexAt 40 (.slice x26.1 x26.2.1 x26.2.2) (.int .i64 x33)) (.one .addr) fun (x46 : Addr) =>
 flcC Y29 24 E31 w28 (fun _w48 => True) (fun (D49 : Nat → Bool) (w47 : World) =>
   wu Try.prog (Instr.storeAt 2 (.pointer (some x46)) (.int .i64 z39)) w47 fun (w50 : World) =>
 (E31 w47 w50 ∧ G30 24 w47 w50 ∧ Y29 (setD D49 24) w50 ∧ F32 24 [] undef w50))
  fun (_x51 : (Unit)) =>
 flendC Y29 [24] E31 w28 (fun w53 => F32 24 [] (.tuple #[]) w53 ∧ True) fun w52 =>
 rdp Try.prog (Instr.indexAt 40 (.slice x24.1 x24.2.1 x24.2.2) (.int .i64 x34)) (.one .addr) fun (x54 : Addr) =>
 wu Try.prog (Instr.storeAt 2 (.pointer (some x54)) (.int .i64 z45)) w52 fun (w55 : World) =>
 drw w55 fun w56 => flEx fun F57 =>
 rd Try.prog (Instr.loadAt 43 (.pointer (some x1))) (.agg [.slice, .slice, .slice]) w56 fun (x58 : ((Option Addr × Nat × Nat) × (Option Addr × Nat × Nat) × (Option Addr × Nat × Nat) × Unit)) =>
 rd Try.prog (Instr.loadAt 65 (.pointer (some (Addr.add x3 4)))) (.one .slice) w56 fun (x59 : (Option Addr × Nat × Nat)) =>
 rdp Try.prog (Instr.indexAt 65 (.slice x59.1 x59.2.1 x59.2.2) (.int .i64 0)) (.one .addr) fun (x60 : Addr) =>
 rd Try.prog (Instr.loadAt 67 (.pointer (some x60))) (.agg [(.int .i64), .slice, (.int .i64), (.int .i64), .slice]) w56 fun (x61 : (Int × (Option Addr × Nat × Nat) × Int × Int × (Option Addr × Nat × Nat) × Unit)) =>
 flc bel w56 (fun _w63 => True) (fun (w62 : World) =>
   call Try.prog 97 [(.agg #[(.slice x58.1.1 x58.1.2.1 x58.1.2.2), (.slice x58.2.1.1 x58.2.1.2.1 x58.2.1.2.2), (.slice x58.2.2.1.1 x58.2.2.1.2.1 x58.2.2.1.2.2)]), (.agg #[(.int .i64 x61.1), (.slice x61.2.1.1 x61.2.1.2.1 x61.2.1.2.2), (.int .i64 x61.2.2.1), (.int .i64 x61.2.2.2.1), (.slice x61.2.2.2.2.1.1 x61.2.2.2.2.1.2.1 x61.2.2.2.2.1.2.2)]), (.slice lower_a lower_n lower_c), (.slice x26.1 x26.2.1 x26.2.2)] (.one (.one .bool)) w62 fun (x64 : Bool) (w65 : World) =>
 (bel w62 w65 ∧ F57 7 [(.agg #[(.slice x58.1.1 x58.1.2.1 x58.1.2.2), (.slice x58.2.1.1 x58.2.1.2.1 x58.2.1.2.2), (.slice x58.2.2.1.1 x58.2.2.1.2.1 x58.2.2.1.2.2)]), (.agg #[(.int .i64 x61.1), (.slice x61.2.1.1 x61.2.1.2.1 x61.2.1.2.2), (.int .i64 x61.2.2.1), (.int .i64 x61.2.2.2.1), (.slice x61.2.2.2.2.1.1 x61.2.2.2.2.1.2.1 x61.2.2.2.2.1.2.2)]), (.slice lower_a lower_n lower_c), (.slice x26.1 x26.2.1 x26.2.2)] (.bool x64) w65))
  fun (x66 : Bool) =>
 br x66 (rd Try.prog (Instr.loadAt 43 (.pointer (some x1))) (.agg [.slice, .slice, .slice]) w56 fun (x67 : ((Option Addr × Nat × Nat) × (Option Addr × Nat × Nat) × (Option Addr × Nat × Nat) × Unit)) =>
 rd Try.prog (Instr.loadAt 65 (.pointer (some (Addr.add x3 4)))) (.one .slice) w56 fun (x68 : (Option Addr × Nat × Nat)) =>
 rdp Try.prog (Instr.indexAt 65 (.slice x68.1 x68.2.1 x68.2.2) (.int .i64 1)) (.one .addr) fun (x69 : Addr) =>
 rd Try.prog (Instr.loadAt 67 (.pointer (some x69))) (.agg [(.int .i64), .slice, (.int .i64), (.int .i64), .slice]) w56 fun (x70 : (Int × (Option Addr × Nat × Nat) × Int × Int × (Option Addr × Nat × Nat) × Unit)) =>
 flend bel w56 (fun w72 => F57 7 [(.agg #[(.slice x58.1.1 x58.1.2.1 x58.1.2.2), (.slice x58.2.1.1 x58.2.1.2.1 x58.2.1.2.2), (.slice x58.2.2.1.1 x58.2.2.1.2.1 x58.2.2.1.2.2)]), (.agg #[(.int .i64 x61.1), (.slice x61.2.1.1 x61.2.1.2.1 x61.2.1.2.2), (.int .i64 x61.2.2.1), (.int .i64 x61.2.2.2.1), (.slice x61.2.2.2.2.1.1 x61.2.2.2.2.1.2.1 x61.2.2.2.2.1.2.2)]), (.slice lower_a lower_n lower_c), (.slice x26.1 x26.2.1 x26.2.2)] (.bool x66) w72 ∧ True) fun w71 =>
 call Try.prog 97 [(.agg #[(.slice x67.1.1 x67.1.2.1 x67.1.2.2), (.slice x67.2.1.1 x67.2.1.2.1 x67.2.1.2.2), (.slice x67.2.2.1.1 x67.2.2.1.2.1 x67.2.2.1.2.2)]), (.agg #[(.int .i64 x70.1), (.slice x70.2.1.1 x70.2.1.2.1 x70.2.1.2.2), (.int .i64 x70.2.2.1), (.int .i64 x70.2.2.2.1), (.slice x70.2.2.2.2.1.1 x70.2.2.2.2.1.2.1 x70.2.2.2.2.1.2.2)]), (.slice x24.1 x24.2.1 x24.2.2), (.slice upper_a upper_n upper_c)] (.one (.one .bool)) w71 fun (x73 : Bool) (w74 : World) =>
 R (.bool x73) w74)
 (flend bel w56 (fun w76 => F57 7 [(.agg #[(.slice x58.1.1 x58.1.2.1 x58.1.2.2), (.slice x58.2.1.1 x58.2.1.2.1 x58.2.1.2.2), (.slice x58.2.2.1.1 x58.2.2.1.2.1 x58.2.2.1.2.2)]), (.agg #[(.int .i64 x61.1), (.slice x61.2.1.1 x61.2.1.2.1 x61.2.1.2.2), (.int .i64 x61.2.2.1), (.int .i64 x61.2.2.2.1), (.slice x61.2.2.2.2.1.1 x61.2.2.2.2.1.2.1 x61.2.2.2.2.1.2.2)]), (.slice lower_a lower_n lower_c), (.slice x26.1 x26.2.1 x26.2.2)] (.bool x66) w76 ∧ True) fun w75 =>
 R (.bool false) w75))))))))
 (R (.bool false) w7))))
  fun (K5 : (Bool × Unit) → World → Prop) =>
 rd Try.prog (Instr.loadAt 3 (.pointer (some (Addr.add x3 2)))) (.one (.int .i64)) w4 fun (x77 : Int) =>
 br (x77 != 0) (K5 (true, ()) w4)
 (rd Try.prog (Instr.loadAt 2 (.pointer (some (Addr.add x3 3)))) (.one (.int .i64)) w4 fun (x78 : Int) =>
 br (x78 != 0) (K5 (true, ()) w4)
 (rd Try.prog (Instr.loadAt 65 (.pointer (some (Addr.add x3 4)))) (.one .slice) w4 fun (x79 : (Option Addr × Nat × Nat)) =>
 K5 ((decide (((x79.2.1 : Nat) : Int) > 0)), ()) w4))
def H97 : Hints := ⟨[(3, 1, [(9, (.one .bool))])], [(11, 25), (12, 16)], [], [1000011]⟩
set_option maxRecDepth 100000 in
theorem S97_eq (s_0a : Option Addr) (s_0n : Nat) (s_0c : Nat) (s_1a : Option Addr) (s_1n : Nat) (s_1c : Nat) (s_2a : Option Addr) (s_2n : Nat) (s_2c : Nat) (p_0 : Int) (p_1a : Option Addr) (p_1n : Nat) (p_1c : Nat) (p_2 : Int) (p_3 : Int) (p_4a : Option Addr) (p_4n : Nat) (p_4c : Nat) (lower_a : Option Addr) (lower_n : Nat) (lower_c : Nat) (upper_a : Option Addr) (upper_n : Nat) (upper_c : Nat) (w0 : World) (R : Value → World → Prop) : vcFn Try.prog H97 Try.f97 [(.agg #[(.slice s_0a s_0n s_0c), (.slice s_1a s_1n s_1c), (.slice s_2a s_2n s_2c)]), (.agg #[(.int .i64 p_0), (.slice p_1a p_1n p_1c), (.int .i64 p_2), (.int .i64 p_3), (.slice p_4a p_4n p_4c)]), (.slice lower_a lower_n lower_c), (.slice upper_a upper_n upper_c)] w0 R = S97 s_0a s_0n s_0c s_1a s_1n s_1c s_2a s_2n s_2c p_0 p_1a p_1n p_1c p_2 p_3 p_4a p_4n p_4c lower_a lower_n lower_c upper_a upper_n upper_c w0 R := by kernel_rfl
set_option maxRecDepth 100000 in
theorem S97_calls (s_0a : Option Addr) (s_0n : Nat) (s_0c : Nat) (s_1a : Option Addr) (s_1n : Nat) (s_1c : Nat) (s_2a : Option Addr) (s_2n : Nat) (s_2c : Nat) (p_0 : Int) (p_1a : Option Addr) (p_1n : Nat) (p_1c : Nat) (p_2 : Int) (p_3 : Int) (p_4a : Option Addr) (p_4n : Nat) (p_4c : Nat) (lower_a : Option Addr) (lower_n : Nat) (lower_c : Nat) (upper_a : Option Addr) (upper_n : Nat) (upper_c : Nat) (w0 : World) (R : Value → World → Prop) (h : S97 s_0a s_0n s_0c s_1a s_1n s_1c s_2a s_2n s_2c p_0 p_1a p_1n p_1c p_2 p_3 p_4a p_4n p_4c lower_a lower_n lower_c upper_a upper_n upper_c w0 R) : Calls Try.prog 97 #[(.agg #[(.slice s_0a s_0n s_0c), (.slice s_1a s_1n s_1c), (.slice s_2a s_2n s_2c)]), (.agg #[(.int .i64 p_0), (.slice p_1a p_1n p_1c), (.int .i64 p_2), (.int .i64 p_3), (.slice p_4a p_4n p_4c)]), (.slice lower_a lower_n lower_c), (.slice upper_a upper_n upper_c)] w0 (ret R) := by
  rw [← S97_eq] at h; exact vcFn_sound follows_ Try.func97 h

/-- querylab/querylabref12.right -/
def S99 (s_0a : Option Addr) (s_0n : Nat) (s_0c : Nat) (s_1a : Option Addr) (s_1n : Nat) (s_1c : Nat) (s_2a : Option Addr) (s_2n : Nat) (s_2c : Nat) (p_0 : Int) (p_1a : Option Addr) (p_1n : Nat) (p_1c : Nat) (p_2 : Int) (p_3 : Int) (p_4a : Option Addr) (p_4n : Nat) (p_4c : Nat) (lower_a : Option Addr) (lower_n : Nat) (lower_c : Nat) (upper_a : Option Addr) (upper_n : Nat) (upper_c : Nat) (w0 : World) (R : Value → World → Prop) : Prop :=
 wr Try.prog (Instr.box 43 (.agg #[(.slice s_0a s_0n s_0c), (.slice s_1a s_1n s_1c), (.slice s_2a s_2n s_2c)])) (.one .addr) w0 fun (x1 : Addr) (w2 : World) =>
 wr Try.prog (Instr.box 67 (.agg #[(.int .i64 p_0), (.slice p_1a p_1n p_1c), (.int .i64 p_2), (.int .i64 p_3), (.slice p_4a p_4n p_4c)])) (.one .addr) w2 fun (x3 : Addr) (w4 : World) =>
 rd Try.prog (Instr.loadAt 3 (.pointer (some x3))) (.one (.int .i64)) w4 fun (x5 : Int) =>
 br (x5 == 1) (rd Try.prog (Instr.loadAt 65 (.pointer (some (Addr.add x3 4)))) (.one .slice) w4 fun (x6 : (Option Addr × Nat × Nat)) =>
 br (((x6.2.1 : Nat) : Int) == 0) (rd Try.prog (Instr.loadAt 3 (.pointer (some (Addr.add x3 2)))) (.one (.int .i64)) w4 fun (x7 : Int) =>
 br (x7 == 0) (rd Try.prog (Instr.loadAt 2 (.pointer (some (Addr.add x3 3)))) (.one (.int .i64)) w4 fun (x8 : Int) =>
 br (x8 == 0) (rd Try.prog (Instr.loadAt 43 (.pointer (some x1))) (.agg [.slice, .slice, .slice]) w4 fun (x9 : ((Option Addr × Nat × Nat) × (Option Addr × Nat × Nat) × (Option Addr × Nat × Nat) × Unit)) =>
 rd Try.prog (Instr.loadAt 33 (.pointer (some (Addr.add x3 1)))) (.one .slice) w4 fun (x10 : (Option Addr × Nat × Nat)) =>
 call Try.prog 42 [(.agg #[(.slice x9.1.1 x9.1.2.1 x9.1.2.2), (.slice x9.2.1.1 x9.2.1.2.1 x9.2.1.2.2), (.slice x9.2.2.1.1 x9.2.2.1.2.1 x9.2.2.1.2.2)]), (.slice lower_a lower_n lower_c), (.slice upper_a upper_n upper_c), (.slice x10.1 x10.2.1 x10.2.2)] (.one (.one .bool)) w4 fun (x11 : Bool) (w12 : World) =>
 R (.bool x11) w12)
 (R (.bool false) w4))
 (R (.bool false) w4))
 (R (.bool false) w4))
 (br (x5 == 2) (rd Try.prog (Instr.loadAt 65 (.pointer (some (Addr.add x3 4)))) (.one .slice) w4 fun (x13 : (Option Addr × Nat × Nat)) =>
 br (((x13.2.1 : Nat) : Int) == 0) (rd Try.prog (Instr.loadAt 3 (.pointer (some (Addr.add x3 2)))) (.one (.int .i64)) w4 fun (x14 : Int) =>
 br (x14 == 0) (rd Try.prog (Instr.loadAt 2 (.pointer (some (Addr.add x3 3)))) (.one (.int .i64)) w4 fun (x15 : Int) =>
 br (x15 == 0) (rd Try.prog (Instr.loadAt 43 (.pointer (some x1))) (.agg [.slice, .slice, .slice]) w4 fun (x16 : ((Option Addr × Nat × Nat) × (Option Addr × Nat × Nat) × (Option Addr × Nat × Nat) × Unit)) =>
 rd Try.prog (Instr.loadAt 33 (.pointer (some (Addr.add x3 1)))) (.one .slice) w4 fun (x17 : (Option Addr × Nat × Nat)) =>
 call Try.prog 40 [(.agg #[(.slice x16.1.1 x16.1.2.1 x16.1.2.2), (.slice x16.2.1.1 x16.2.1.2.1 x16.2.1.2.2), (.slice x16.2.2.1.1 x16.2.2.1.2.1 x16.2.2.1.2.2)]), (.slice x17.1 x17.2.1 x17.2.2)] (.one (.one .bool)) w4 fun (x18 : Bool) (w19 : World) =>
 R (.bool x18) w19)
 (R (.bool false) w4))
 (R (.bool false) w4))
 (R (.bool false) w4))
 (br (x5 == 3) (rd Try.prog (Instr.loadAt 65 (.pointer (some (Addr.add x3 4)))) (.one .slice) w4 fun (x20 : (Option Addr × Nat × Nat)) =>
 br (((x20.2.1 : Nat) : Int) != 2) (R (.bool false) w4)
 (rd Try.prog (Instr.loadAt 33 (.pointer (some (Addr.add x3 1)))) (.one .slice) w4 fun (x21 : (Option Addr × Nat × Nat)) =>
 br (decide (((x21.2.1 : Nat) : Int) > 0)) (R (.bool false) w4)
 (rd Try.prog (Instr.loadAt 3 (.pointer (some (Addr.add x3 2)))) (.one (.int .i64)) w4 fun (x22 : Int) =>
 br (decide (x22 < 0)) (R (.bool false) w4)
 (rd Try.prog (Instr.loadAt 3 (.pointer (some (Addr.add x3 2)))) (.one (.int .i64)) w4 fun (x23 : Int) =>
 rd Try.prog (Instr.loadAt 40 (.pointer (some x1))) (.one .slice) w4 fun (x24 : (Option Addr × Nat × Nat)) =>
 br (decide (x23 ≥ ((x24.2.1 : Nat) : Int))) (R (.bool false) w4)
 (rd Try.prog (Instr.loadAt 2 (.pointer (some (Addr.add x3 3)))) (.one (.int .i64)) w4 fun (x25 : Int) =>
 br (decide (x25 < 0)) (R (.bool false) w4)
 (rd Try.prog (Instr.loadAt 2 (.pointer (some (Addr.add x3 3)))) (.one (.int .i64)) w4 fun (x26 : Int) =>
 br (decide (x26 > 1000000000)) (R (.bool false) w4)
 (call Try.prog 125 [(.slice lower_a lower_n lower_c)] (.one (.one .slice)) w4 fun (x27 : (Option Addr × Nat × Nat)) (w28 : World) =>
 call Try.prog 125 [(.slice upper_a upper_n upper_c)] (.one (.one .slice)) w28 fun (x29 : (Option Addr × Nat × Nat)) (w30 : World) =>
 drw w30 fun w31 =>
 rd Try.prog (Instr.loadAt 3 (.pointer (some (Addr.add x3 2)))) (.one (.int .i64)) w31 fun (x32 : Int) =>
 rd Try.prog (Instr.loadAt 3 (.pointer (some (Addr.add x3 2)))) (.one (.int .i64)) w31 fun (x33 : Int) =>
 rdp Try.prog (Instr.indexAt 40 (.slice x29.1 x29.2.1 x29.2.2) (.int .i64 x33)) (.one .addr) fun (x34 : Addr) =>
 rd Try.prog (Instr.loadAt 2 (.pointer (some x34))) (.one (.int .i64)) w31 fun (x35 : Int) =>
 rd Try.prog (Instr.loadAt 2 (.pointer (some (Addr.add x3 3)))) (.one (.int .i64)) w31 fun (x36 : Int) =>
 z (if x36 < x35 then x36 else x35) fun (z37 : Int) =>
 rdp Try.prog (Instr.indexAt 40 (.slice x29.1 x29.2.1 x29.2.2) (.int .i64 x32)) (.one .addr) fun (x38 : Addr) =>
 wu Try.prog (Instr.storeAt 2 (.pointer (some x38)) (.int .i64 z37)) w31 fun (w39 : World) =>
 drw w39 fun w40 =>
 rd Try.prog (Instr.loadAt 3 (.pointer (some (Addr.add x3 2)))) (.one (.int .i64)) w40 fun (x41 : Int) =>
 rd Try.prog (Instr.loadAt 3 (.pointer (some (Addr.add x3 2)))) (.one (.int .i64)) w40 fun (x42 : Int) =>
 rdp Try.prog (Instr.indexAt 40 (.slice x27.1 x27.2.1 x27.2.2) (.int .i64 x42)) (.one .addr) fun (x43 : Addr) =>
 rd Try.prog (Instr.loadAt 2 (.pointer (some x43))) (.one (.int .i64)) w40 fun (x44 : Int) =>
 rd Try.prog (Instr.loadAt 2 (.pointer (some (Addr.add x3 3)))) (.one (.int .i64)) w40 fun (x45 : Int) =>
 z (IntKind.wrap .i64 (x45 + 1)) fun (z46 : Int) =>
 z (if z46 > x44 then z46 else x44) fun (z47 : Int) =>
 rdp Try.prog (Instr.indexAt 40 (.slice x27.1 x27.2.1 x27.2.2) (.int .i64 x41)) (.one .addr) fun (x48 : Addr) =>
 wu Try.prog (Instr.storeAt 2 (.pointer (some x48)) (.int .i64 z47)) w40 fun (w49 : World) =>
 drw w49 fun w50 => flEx fun F51 =>
 rd Try.prog (Instr.loadAt 43 (.pointer (some x1))) (.agg [.slice, .slice, .slice]) w50 fun (x52 : ((Option Addr × Nat × Nat) × (Option Addr × Nat × Nat) × (Option Addr × Nat × Nat) × Unit)) =>
 rd Try.prog (Instr.loadAt 65 (.pointer (some (Addr.add x3 4)))) (.one .slice) w50 fun (x53 : (Option Addr × Nat × Nat)) =>
 rdp Try.prog (Instr.indexAt 65 (.slice x53.1 x53.2.1 x53.2.2) (.int .i64 0)) (.one .addr) fun (x54 : Addr) =>
 rd Try.prog (Instr.loadAt 67 (.pointer (some x54))) (.agg [(.int .i64), .slice, (.int .i64), (.int .i64), .slice]) w50 fun (x55 : (Int × (Option Addr × Nat × Nat) × Int × Int × (Option Addr × Nat × Nat) × Unit)) =>
 flc bel w50 (fun _w57 => True) (fun (w56 : World) =>
   call Try.prog 99 [(.agg #[(.slice x52.1.1 x52.1.2.1 x52.1.2.2), (.slice x52.2.1.1 x52.2.1.2.1 x52.2.1.2.2), (.slice x52.2.2.1.1 x52.2.2.1.2.1 x52.2.2.1.2.2)]), (.agg #[(.int .i64 x55.1), (.slice x55.2.1.1 x55.2.1.2.1 x55.2.1.2.2), (.int .i64 x55.2.2.1), (.int .i64 x55.2.2.2.1), (.slice x55.2.2.2.2.1.1 x55.2.2.2.2.1.2.1 x55.2.2.2.2.1.2.2)]), (.slice lower_a lower_n lower_c), (.slice x29.1 x29.2.1 x29.2.2)] (.one (.one .bool)) w56 fun (x58 : Bool) (w59 : World) =>
 (bel w56 w59 ∧ F51 7 [(.agg #[(.slice x52.1.1 x52.1.2.1 x52.1.2.2), (.slice x52.2.1.1 x52.2.1.2.1 x52.2.1.2.2), (.slice x52.2.2.1.1 x52.2.2.1.2.1 x52.2.2.1.2.2)]), (.agg #[(.int .i64 x55.1), (.slice x55.2.1.1 x55.2.1.2.1 x55.2.1.2.2), (.int .i64 x55.2.2.1), (.int .i64 x55.2.2.2.1), (.slice x55.2.2.2.2.1.1 x55.2.2.2.2.1.2.1 x55.2.2.2.2.1.2.2)]), (.slice lower_a lower_n lower_c), (.slice x29.1 x29.2.1 x29.2.2)] (.bool x58) w59))
  fun (x60 : Bool) =>
 br x60 (rd Try.prog (Instr.loadAt 43 (.pointer (some x1))) (.agg [.slice, .slice, .slice]) w50 fun (x61 : ((Option Addr × Nat × Nat) × (Option Addr × Nat × Nat) × (Option Addr × Nat × Nat) × Unit)) =>
 rd Try.prog (Instr.loadAt 65 (.pointer (some (Addr.add x3 4)))) (.one .slice) w50 fun (x62 : (Option Addr × Nat × Nat)) =>
 rdp Try.prog (Instr.indexAt 65 (.slice x62.1 x62.2.1 x62.2.2) (.int .i64 1)) (.one .addr) fun (x63 : Addr) =>
 rd Try.prog (Instr.loadAt 67 (.pointer (some x63))) (.agg [(.int .i64), .slice, (.int .i64), (.int .i64), .slice]) w50 fun (x64 : (Int × (Option Addr × Nat × Nat) × Int × Int × (Option Addr × Nat × Nat) × Unit)) =>
 flend bel w50 (fun w66 => F51 7 [(.agg #[(.slice x52.1.1 x52.1.2.1 x52.1.2.2), (.slice x52.2.1.1 x52.2.1.2.1 x52.2.1.2.2), (.slice x52.2.2.1.1 x52.2.2.1.2.1 x52.2.2.1.2.2)]), (.agg #[(.int .i64 x55.1), (.slice x55.2.1.1 x55.2.1.2.1 x55.2.1.2.2), (.int .i64 x55.2.2.1), (.int .i64 x55.2.2.2.1), (.slice x55.2.2.2.2.1.1 x55.2.2.2.2.1.2.1 x55.2.2.2.2.1.2.2)]), (.slice lower_a lower_n lower_c), (.slice x29.1 x29.2.1 x29.2.2)] (.bool x60) w66 ∧ True) fun w65 =>
 call Try.prog 99 [(.agg #[(.slice x61.1.1 x61.1.2.1 x61.1.2.2), (.slice x61.2.1.1 x61.2.1.2.1 x61.2.1.2.2), (.slice x61.2.2.1.1 x61.2.2.1.2.1 x61.2.2.1.2.2)]), (.agg #[(.int .i64 x64.1), (.slice x64.2.1.1 x64.2.1.2.1 x64.2.1.2.2), (.int .i64 x64.2.2.1), (.int .i64 x64.2.2.2.1), (.slice x64.2.2.2.2.1.1 x64.2.2.2.2.1.2.1 x64.2.2.2.2.1.2.2)]), (.slice x27.1 x27.2.1 x27.2.2), (.slice upper_a upper_n upper_c)] (.one (.one .bool)) w65 fun (x67 : Bool) (w68 : World) =>
 R (.bool x67) w68)
 (flend bel w50 (fun w70 => F51 7 [(.agg #[(.slice x52.1.1 x52.1.2.1 x52.1.2.2), (.slice x52.2.1.1 x52.2.1.2.1 x52.2.1.2.2), (.slice x52.2.2.1.1 x52.2.2.1.2.1 x52.2.2.1.2.2)]), (.agg #[(.int .i64 x55.1), (.slice x55.2.1.1 x55.2.1.2.1 x55.2.1.2.2), (.int .i64 x55.2.2.1), (.int .i64 x55.2.2.2.1), (.slice x55.2.2.2.2.1.1 x55.2.2.2.2.1.2.1 x55.2.2.2.2.1.2.2)]), (.slice lower_a lower_n lower_c), (.slice x29.1 x29.2.1 x29.2.2)] (.bool x60) w70 ∧ True) fun w69 =>
 R (.bool false) w69))))))))
 (R (.bool false) w4)))
def H99 : Hints := ⟨[], [(10, 11), (11, 12), (12, 16)], [], []⟩
set_option maxRecDepth 100000 in
theorem S99_eq (s_0a : Option Addr) (s_0n : Nat) (s_0c : Nat) (s_1a : Option Addr) (s_1n : Nat) (s_1c : Nat) (s_2a : Option Addr) (s_2n : Nat) (s_2c : Nat) (p_0 : Int) (p_1a : Option Addr) (p_1n : Nat) (p_1c : Nat) (p_2 : Int) (p_3 : Int) (p_4a : Option Addr) (p_4n : Nat) (p_4c : Nat) (lower_a : Option Addr) (lower_n : Nat) (lower_c : Nat) (upper_a : Option Addr) (upper_n : Nat) (upper_c : Nat) (w0 : World) (R : Value → World → Prop) : vcFn Try.prog H99 Try.f99 [(.agg #[(.slice s_0a s_0n s_0c), (.slice s_1a s_1n s_1c), (.slice s_2a s_2n s_2c)]), (.agg #[(.int .i64 p_0), (.slice p_1a p_1n p_1c), (.int .i64 p_2), (.int .i64 p_3), (.slice p_4a p_4n p_4c)]), (.slice lower_a lower_n lower_c), (.slice upper_a upper_n upper_c)] w0 R = S99 s_0a s_0n s_0c s_1a s_1n s_1c s_2a s_2n s_2c p_0 p_1a p_1n p_1c p_2 p_3 p_4a p_4n p_4c lower_a lower_n lower_c upper_a upper_n upper_c w0 R := by kernel_rfl
set_option maxRecDepth 100000 in
theorem S99_calls (s_0a : Option Addr) (s_0n : Nat) (s_0c : Nat) (s_1a : Option Addr) (s_1n : Nat) (s_1c : Nat) (s_2a : Option Addr) (s_2n : Nat) (s_2c : Nat) (p_0 : Int) (p_1a : Option Addr) (p_1n : Nat) (p_1c : Nat) (p_2 : Int) (p_3 : Int) (p_4a : Option Addr) (p_4n : Nat) (p_4c : Nat) (lower_a : Option Addr) (lower_n : Nat) (lower_c : Nat) (upper_a : Option Addr) (upper_n : Nat) (upper_c : Nat) (w0 : World) (R : Value → World → Prop) (h : S99 s_0a s_0n s_0c s_1a s_1n s_1c s_2a s_2n s_2c p_0 p_1a p_1n p_1c p_2 p_3 p_4a p_4n p_4c lower_a lower_n lower_c upper_a upper_n upper_c w0 R) : Calls Try.prog 99 #[(.agg #[(.slice s_0a s_0n s_0c), (.slice s_1a s_1n s_1c), (.slice s_2a s_2n s_2c)]), (.agg #[(.int .i64 p_0), (.slice p_1a p_1n p_1c), (.int .i64 p_2), (.int .i64 p_3), (.slice p_4a p_4n p_4c)]), (.slice lower_a lower_n lower_c), (.slice upper_a upper_n upper_c)] w0 (ret R) := by
  rw [← S99_eq] at h; exact vcFn_sound follows_ Try.func99 h

/-- querylab/integral.CheckProof -/
def S47 (s_0a : Option Addr) (s_0n : Nat) (s_0c : Nat) (s_1a : Option Addr) (s_1n : Nat) (s_1c : Nat) (s_2a : Option Addr) (s_2n : Nat) (s_2c : Nat) (p_0 : Int) (p_1a : Option Addr) (p_1n : Nat) (p_1c : Nat) (p_2 : Int) (p_3 : Int) (p_4a : Option Addr) (p_4n : Nat) (p_4c : Nat) (w0 : World) (R : Value → World → Prop) : Prop :=
 wr Try.prog (Instr.box 43 (.agg #[(.slice s_0a s_0n s_0c), (.slice s_1a s_1n s_1c), (.slice s_2a s_2n s_2c)])) (.one .addr) w0 fun (x1 : Addr) (w2 : World) =>
 wr Try.prog (Instr.box 67 (.agg #[(.int .i64 p_0), (.slice p_1a p_1n p_1c), (.int .i64 p_2), (.int .i64 p_3), (.slice p_4a p_4n p_4c)])) (.one .addr) w2 fun (x3 : Addr) (w4 : World) =>
 drw w4 fun w5 => flEx fun F6 =>
 rd Try.prog (Instr.loadAt 43 (.pointer (some x1))) (.agg [.slice, .slice, .slice]) w5 fun (x7 : ((Option Addr × Nat × Nat) × (Option Addr × Nat × Nat) × (Option Addr × Nat × Nat) × Unit)) =>
 flc bel w5 (fun _w9 => True) (fun (w8 : World) =>
   call Try.prog 30 [(.agg #[(.slice x7.1.1 x7.1.2.1 x7.1.2.2), (.slice x7.2.1.1 x7.2.1.2.1 x7.2.1.2.2), (.slice x7.2.2.1.1 x7.2.2.1.2.1 x7.2.2.1.2.2)])] (.one (.one (.int .i64))) w8 fun (x10 : Int) (w11 : World) =>
 (bel w8 w11 ∧ F6 1 [(.agg #[(.slice x7.1.1 x7.1.2.1 x7.1.2.2), (.slice x7.2.1.1 x7.2.1.2.1 x7.2.1.2.2), (.slice x7.2.2.1.1 x7.2.2.1.2.1 x7.2.2.1.2.2)])] (.int .i64 x10) w11))
  fun (x12 : Int) =>
 br (x12 == 0) (rd Try.prog (Instr.loadAt 67 (.pointer (some x3))) (.agg [(.int .i64), .slice, (.int .i64), (.int .i64), .slice]) w5 fun (x13 : (Int × (Option Addr × Nat × Nat) × Int × Int × (Option Addr × Nat × Nat) × Unit)) =>
 flc bel w5 (fun w15 => F6 1 [(.agg #[(.slice x7.1.1 x7.1.2.1 x7.1.2.2), (.slice x7.2.1.1 x7.2.1.2.1 x7.2.1.2.2), (.slice x7.2.2.1.1 x7.2.2.1.2.1 x7.2.2.1.2.2)])] (.int .i64 x12) w15 ∧ True) (fun (w14 : World) =>
   call Try.prog 49 [(.agg #[(.int .i64 x13.1), (.slice x13.2.1.1 x13.2.1.2.1 x13.2.1.2.2), (.int .i64 x13.2.2.1), (.int .i64 x13.2.2.2.1), (.slice x13.2.2.2.2.1.1 x13.2.2.2.2.1.2.1 x13.2.2.2.2.1.2.2)])] (.one (.one (.int .i64))) w14 fun (x16 : Int) (w17 : World) =>
 (bel w14 w17 ∧ F6 5 [(.agg #[(.int .i64 x13.1), (.slice x13.2.1.1 x13.2.1.2.1 x13.2.1.2.2), (.int .i64 x13.2.2.1), (.int .i64 x13.2.2.2.1), (.slice x13.2.2.2.2.1.1 x13.2.2.2.2.1.2.1 x13.2.2.2.2.1.2.2)])] (.int .i64 x16) w17))
  fun (x18 : Int) =>
 br (decide (x18 ≤ 2000)) (rd Try.prog (Instr.loadAt 67 (.pointer (some x3))) (.agg [(.int .i64), .slice, (.int .i64), (.int .i64), .slice]) w5 fun (x19 : (Int × (Option Addr × Nat × Nat) × Int × Int × (Option Addr × Nat × Nat) × Unit)) =>
 flc bel w5 (fun w21 => F6 5 [(.agg #[(.int .i64 x13.1), (.slice x13.2.1.1 x13.2.1.2.1 x13.2.1.2.2), (.int .i64 x13.2.2.1), (.int .i64 x13.2.2.2.1), (.slice x13.2.2.2.2.1.1 x13.2.2.2.2.1.2.1 x13.2.2.2.2.1.2.2)])] (.int .i64 x18) w21 ∧ F6 1 [(.agg #[(.slice x7.1.1 x7.1.2.1 x7.1.2.2), (.slice x7.2.1.1 x7.2.1.2.1 x7.2.1.2.2), (.slice x7.2.2.1.1 x7.2.2.1.2.1 x7.2.2.1.2.2)])] (.int .i64 x12) w21 ∧ True) (fun (w20 : World) =>
   call Try.prog 96 [(.agg #[(.int .i64 x19.1), (.slice x19.2.1.1 x19.2.1.2.1 x19.2.1.2.2), (.int .i64 x19.2.2.1), (.int .i64 x19.2.2.2.1), (.slice x19.2.2.2.2.1.1 x19.2.2.2.2.1.2.1 x19.2.2.2.2.1.2.2)])] (.one (.one (.int .i64))) w20 fun (x22 : Int) (w23 : World) =>
 (bel w20 w23 ∧ F6 10 [(.agg #[(.int .i64 x19.1), (.slice x19.2.1.1 x19.2.1.2.1 x19.2.1.2.2), (.int .i64 x19.2.2.1), (.int .i64 x19.2.2.2.1), (.slice x19.2.2.2.2.1.1 x19.2.2.2.2.1.2.1 x19.2.2.2.2.1.2.2)])] (.int .i64 x22) w23))
  fun (x24 : Int) =>
 br (decide (x24 ≤ 200)) (rd Try.prog (Instr.loadAt 43 (.pointer (some x1))) (.agg [.slice, .slice, .slice]) w5 fun (x25 : ((Option Addr × Nat × Nat) × (Option Addr × Nat × Nat) × (Option Addr × Nat × Nat) × Unit)) =>
 rd Try.prog (Instr.loadAt 67 (.pointer (some x3))) (.agg [(.int .i64), .slice, (.int .i64), (.int .i64), .slice]) w5 fun (x26 : (Int × (Option Addr × Nat × Nat) × Int × Int × (Option Addr × Nat × Nat) × Unit)) =>
 rd Try.prog (Instr.loadAt 40 (.pointer (some x1))) (.one .slice) w5 fun (x27 : (Option Addr × Nat × Nat)) =>
 flc bel w5 (fun w29 => F6 10 [(.agg #[(.int .i64 x19.1), (.slice x19.2.1.1 x19.2.1.2.1 x19.2.1.2.2), (.int .i64 x19.2.2.1), (.int .i64 x19.2.2.2.1), (.slice x19.2.2.2.2.1.1 x19.2.2.2.2.1.2.1 x19.2.2.2.2.1.2.2)])] (.int .i64 x24) w29 ∧ F6 5 [(.agg #[(.int .i64 x13.1), (.slice x13.2.1.1 x13.2.1.2.1 x13.2.1.2.2), (.int .i64 x13.2.2.1), (.int .i64 x13.2.2.2.1), (.slice x13.2.2.2.2.1.1 x13.2.2.2.2.1.2.1 x13.2.2.2.2.1.2.2)])] (.int .i64 x18) w29 ∧ F6 1 [(.agg #[(.slice x7.1.1 x7.1.2.1 x7.1.2.2), (.slice x7.2.1.1 x7.2.1.2.1 x7.2.1.2.2), (.slice x7.2.2.1.1 x7.2.2.1.2.1 x7.2.2.1.2.2)])] (.int .i64 x12) w29 ∧ True) (fun (w28 : World) =>
   wr Try.prog (Instr.makeSlice 40 (.int .i64 ((x27.2.1 : Nat) : Int)) (.int .i64 ((x27.2.1 : Nat) : Int))) (.one .slice) w28 fun (x30 : (Option Addr × Nat × Nat)) (w31 : World) =>
 (bel w28 w31 ∧ F6 19 [] (.slice x30.1 x30.2.1 x30.2.2) w31))
  fun (x32 : (Option Addr × Nat × Nat)) =>
 rd Try.prog (Instr.loadAt 40 (.pointer (some x1))) (.one .slice) w5 fun (x33 : (Option Addr × Nat × Nat)) =>
 flend bel w5 (fun w35 => F6 19 [] (.slice x32.1 x32.2.1 x32.2.2) w35 ∧ F6 10 [(.agg #[(.int .i64 x19.1), (.slice x19.2.1.1 x19.2.1.2.1 x19.2.1.2.2), (.int .i64 x19.2.2.1), (.int .i64 x19.2.2.2.1), (.slice x19.2.2.2.2.1.1 x19.2.2.2.2.1.2.1 x19.2.2.2.2.1.2.2)])] (.int .i64 x24) w35 ∧ F6 5 [(.agg #[(.int .i64 x13.1), (.slice x13.2.1.1 x13.2.1.2.1 x13.2.1.2.2), (.int .i64 x13.2.2.1), (.int .i64 x13.2.2.2.1), (.slice x13.2.2.2.2.1.1 x13.2.2.2.2.1.2.1 x13.2.2.2.2.1.2.2)])] (.int .i64 x18) w35 ∧ F6 1 [(.agg #[(.slice x7.1.1 x7.1.2.1 x7.1.2.2), (.slice x7.2.1.1 x7.2.1.2.1 x7.2.1.2.2), (.slice x7.2.2.1.1 x7.2.2.1.2.1 x7.2.2.1.2.2)])] (.int .i64 x12) w35 ∧ True) fun w34 =>
 call Try.prog 97 [(.agg #[(.slice x25.1.1 x25.1.2.1 x25.1.2.2), (.slice x25.2.1.1 x25.2.1.2.1 x25.2.1.2.2), (.slice x25.2.2.1.1 x25.2.2.1.2.1 x25.2.2.1.2.2)]), (.agg #[(.int .i64 x26.1), (.slice x26.2.1.1 x26.2.1.2.1 x26.2.1.2.2), (.int .i64 x26.2.2.1), (.int .i64 x26.2.2.2.1), (.slice x26.2.2.2.2.1.1 x26.2.2.2.2.1.2.1 x26.2.2.2.2.1.2.2)]), (.slice x32.1 x32.2.1 x32.2.2), (.slice x33.1 x33.2.1 x33.2.2)] (.one (.one .bool)) w34 fun (x36 : Bool) (w37 : World) =>
 R (.bool x36) w37)
 (flend bel w5 (fun w39 => F6 10 [(.agg #[(.int .i64 x19.1), (.slice x19.2.1.1 x19.2.1.2.1 x19.2.1.2.2), (.int .i64 x19.2.2.1), (.int .i64 x19.2.2.2.1), (.slice x19.2.2.2.2.1.1 x19.2.2.2.2.1.2.1 x19.2.2.2.2.1.2.2)])] (.int .i64 x24) w39 ∧ F6 5 [(.agg #[(.int .i64 x13.1), (.slice x13.2.1.1 x13.2.1.2.1 x13.2.1.2.2), (.int .i64 x13.2.2.1), (.int .i64 x13.2.2.2.1), (.slice x13.2.2.2.2.1.1 x13.2.2.2.2.1.2.1 x13.2.2.2.2.1.2.2)])] (.int .i64 x18) w39 ∧ F6 1 [(.agg #[(.slice x7.1.1 x7.1.2.1 x7.1.2.2), (.slice x7.2.1.1 x7.2.1.2.1 x7.2.1.2.2), (.slice x7.2.2.1.1 x7.2.2.1.2.1 x7.2.2.1.2.2)])] (.int .i64 x12) w39 ∧ True) fun w38 =>
 R (.bool false) w38))
 (flend bel w5 (fun w41 => F6 5 [(.agg #[(.int .i64 x13.1), (.slice x13.2.1.1 x13.2.1.2.1 x13.2.1.2.2), (.int .i64 x13.2.2.1), (.int .i64 x13.2.2.2.1), (.slice x13.2.2.2.2.1.1 x13.2.2.2.2.1.2.1 x13.2.2.2.2.1.2.2)])] (.int .i64 x18) w41 ∧ F6 1 [(.agg #[(.slice x7.1.1 x7.1.2.1 x7.1.2.2), (.slice x7.2.1.1 x7.2.1.2.1 x7.2.1.2.2), (.slice x7.2.2.1.1 x7.2.2.1.2.1 x7.2.2.1.2.2)])] (.int .i64 x12) w41 ∧ True) fun w40 =>
 R (.bool false) w40))
 (flend bel w5 (fun w43 => F6 1 [(.agg #[(.slice x7.1.1 x7.1.2.1 x7.1.2.2), (.slice x7.2.1.1 x7.2.1.2.1 x7.2.1.2.2), (.slice x7.2.2.1.1 x7.2.2.1.2.1 x7.2.2.1.2.2)])] (.int .i64 x12) w43 ∧ True) fun w42 =>
 R (.bool false) w42)
def H47 : Hints := ⟨[], [(1, 22)], [], []⟩
set_option maxRecDepth 100000 in
theorem S47_eq (s_0a : Option Addr) (s_0n : Nat) (s_0c : Nat) (s_1a : Option Addr) (s_1n : Nat) (s_1c : Nat) (s_2a : Option Addr) (s_2n : Nat) (s_2c : Nat) (p_0 : Int) (p_1a : Option Addr) (p_1n : Nat) (p_1c : Nat) (p_2 : Int) (p_3 : Int) (p_4a : Option Addr) (p_4n : Nat) (p_4c : Nat) (w0 : World) (R : Value → World → Prop) : vcFn Try.prog H47 Try.f47 [(.agg #[(.slice s_0a s_0n s_0c), (.slice s_1a s_1n s_1c), (.slice s_2a s_2n s_2c)]), (.agg #[(.int .i64 p_0), (.slice p_1a p_1n p_1c), (.int .i64 p_2), (.int .i64 p_3), (.slice p_4a p_4n p_4c)])] w0 R = S47 s_0a s_0n s_0c s_1a s_1n s_1c s_2a s_2n s_2c p_0 p_1a p_1n p_1c p_2 p_3 p_4a p_4n p_4c w0 R := by kernel_rfl
set_option maxRecDepth 100000 in
theorem S47_calls (s_0a : Option Addr) (s_0n : Nat) (s_0c : Nat) (s_1a : Option Addr) (s_1n : Nat) (s_1c : Nat) (s_2a : Option Addr) (s_2n : Nat) (s_2c : Nat) (p_0 : Int) (p_1a : Option Addr) (p_1n : Nat) (p_1c : Nat) (p_2 : Int) (p_3 : Int) (p_4a : Option Addr) (p_4n : Nat) (p_4c : Nat) (w0 : World) (R : Value → World → Prop) (h : S47 s_0a s_0n s_0c s_1a s_1n s_1c s_2a s_2n s_2c p_0 p_1a p_1n p_1c p_2 p_3 p_4a p_4n p_4c w0 R) : Calls Try.prog 47 #[(.agg #[(.slice s_0a s_0n s_0c), (.slice s_1a s_1n s_1c), (.slice s_2a s_2n s_2c)]), (.agg #[(.int .i64 p_0), (.slice p_1a p_1n p_1c), (.int .i64 p_2), (.int .i64 p_3), (.slice p_4a p_4n p_4c)])] w0 (ret R) := by
  rw [← S47_eq] at h; exact vcFn_sound follows_ Try.func47 h

/-- querylab/querylabref12.CheckProof -/
def S48 (s_0a : Option Addr) (s_0n : Nat) (s_0c : Nat) (s_1a : Option Addr) (s_1n : Nat) (s_1c : Nat) (s_2a : Option Addr) (s_2n : Nat) (s_2c : Nat) (p_0 : Int) (p_1a : Option Addr) (p_1n : Nat) (p_1c : Nat) (p_2 : Int) (p_3 : Int) (p_4a : Option Addr) (p_4n : Nat) (p_4c : Nat) (w0 : World) (R : Value → World → Prop) : Prop :=
 wr Try.prog (Instr.box 43 (.agg #[(.slice s_0a s_0n s_0c), (.slice s_1a s_1n s_1c), (.slice s_2a s_2n s_2c)])) (.one .addr) w0 fun (x1 : Addr) (w2 : World) =>
 wr Try.prog (Instr.box 67 (.agg #[(.int .i64 p_0), (.slice p_1a p_1n p_1c), (.int .i64 p_2), (.int .i64 p_3), (.slice p_4a p_4n p_4c)])) (.one .addr) w2 fun (x3 : Addr) (w4 : World) =>
 rd Try.prog (Instr.loadAt 43 (.pointer (some x1))) (.agg [.slice, .slice, .slice]) w4 fun (x5 : ((Option Addr × Nat × Nat) × (Option Addr × Nat × Nat) × (Option Addr × Nat × Nat) × Unit)) =>
 call Try.prog 31 [(.agg #[(.slice x5.1.1 x5.1.2.1 x5.1.2.2), (.slice x5.2.1.1 x5.2.1.2.1 x5.2.1.2.2), (.slice x5.2.2.1.1 x5.2.2.1.2.1 x5.2.2.1.2.2)])] (.one (.one (.int .i64))) w4 fun (x6 : Int) (w7 : World) =>
 br (x6 != 0) (R (.bool false) w7)
 (rd Try.prog (Instr.loadAt 67 (.pointer (some x3))) (.agg [(.int .i64), .slice, (.int .i64), (.int .i64), .slice]) w7 fun (x8 : (Int × (Option Addr × Nat × Nat) × Int × Int × (Option Addr × Nat × Nat) × Unit)) =>
 call Try.prog 50 [(.agg #[(.int .i64 x8.1), (.slice x8.2.1.1 x8.2.1.2.1 x8.2.1.2.2), (.int .i64 x8.2.2.1), (.int .i64 x8.2.2.2.1), (.slice x8.2.2.2.2.1.1 x8.2.2.2.2.1.2.1 x8.2.2.2.2.1.2.2)])] (.one (.one (.int .i64))) w7 fun (x9 : Int) (w10 : World) =>
 br (decide (x9 > 2000)) (R (.bool false) w10)
 (rd Try.prog (Instr.loadAt 67 (.pointer (some x3))) (.agg [(.int .i64), .slice, (.int .i64), (.int .i64), .slice]) w10 fun (x11 : (Int × (Option Addr × Nat × Nat) × Int × Int × (Option Addr × Nat × Nat) × Unit)) =>
 call Try.prog 98 [(.agg #[(.int .i64 x11.1), (.slice x11.2.1.1 x11.2.1.2.1 x11.2.1.2.2), (.int .i64 x11.2.2.1), (.int .i64 x11.2.2.2.1), (.slice x11.2.2.2.2.1.1 x11.2.2.2.2.1.2.1 x11.2.2.2.2.1.2.2)])] (.one (.one (.int .i64))) w10 fun (x12 : Int) (w13 : World) =>
 br (decide (x12 > 200)) (R (.bool false) w13)
 (drw w13 fun w14 => flEx fun F15 =>
 rd Try.prog (Instr.loadAt 43 (.pointer (some x1))) (.agg [.slice, .slice, .slice]) w14 fun (x16 : ((Option Addr × Nat × Nat) × (Option Addr × Nat × Nat) × (Option Addr × Nat × Nat) × Unit)) =>
 rd Try.prog (Instr.loadAt 67 (.pointer (some x3))) (.agg [(.int .i64), .slice, (.int .i64), (.int .i64), .slice]) w14 fun (x17 : (Int × (Option Addr × Nat × Nat) × Int × Int × (Option Addr × Nat × Nat) × Unit)) =>
 rd Try.prog (Instr.loadAt 40 (.pointer (some x1))) (.one .slice) w14 fun (x18 : (Option Addr × Nat × Nat)) =>
 flc bel w14 (fun _w20 => True) (fun (w19 : World) =>
   wr Try.prog (Instr.makeSlice 40 (.int .i64 ((x18.2.1 : Nat) : Int)) (.int .i64 ((x18.2.1 : Nat) : Int))) (.one .slice) w19 fun (x21 : (Option Addr × Nat × Nat)) (w22 : World) =>
 (bel w19 w22 ∧ F15 5 [] (.slice x21.1 x21.2.1 x21.2.2) w22))
  fun (x23 : (Option Addr × Nat × Nat)) =>
 rd Try.prog (Instr.loadAt 40 (.pointer (some x1))) (.one .slice) w14 fun (x24 : (Option Addr × Nat × Nat)) =>
 flend bel w14 (fun w26 => F15 5 [] (.slice x23.1 x23.2.1 x23.2.2) w26 ∧ True) fun w25 =>
 call Try.prog 99 [(.agg #[(.slice x16.1.1 x16.1.2.1 x16.1.2.2), (.slice x16.2.1.1 x16.2.1.2.1 x16.2.1.2.2), (.slice x16.2.2.1.1 x16.2.2.1.2.1 x16.2.2.1.2.2)]), (.agg #[(.int .i64 x17.1), (.slice x17.2.1.1 x17.2.1.2.1 x17.2.1.2.2), (.int .i64 x17.2.2.1), (.int .i64 x17.2.2.2.1), (.slice x17.2.2.2.2.1.1 x17.2.2.2.2.1.2.1 x17.2.2.2.2.1.2.2)]), (.slice x23.1 x23.2.1 x23.2.2), (.slice x24.1 x24.2.1 x24.2.2)] (.one (.one .bool)) w25 fun (x27 : Bool) (w28 : World) =>
 R (.bool x27) w28)))
def H48 : Hints := ⟨[], [(3, 8)], [], []⟩
set_option maxRecDepth 100000 in
theorem S48_eq (s_0a : Option Addr) (s_0n : Nat) (s_0c : Nat) (s_1a : Option Addr) (s_1n : Nat) (s_1c : Nat) (s_2a : Option Addr) (s_2n : Nat) (s_2c : Nat) (p_0 : Int) (p_1a : Option Addr) (p_1n : Nat) (p_1c : Nat) (p_2 : Int) (p_3 : Int) (p_4a : Option Addr) (p_4n : Nat) (p_4c : Nat) (w0 : World) (R : Value → World → Prop) : vcFn Try.prog H48 Try.f48 [(.agg #[(.slice s_0a s_0n s_0c), (.slice s_1a s_1n s_1c), (.slice s_2a s_2n s_2c)]), (.agg #[(.int .i64 p_0), (.slice p_1a p_1n p_1c), (.int .i64 p_2), (.int .i64 p_3), (.slice p_4a p_4n p_4c)])] w0 R = S48 s_0a s_0n s_0c s_1a s_1n s_1c s_2a s_2n s_2c p_0 p_1a p_1n p_1c p_2 p_3 p_4a p_4n p_4c w0 R := by kernel_rfl
set_option maxRecDepth 100000 in
theorem S48_calls (s_0a : Option Addr) (s_0n : Nat) (s_0c : Nat) (s_1a : Option Addr) (s_1n : Nat) (s_1c : Nat) (s_2a : Option Addr) (s_2n : Nat) (s_2c : Nat) (p_0 : Int) (p_1a : Option Addr) (p_1n : Nat) (p_1c : Nat) (p_2 : Int) (p_3 : Int) (p_4a : Option Addr) (p_4n : Nat) (p_4c : Nat) (w0 : World) (R : Value → World → Prop) (h : S48 s_0a s_0n s_0c s_1a s_1n s_1c s_2a s_2n s_2c p_0 p_1a p_1n p_1c p_2 p_3 p_4a p_4n p_4c w0 R) : Calls Try.prog 48 #[(.agg #[(.slice s_0a s_0n s_0c), (.slice s_1a s_1n s_1c), (.slice s_2a s_2n s_2c)]), (.agg #[(.int .i64 p_0), (.slice p_1a p_1n p_1c), (.int .i64 p_2), (.int .i64 p_3), (.slice p_4a p_4n p_4c)])] w0 (ret R) := by
  rw [← S48_eq] at h; exact vcFn_sound follows_ Try.func48 h

/-- querylab/querylablaw12.IntegralProofs -/
def S14 (s_0a : Option Addr) (s_0n : Nat) (s_0c : Nat) (s_1a : Option Addr) (s_1n : Nat) (s_1c : Nat) (s_2a : Option Addr) (s_2n : Nat) (s_2c : Nat) (p_0 : Int) (p_1a : Option Addr) (p_1n : Nat) (p_1c : Nat) (p_2 : Int) (p_3 : Int) (p_4a : Option Addr) (p_4n : Nat) (p_4c : Nat) (w0 : World) (R : Value → World → Prop) : Prop :=
 wr Try.prog (Instr.box 43 (.agg #[(.slice s_0a s_0n s_0c), (.slice s_1a s_1n s_1c), (.slice s_2a s_2n s_2c)])) (.one .addr) w0 fun (x1 : Addr) (w2 : World) =>
 wr Try.prog (Instr.box 67 (.agg #[(.int .i64 p_0), (.slice p_1a p_1n p_1c), (.int .i64 p_2), (.int .i64 p_3), (.slice p_4a p_4n p_4c)])) (.one .addr) w2 fun (x3 : Addr) (w4 : World) =>
 rd Try.prog (Instr.loadAt 43 (.pointer (some x1))) (.agg [.slice, .slice, .slice]) w4 fun (x5 : ((Option Addr × Nat × Nat) × (Option Addr × Nat × Nat) × (Option Addr × Nat × Nat) × Unit)) =>
 call Try.prog 29 [(.agg #[(.slice x5.1.1 x5.1.2.1 x5.1.2.2), (.slice x5.2.1.1 x5.2.1.2.1 x5.2.1.2.2), (.slice x5.2.2.1.1 x5.2.2.1.2.1 x5.2.2.1.2.2)])] (.one (.one .bool)) w4 fun (x6 : Bool) (w7 : World) =>
 br (!x6) (R (.bool true) w7)
 (rd Try.prog (Instr.loadAt 67 (.pointer (some x3))) (.agg [(.int .i64), .slice, (.int .i64), (.int .i64), .slice]) w7 fun (x8 : (Int × (Option Addr × Nat × Nat) × Int × Int × (Option Addr × Nat × Nat) × Unit)) =>
 call Try.prog 46 [(.agg #[(.int .i64 x8.1), (.slice x8.2.1.1 x8.2.1.2.1 x8.2.1.2.2), (.int .i64 x8.2.2.1), (.int .i64 x8.2.2.2.1), (.slice x8.2.2.2.2.1.1 x8.2.2.2.2.1.2.1 x8.2.2.2.2.1.2.2)])] (.one (.one .bool)) w7 fun (x9 : Bool) (w10 : World) =>
 br (!x9) (R (.bool true) w10)
 (wr Try.prog (Instr.buildSlice 33 1 #[(0, (.agg #[(.int .i64 1), (.int .i64 2)]))]) (.one .slice) w10 fun (x11 : (Option Addr × Nat × Nat)) (w12 : World) =>
 wr Try.prog (Instr.alloc 67 true (.tuple #[])) (.one .addr) w12 fun (x13 : Addr) (w14 : World) =>
 wu Try.prog (Instr.storeAt 67 (.pointer (some x13)) (.agg #[(.int .i64 2), (.slice x11.1 x11.2.1 x11.2.2), (.int .i64 0), (.int .i64 0), (.slice none 0 0)])) w14 fun (w15 : World) =>
 drw w15 fun w16 => flEx fun F17 =>
 rd Try.prog (Instr.loadAt 43 (.pointer (some x1))) (.agg [.slice, .slice, .slice]) w16 fun (x18 : ((Option Addr × Nat × Nat) × (Option Addr × Nat × Nat) × (Option Addr × Nat × Nat) × Unit)) =>
 rd Try.prog (Instr.loadAt 67 (.pointer (some x3))) (.agg [(.int .i64), .slice, (.int .i64), (.int .i64), .slice]) w16 fun (x19 : (Int × (Option Addr × Nat × Nat) × Int × Int × (Option Addr × Nat × Nat) × Unit)) =>
 flc bel w16 (fun _w21 => True) (fun (w20 : World) =>
   call Try.prog 47 [(.agg #[(.slice x18.1.1 x18.1.2.1 x18.1.2.2), (.slice x18.2.1.1 x18.2.1.2.1 x18.2.1.2.2), (.slice x18.2.2.1.1 x18.2.2.1.2.1 x18.2.2.1.2.2)]), (.agg #[(.int .i64 x19.1), (.slice x19.2.1.1 x19.2.1.2.1 x19.2.1.2.2), (.int .i64 x19.2.2.1), (.int .i64 x19.2.2.2.1), (.slice x19.2.2.2.2.1.1 x19.2.2.2.2.1.2.1 x19.2.2.2.2.1.2.2)])] (.one (.one .bool)) w20 fun (x22 : Bool) (w23 : World) =>
 (bel w20 w23 ∧ F17 2 [(.agg #[(.slice x18.1.1 x18.1.2.1 x18.1.2.2), (.slice x18.2.1.1 x18.2.1.2.1 x18.2.1.2.2), (.slice x18.2.2.1.1 x18.2.2.1.2.1 x18.2.2.1.2.2)]), (.agg #[(.int .i64 x19.1), (.slice x19.2.1.1 x19.2.1.2.1 x19.2.1.2.2), (.int .i64 x19.2.2.1), (.int .i64 x19.2.2.2.1), (.slice x19.2.2.2.2.1.1 x19.2.2.2.2.1.2.1 x19.2.2.2.2.1.2.2)])] (.bool x22) w23))
  fun (x24 : Bool) =>
 rd Try.prog (Instr.loadAt 43 (.pointer (some x1))) (.agg [.slice, .slice, .slice]) w16 fun (x25 : ((Option Addr × Nat × Nat) × (Option Addr × Nat × Nat) × (Option Addr × Nat × Nat) × Unit)) =>
 rd Try.prog (Instr.loadAt 67 (.pointer (some x3))) (.agg [(.int .i64), .slice, (.int .i64), (.int .i64), .slice]) w16 fun (x26 : (Int × (Option Addr × Nat × Nat) × Int × Int × (Option Addr × Nat × Nat) × Unit)) =>
 flc bel w16 (fun w28 => F17 2 [(.agg #[(.slice x18.1.1 x18.1.2.1 x18.1.2.2), (.slice x18.2.1.1 x18.2.1.2.1 x18.2.1.2.2), (.slice x18.2.2.1.1 x18.2.2.1.2.1 x18.2.2.1.2.2)]), (.agg #[(.int .i64 x19.1), (.slice x19.2.1.1 x19.2.1.2.1 x19.2.1.2.2), (.int .i64 x19.2.2.1), (.int .i64 x19.2.2.2.1), (.slice x19.2.2.2.2.1.1 x19.2.2.2.2.1.2.1 x19.2.2.2.2.1.2.2)])] (.bool x24) w28 ∧ True) (fun (w27 : World) =>
   call Try.prog 48 [(.agg #[(.slice x25.1.1 x25.1.2.1 x25.1.2.2), (.slice x25.2.1.1 x25.2.1.2.1 x25.2.1.2.2), (.slice x25.2.2.1.1 x25.2.2.1.2.1 x25.2.2.1.2.2)]), (.agg #[(.int .i64 x26.1), (.slice x26.2.1.1 x26.2.1.2.1 x26.2.1.2.2), (.int .i64 x26.2.2.1), (.int .i64 x26.2.2.2.1), (.slice x26.2.2.2.2.1.1 x26.2.2.2.2.1.2.1 x26.2.2.2.2.1.2.2)])] (.one (.one .bool)) w27 fun (x29 : Bool) (w30 : World) =>
 (bel w27 w30 ∧ F17 5 [(.agg #[(.slice x25.1.1 x25.1.2.1 x25.1.2.2), (.slice x25.2.1.1 x25.2.1.2.1 x25.2.1.2.2), (.slice x25.2.2.1.1 x25.2.2.1.2.1 x25.2.2.1.2.2)]), (.agg #[(.int .i64 x26.1), (.slice x26.2.1.1 x26.2.1.2.1 x26.2.1.2.2), (.int .i64 x26.2.2.1), (.int .i64 x26.2.2.2.1), (.slice x26.2.2.2.2.1.1 x26.2.2.2.2.1.2.1 x26.2.2.2.2.1.2.2)])] (.bool x29) w30))
  fun (x31 : Bool) =>
 br (x24 == x31) (rd Try.prog (Instr.loadAt 67 (.pointer (some x3))) (.agg [(.int .i64), .slice, (.int .i64), (.int .i64), .slice]) w16 fun (x32 : (Int × (Option Addr × Nat × Nat) × Int × Int × (Option Addr × Nat × Nat) × Unit)) =>
 flc bel w16 (fun w34 => F17 5 [(.agg #[(.slice x25.1.1 x25.1.2.1 x25.1.2.2), (.slice x25.2.1.1 x25.2.1.2.1 x25.2.1.2.2), (.slice x25.2.2.1.1 x25.2.2.1.2.1 x25.2.2.1.2.2)]), (.agg #[(.int .i64 x26.1), (.slice x26.2.1.1 x26.2.1.2.1 x26.2.1.2.2), (.int .i64 x26.2.2.1), (.int .i64 x26.2.2.2.1), (.slice x26.2.2.2.2.1.1 x26.2.2.2.2.1.2.1 x26.2.2.2.2.1.2.2)])] (.bool x31) w34 ∧ F17 2 [(.agg #[(.slice x18.1.1 x18.1.2.1 x18.1.2.2), (.slice x18.2.1.1 x18.2.1.2.1 x18.2.1.2.2), (.slice x18.2.2.1.1 x18.2.2.1.2.1 x18.2.2.1.2.2)]), (.agg #[(.int .i64 x19.1), (.slice x19.2.1.1 x19.2.1.2.1 x19.2.1.2.2), (.int .i64 x19.2.2.1), (.int .i64 x19.2.2.2.1), (.slice x19.2.2.2.2.1.1 x19.2.2.2.2.1.2.1 x19.2.2.2.2.1.2.2)])] (.bool x24) w34 ∧ True) (fun (w33 : World) =>
   call Try.prog 49 [(.agg #[(.int .i64 x32.1), (.slice x32.2.1.1 x32.2.1.2.1 x32.2.1.2.2), (.int .i64 x32.2.2.1), (.int .i64 x32.2.2.2.1), (.slice x32.2.2.2.2.1.1 x32.2.2.2.2.1.2.1 x32.2.2.2.2.1.2.2)])] (.one (.one (.int .i64))) w33 fun (x35 : Int) (w36 : World) =>
 (bel w33 w36 ∧ F17 9 [(.agg #[(.int .i64 x32.1), (.slice x32.2.1.1 x32.2.1.2.1 x32.2.1.2.2), (.int .i64 x32.2.2.1), (.int .i64 x32.2.2.2.1), (.slice x32.2.2.2.2.1.1 x32.2.2.2.2.1.2.1 x32.2.2.2.2.1.2.2)])] (.int .i64 x35) w36))
  fun (x37 : Int) =>
 rd Try.prog (Instr.loadAt 67 (.pointer (some x3))) (.agg [(.int .i64), .slice, (.int .i64), (.int .i64), .slice]) w16 fun (x38 : (Int × (Option Addr × Nat × Nat) × Int × Int × (Option Addr × Nat × Nat) × Unit)) =>
 flc bel w16 (fun w40 => F17 9 [(.agg #[(.int .i64 x32.1), (.slice x32.2.1.1 x32.2.1.2.1 x32.2.1.2.2), (.int .i64 x32.2.2.1), (.int .i64 x32.2.2.2.1), (.slice x32.2.2.2.2.1.1 x32.2.2.2.2.1.2.1 x32.2.2.2.2.1.2.2)])] (.int .i64 x37) w40 ∧ F17 5 [(.agg #[(.slice x25.1.1 x25.1.2.1 x25.1.2.2), (.slice x25.2.1.1 x25.2.1.2.1 x25.2.1.2.2), (.slice x25.2.2.1.1 x25.2.2.1.2.1 x25.2.2.1.2.2)]), (.agg #[(.int .i64 x26.1), (.slice x26.2.1.1 x26.2.1.2.1 x26.2.1.2.2), (.int .i64 x26.2.2.1), (.int .i64 x26.2.2.2.1), (.slice x26.2.2.2.2.1.1 x26.2.2.2.2.1.2.1 x26.2.2.2.2.1.2.2)])] (.bool x31) w40 ∧ F17 2 [(.agg #[(.slice x18.1.1 x18.1.2.1 x18.1.2.2), (.slice x18.2.1.1 x18.2.1.2.1 x18.2.1.2.2), (.slice x18.2.2.1.1 x18.2.2.1.2.1 x18.2.2.1.2.2)]), (.agg #[(.int .i64 x19.1), (.slice x19.2.1.1 x19.2.1.2.1 x19.2.1.2.2), (.int .i64 x19.2.2.1), (.int .i64 x19.2.2.2.1), (.slice x19.2.2.2.2.1.1 x19.2.2.2.2.1.2.1 x19.2.2.2.2.1.2.2)])] (.bool x24) w40 ∧ True) (fun (w39 : World) =>
   call Try.prog 50 [(.agg #[(.int .i64 x38.1), (.slice x38.2.1.1 x38.2.1.2.1 x38.2.1.2.2), (.int .i64 x38.2.2.1), (.int .i64 x38.2.2.2.1), (.slice x38.2.2.2.2.1.1 x38.2.2.2.2.1.2.1 x38.2.2.2.2.1.2.2)])] (.one (.one (.int .i64))) w39 fun (x41 : Int) (w42 : World) =>
 (bel w39 w42 ∧ F17 11 [(.agg #[(.int .i64 x38.1), (.slice x38.2.1.1 x38.2.1.2.1 x38.2.1.2.2), (.int .i64 x38.2.2.1), (.int .i64 x38.2.2.2.1), (.slice x38.2.2.2.2.1.1 x38.2.2.2.2.1.2.1 x38.2.2.2.2.1.2.2)])] (.int .i64 x41) w42))
  fun (x43 : Int) =>
 br (x37 == x43) (flc bel w16 (fun w45 => F17 11 [(.agg #[(.int .i64 x38.1), (.slice x38.2.1.1 x38.2.1.2.1 x38.2.1.2.2), (.int .i64 x38.2.2.1), (.int .i64 x38.2.2.2.1), (.slice x38.2.2.2.2.1.1 x38.2.2.2.2.1.2.1 x38.2.2.2.2.1.2.2)])] (.int .i64 x43) w45 ∧ F17 9 [(.agg #[(.int .i64 x32.1), (.slice x32.2.1.1 x32.2.1.2.1 x32.2.1.2.2), (.int .i64 x32.2.2.1), (.int .i64 x32.2.2.2.1), (.slice x32.2.2.2.2.1.1 x32.2.2.2.2.1.2.1 x32.2.2.2.2.1.2.2)])] (.int .i64 x37) w45 ∧ F17 5 [(.agg #[(.slice x25.1.1 x25.1.2.1 x25.1.2.2), (.slice x25.2.1.1 x25.2.1.2.1 x25.2.1.2.2), (.slice x25.2.2.1.1 x25.2.2.1.2.1 x25.2.2.1.2.2)]), (.agg #[(.int .i64 x26.1), (.slice x26.2.1.1 x26.2.1.2.1 x26.2.1.2.2), (.int .i64 x26.2.2.1), (.int .i64 x26.2.2.2.1), (.slice x26.2.2.2.2.1.1 x26.2.2.2.2.1.2.1 x26.2.2.2.2.1.2.2)])] (.bool x31) w45 ∧ F17 2 [(.agg #[(.slice x18.1.1 x18.1.2.1 x18.1.2.2), (.slice x18.2.1.1 x18.2.1.2.1 x18.2.1.2.2), (.slice x18.2.2.1.1 x18.2.2.1.2.1 x18.2.2.1.2.2)]), (.agg #[(.int .i64 x19.1), (.slice x19.2.1.1 x19.2.1.2.1 x19.2.1.2.2), (.int .i64 x19.2.2.1), (.int .i64 x19.2.2.2.1), (.slice x19.2.2.2.2.1.1 x19.2.2.2.2.1.2.1 x19.2.2.2.2.1.2.2)])] (.bool x24) w45 ∧ True) (fun (w44 : World) =>
   wr Try.prog (Instr.buildSlice 40 1 #[(0, (.int .i64 5))]) (.one .slice) w44 fun (x46 : (Option Addr × Nat × Nat)) (w47 : World) =>
 (bel w44 w47 ∧ F17 15 [] (.slice x46.1 x46.2.1 x46.2.2) w47))
  fun (x48 : (Option Addr × Nat × Nat)) =>
 flc bel w16 (fun w50 => F17 11 [(.agg #[(.int .i64 x38.1), (.slice x38.2.1.1 x38.2.1.2.1 x38.2.1.2.2), (.int .i64 x38.2.2.1), (.int .i64 x38.2.2.2.1), (.slice x38.2.2.2.2.1.1 x38.2.2.2.2.1.2.1 x38.2.2.2.2.1.2.2)])] (.int .i64 x43) w50 ∧ F17 9 [(.agg #[(.int .i64 x32.1), (.slice x32.2.1.1 x32.2.1.2.1 x32.2.1.2.2), (.int .i64 x32.2.2.1), (.int .i64 x32.2.2.2.1), (.slice x32.2.2.2.2.1.1 x32.2.2.2.2.1.2.1 x32.2.2.2.2.1.2.2)])] (.int .i64 x37) w50 ∧ F17 5 [(.agg #[(.slice x25.1.1 x25.1.2.1 x25.1.2.2), (.slice x25.2.1.1 x25.2.1.2.1 x25.2.1.2.2), (.slice x25.2.2.1.1 x25.2.2.1.2.1 x25.2.2.1.2.2)]), (.agg #[(.int .i64 x26.1), (.slice x26.2.1.1 x26.2.1.2.1 x26.2.1.2.2), (.int .i64 x26.2.2.1), (.int .i64 x26.2.2.2.1), (.slice x26.2.2.2.2.1.1 x26.2.2.2.2.1.2.1 x26.2.2.2.2.1.2.2)])] (.bool x31) w50 ∧ F17 2 [(.agg #[(.slice x18.1.1 x18.1.2.1 x18.1.2.2), (.slice x18.2.1.1 x18.2.1.2.1 x18.2.1.2.2), (.slice x18.2.2.1.1 x18.2.2.1.2.1 x18.2.2.1.2.2)]), (.agg #[(.int .i64 x19.1), (.slice x19.2.1.1 x19.2.1.2.1 x19.2.1.2.2), (.int .i64 x19.2.2.1), (.int .i64 x19.2.2.2.1), (.slice x19.2.2.2.2.1.1 x19.2.2.2.2.1.2.1 x19.2.2.2.2.1.2.2)])] (.bool x24) w50 ∧ True) (fun (w49 : World) =>
   wr Try.prog (Instr.buildSlice 40 1 #[(0, (.int .i64 2))]) (.one .slice) w49 fun (x51 : (Option Addr × Nat × Nat)) (w52 : World) =>
 (bel w49 w52 ∧ F17 16 [] (.slice x51.1 x51.2.1 x51.2.2) w52))
  fun (x53 : (Option Addr × Nat × Nat)) =>
 flc bel w16 (fun w55 => F17 16 [] (.slice x53.1 x53.2.1 x53.2.2) w55 ∧ F17 11 [(.agg #[(.int .i64 x38.1), (.slice x38.2.1.1 x38.2.1.2.1 x38.2.1.2.2), (.int .i64 x38.2.2.1), (.int .i64 x38.2.2.2.1), (.slice x38.2.2.2.2.1.1 x38.2.2.2.2.1.2.1 x38.2.2.2.2.1.2.2)])] (.int .i64 x43) w55 ∧ F17 9 [(.agg #[(.int .i64 x32.1), (.slice x32.2.1.1 x32.2.1.2.1 x32.2.1.2.2), (.int .i64 x32.2.2.1), (.int .i64 x32.2.2.2.1), (.slice x32.2.2.2.2.1.1 x32.2.2.2.2.1.2.1 x32.2.2.2.2.1.2.2)])] (.int .i64 x37) w55 ∧ F17 5 [(.agg #[(.slice x25.1.1 x25.1.2.1 x25.1.2.2), (.slice x25.2.1.1 x25.2.1.2.1 x25.2.1.2.2), (.slice x25.2.2.1.1 x25.2.2.1.2.1 x25.2.2.1.2.2)]), (.agg #[(.int .i64 x26.1), (.slice x26.2.1.1 x26.2.1.2.1 x26.2.1.2.2), (.int .i64 x26.2.2.1), (.int .i64 x26.2.2.2.1), (.slice x26.2.2.2.2.1.1 x26.2.2.2.2.1.2.1 x26.2.2.2.2.1.2.2)])] (.bool x31) w55 ∧ F17 2 [(.agg #[(.slice x18.1.1 x18.1.2.1 x18.1.2.2), (.slice x18.2.1.1 x18.2.1.2.1 x18.2.1.2.2), (.slice x18.2.2.1.1 x18.2.2.1.2.1 x18.2.2.1.2.2)]), (.agg #[(.int .i64 x19.1), (.slice x19.2.1.1 x19.2.1.2.1 x19.2.1.2.2), (.int .i64 x19.2.2.1), (.int .i64 x19.2.2.2.1), (.slice x19.2.2.2.2.1.1 x19.2.2.2.2.1.2.1 x19.2.2.2.2.1.2.2)])] (.bool x24) w55 ∧ True) (fun (w54 : World) =>
   wr Try.prog (Instr.buildSlice 41 1 #[(0, (.slice x53.1 x53.2.1 x53.2.2))]) (.one .slice) w54 fun (x56 : (Option Addr × Nat × Nat)) (w57 : World) =>
 (bel w54 w57 ∧ F17 17 [] (.slice x56.1 x56.2.1 x56.2.2) w57))
  fun (x58 : (Option Addr × Nat × Nat)) =>
 flc bel w16 (fun w60 => F17 11 [(.agg #[(.int .i64 x38.1), (.slice x38.2.1.1 x38.2.1.2.1 x38.2.1.2.2), (.int .i64 x38.2.2.1), (.int .i64 x38.2.2.2.1), (.slice x38.2.2.2.2.1.1 x38.2.2.2.2.1.2.1 x38.2.2.2.2.1.2.2)])] (.int .i64 x43) w60 ∧ F17 9 [(.agg #[(.int .i64 x32.1), (.slice x32.2.1.1 x32.2.1.2.1 x32.2.1.2.2), (.int .i64 x32.2.2.1), (.int .i64 x32.2.2.2.1), (.slice x32.2.2.2.2.1.1 x32.2.2.2.2.1.2.1 x32.2.2.2.2.1.2.2)])] (.int .i64 x37) w60 ∧ F17 5 [(.agg #[(.slice x25.1.1 x25.1.2.1 x25.1.2.2), (.slice x25.2.1.1 x25.2.1.2.1 x25.2.1.2.2), (.slice x25.2.2.1.1 x25.2.2.1.2.1 x25.2.2.1.2.2)]), (.agg #[(.int .i64 x26.1), (.slice x26.2.1.1 x26.2.1.2.1 x26.2.1.2.2), (.int .i64 x26.2.2.1), (.int .i64 x26.2.2.2.1), (.slice x26.2.2.2.2.1.1 x26.2.2.2.2.1.2.1 x26.2.2.2.2.1.2.2)])] (.bool x31) w60 ∧ F17 2 [(.agg #[(.slice x18.1.1 x18.1.2.1 x18.1.2.2), (.slice x18.2.1.1 x18.2.1.2.1 x18.2.1.2.2), (.slice x18.2.2.1.1 x18.2.2.1.2.1 x18.2.2.1.2.2)]), (.agg #[(.int .i64 x19.1), (.slice x19.2.1.1 x19.2.1.2.1 x19.2.1.2.2), (.int .i64 x19.2.2.1), (.int .i64 x19.2.2.2.1), (.slice x19.2.2.2.2.1.1 x19.2.2.2.2.1.2.1 x19.2.2.2.2.1.2.2)])] (.bool x24) w60 ∧ True) (fun (w59 : World) =>
   wr Try.prog (Instr.buildSlice 40 1 #[(0, (.int .i64 3))]) (.one .slice) w59 fun (x61 : (Option Addr × Nat × Nat)) (w62 : World) =>
 (bel w59 w62 ∧ F17 18 [] (.slice x61.1 x61.2.1 x61.2.2) w62))
  fun (x63 : (Option Addr × Nat × Nat)) =>
 rd Try.prog (Instr.loadAt 67 (.pointer (some x13))) (.agg [(.int .i64), .slice, (.int .i64), (.int .i64), .slice]) w16 fun (x64 : (Int × (Option Addr × Nat × Nat) × Int × Int × (Option Addr × Nat × Nat) × Unit)) =>
 flend bel w16 (fun w66 => F17 18 [] (.slice x63.1 x63.2.1 x63.2.2) w66 ∧ F17 17 [] (.slice x58.1 x58.2.1 x58.2.2) w66 ∧ F17 16 [] (.slice x53.1 x53.2.1 x53.2.2) w66 ∧ F17 15 [] (.slice x48.1 x48.2.1 x48.2.2) w66 ∧ F17 11 [(.agg #[(.int .i64 x38.1), (.slice x38.2.1.1 x38.2.1.2.1 x38.2.1.2.2), (.int .i64 x38.2.2.1), (.int .i64 x38.2.2.2.1), (.slice x38.2.2.2.2.1.1 x38.2.2.2.2.1.2.1 x38.2.2.2.2.1.2.2)])] (.int .i64 x43) w66 ∧ F17 9 [(.agg #[(.int .i64 x32.1), (.slice x32.2.1.1 x32.2.1.2.1 x32.2.1.2.2), (.int .i64 x32.2.2.1), (.int .i64 x32.2.2.2.1), (.slice x32.2.2.2.2.1.1 x32.2.2.2.2.1.2.1 x32.2.2.2.2.1.2.2)])] (.int .i64 x37) w66 ∧ F17 5 [(.agg #[(.slice x25.1.1 x25.1.2.1 x25.1.2.2), (.slice x25.2.1.1 x25.2.1.2.1 x25.2.1.2.2), (.slice x25.2.2.1.1 x25.2.2.1.2.1 x25.2.2.1.2.2)]), (.agg #[(.int .i64 x26.1), (.slice x26.2.1.1 x26.2.1.2.1 x26.2.1.2.2), (.int .i64 x26.2.2.1), (.int .i64 x26.2.2.2.1), (.slice x26.2.2.2.2.1.1 x26.2.2.2.2.1.2.1 x26.2.2.2.2.1.2.2)])] (.bool x31) w66 ∧ F17 2 [(.agg #[(.slice x18.1.1 x18.1.2.1 x18.1.2.2), (.slice x18.2.1.1 x18.2.1.2.1 x18.2.1.2.2), (.slice x18.2.2.1.1 x18.2.2.1.2.1 x18.2.2.1.2.2)]), (.agg #[(.int .i64 x19.1), (.slice x19.2.1.1 x19.2.1.2.1 x19.2.1.2.2), (.int .i64 x19.2.2.1), (.int .i64 x19.2.2.2.1), (.slice x19.2.2.2.2.1.1 x19.2.2.2.2.1.2.1 x19.2.2.2.2.1.2.2)])] (.bool x24) w66 ∧ True) fun w65 =>
 call Try.prog 47 [(.agg #[(.slice x48.1 x48.2.1 x48.2.2), (.slice x58.1 x58.2.1 x58.2.2), (.slice x63.1 x63.2.1 x63.2.2)]), (.agg #[(.int .i64 x64.1), (.slice x64.2.1.1 x64.2.1.2.1 x64.2.1.2.2), (.int .i64 x64.2.2.1), (.int .i64 x64.2.2.2.1), (.slice x64.2.2.2.2.1.1 x64.2.2.2.2.1.2.1 x64.2.2.2.2.1.2.2)])] (.one (.one .bool)) w65 fun (x67 : Bool) (w68 : World) =>
 R (.bool x67) w68)
 (flend bel w16 (fun w70 => F17 11 [(.agg #[(.int .i64 x38.1), (.slice x38.2.1.1 x38.2.1.2.1 x38.2.1.2.2), (.int .i64 x38.2.2.1), (.int .i64 x38.2.2.2.1), (.slice x38.2.2.2.2.1.1 x38.2.2.2.2.1.2.1 x38.2.2.2.2.1.2.2)])] (.int .i64 x43) w70 ∧ F17 9 [(.agg #[(.int .i64 x32.1), (.slice x32.2.1.1 x32.2.1.2.1 x32.2.1.2.2), (.int .i64 x32.2.2.1), (.int .i64 x32.2.2.2.1), (.slice x32.2.2.2.2.1.1 x32.2.2.2.2.1.2.1 x32.2.2.2.2.1.2.2)])] (.int .i64 x37) w70 ∧ F17 5 [(.agg #[(.slice x25.1.1 x25.1.2.1 x25.1.2.2), (.slice x25.2.1.1 x25.2.1.2.1 x25.2.1.2.2), (.slice x25.2.2.1.1 x25.2.2.1.2.1 x25.2.2.1.2.2)]), (.agg #[(.int .i64 x26.1), (.slice x26.2.1.1 x26.2.1.2.1 x26.2.1.2.2), (.int .i64 x26.2.2.1), (.int .i64 x26.2.2.2.1), (.slice x26.2.2.2.2.1.1 x26.2.2.2.2.1.2.1 x26.2.2.2.2.1.2.2)])] (.bool x31) w70 ∧ F17 2 [(.agg #[(.slice x18.1.1 x18.1.2.1 x18.1.2.2), (.slice x18.2.1.1 x18.2.1.2.1 x18.2.1.2.2), (.slice x18.2.2.1.1 x18.2.2.1.2.1 x18.2.2.1.2.2)]), (.agg #[(.int .i64 x19.1), (.slice x19.2.1.1 x19.2.1.2.1 x19.2.1.2.2), (.int .i64 x19.2.2.1), (.int .i64 x19.2.2.2.1), (.slice x19.2.2.2.2.1.1 x19.2.2.2.2.1.2.1 x19.2.2.2.2.1.2.2)])] (.bool x24) w70 ∧ True) fun w69 =>
 R (.bool false) w69))
 (flend bel w16 (fun w72 => F17 5 [(.agg #[(.slice x25.1.1 x25.1.2.1 x25.1.2.2), (.slice x25.2.1.1 x25.2.1.2.1 x25.2.1.2.2), (.slice x25.2.2.1.1 x25.2.2.1.2.1 x25.2.2.1.2.2)]), (.agg #[(.int .i64 x26.1), (.slice x26.2.1.1 x26.2.1.2.1 x26.2.1.2.2), (.int .i64 x26.2.2.1), (.int .i64 x26.2.2.2.1), (.slice x26.2.2.2.2.1.1 x26.2.2.2.2.1.2.1 x26.2.2.2.2.1.2.2)])] (.bool x31) w72 ∧ F17 2 [(.agg #[(.slice x18.1.1 x18.1.2.1 x18.1.2.2), (.slice x18.2.1.1 x18.2.1.2.1 x18.2.1.2.2), (.slice x18.2.2.1.1 x18.2.2.1.2.1 x18.2.2.1.2.2)]), (.agg #[(.int .i64 x19.1), (.slice x19.2.1.1 x19.2.1.2.1 x19.2.1.2.2), (.int .i64 x19.2.2.1), (.int .i64 x19.2.2.2.1), (.slice x19.2.2.2.2.1.1 x19.2.2.2.2.1.2.1 x19.2.2.2.2.1.2.2)])] (.bool x24) w72 ∧ True) fun w71 =>
 R (.bool false) w71)))
def H14 : Hints := ⟨[], [(4, 21)], [], []⟩
set_option maxRecDepth 100000 in
theorem S14_eq (s_0a : Option Addr) (s_0n : Nat) (s_0c : Nat) (s_1a : Option Addr) (s_1n : Nat) (s_1c : Nat) (s_2a : Option Addr) (s_2n : Nat) (s_2c : Nat) (p_0 : Int) (p_1a : Option Addr) (p_1n : Nat) (p_1c : Nat) (p_2 : Int) (p_3 : Int) (p_4a : Option Addr) (p_4n : Nat) (p_4c : Nat) (w0 : World) (R : Value → World → Prop) : vcFn Try.prog H14 Try.f14 [(.agg #[(.slice s_0a s_0n s_0c), (.slice s_1a s_1n s_1c), (.slice s_2a s_2n s_2c)]), (.agg #[(.int .i64 p_0), (.slice p_1a p_1n p_1c), (.int .i64 p_2), (.int .i64 p_3), (.slice p_4a p_4n p_4c)])] w0 R = S14 s_0a s_0n s_0c s_1a s_1n s_1c s_2a s_2n s_2c p_0 p_1a p_1n p_1c p_2 p_3 p_4a p_4n p_4c w0 R := by kernel_rfl
set_option maxRecDepth 100000 in
theorem S14_calls (s_0a : Option Addr) (s_0n : Nat) (s_0c : Nat) (s_1a : Option Addr) (s_1n : Nat) (s_1c : Nat) (s_2a : Option Addr) (s_2n : Nat) (s_2c : Nat) (p_0 : Int) (p_1a : Option Addr) (p_1n : Nat) (p_1c : Nat) (p_2 : Int) (p_3 : Int) (p_4a : Option Addr) (p_4n : Nat) (p_4c : Nat) (w0 : World) (R : Value → World → Prop) (h : S14 s_0a s_0n s_0c s_1a s_1n s_1c s_2a s_2n s_2c p_0 p_1a p_1n p_1c p_2 p_3 p_4a p_4n p_4c w0 R) : Calls Try.prog 14 #[(.agg #[(.slice s_0a s_0n s_0c), (.slice s_1a s_1n s_1c), (.slice s_2a s_2n s_2c)]), (.agg #[(.int .i64 p_0), (.slice p_1a p_1n p_1c), (.int .i64 p_2), (.int .i64 p_3), (.slice p_4a p_4n p_4c)])] w0 (ret R) := by
  rw [← S14_eq] at h; exact vcFn_sound follows_ Try.func14 h

end Go.Proofs

/- A block of one's own that others may write: relations for regions that tell their states. -/

namespace Go.V
open Go Go.RowKit Go.Q

/-- only one block that was there may have turned -/
abbrev Xg (b : Nat) : Rel := fun w w' => w.grownBy w' (some b)
theorem bel.xg {w w' : World} (h : bel w w') (b : Nat) : Xg b w w' := grown_of_bel h _
theorem Box.xg {w w' : World} {a : Addr} {cs : List Value} {b : Nat} (X : Box w a cs) (h : Xg b w w') (hne : a.block ≠ b) : Box w' a cs := X.grown h (by intro e; injection e; omega)
theorem _root_.Go.Q.Sl.xg {w w' : World} {a : Option Addr} {n c sz : Nat} {xs : List Value} {b : Nat} (S : Sl w a n c sz xs) (h : Xg b w w') (hne : ∀ ad, a = some ad → xs ≠ [] → ad.block ≠ b) : Sl w' a n c sz xs :=
  S.grown h fun ad ha hx e => hne ad ha hx (by injection e)
theorem Own.xg {w w' : World} {B : Nat} {e : TypeId} {sz : Nat} {a : Option Addr} {n c : Nat} {xs : List Value} {b : Nat} (O : Own w B e sz a n c xs) (h : Xg b w w') (hb : b < B) : Own w' B e sz a n c xs := by
  refine O.keptBy h ?_
  cases hk : blk a with
  | none => exact .inl rfl
  | some k => exact .inr fun q => by have := (O.lt k hk).1; injection q; omega
theorem rdE_box0 {P : Program} {E : Rel} {t : TypeId} {s : Sh} {w : World} {a : Addr} {cs : List Value} {v : Value} {x : s.T} {k : s.T → Prop} (ht : scal P t = true) (h : ∀ w', E w w' → Box w' a cs) (hi : cs[0]? = some v) (hx : s.get v = some x) (hk : k x) :
    rdE P E (Instr.loadAt t (.pointer (some a))) (.one s) w k := ⟨x, fun w' hw => by rw [run_loadAt, run_loadVar1 ht ((h w' hw).cell0 hi), Sh.get_spec hx]; rfl, hk⟩
theorem rdE_box {P : Program} {E : Rel} {t : TypeId} {s : Sh} {w : World} {a : Addr} {cs : List Value} {i : Nat} {v : Value} {x : s.T} {k : s.T → Prop} (ht : scal P t = true) (h : ∀ w', E w w' → Box w' a cs) (hi : cs[i]? = some v) (hx : s.get v = some x) (hk : k x) :
    rdE P E (Instr.loadAt t (.pointer (some (a.add i)))) (.one s) w k := ⟨x, fun w' hw => by rw [run_loadAt, run_loadVar1 ht ((h w' hw).cell hi), Sh.get_spec hx]; rfl, hk⟩
theorem flExC_mk {w0 : World} {B : Rel → (Nat → Rel) → ((Nat → Bool) → World → Prop) → Facts → Prop} (E : Rel) (G : Nat → Rel) (St : (Nat → Bool) → World → Prop) (Φ : Facts) (h1 : ∀ w, E w w) (h2 : ∀ a b c, E a b → E b c → E a c)
    (h3 : ∀ i j ags v w w', i ≠ j → Φ i ags v w → E w w' → G j w w' → Φ i ags v w') (h4 : St (fun _ => false) w0) (h5 : B E G St Φ) : flExC w0 B := ⟨E, G, St, Φ, h1, h2, h3, h4, h5⟩
theorem flcC_mk {St : (Nat → Bool) → World → Prop} {j : Nat} {E : Rel} {w0 : World} {pre : World → Prop} {ob : (Nat → Bool) → World → Prop} {T : Type} {nxt : T → Prop} (h1 : ∀ D w, D j = false → E w0 w → St D w → pre w → ob D w) (h2 : ∀ x, nxt x) : flcC St j E w0 pre ob nxt := ⟨h1, h2⟩
theorem flendC_mk {St : (Nat → Bool) → World → Prop} {L : List Nat} {E : Rel} {w0 : World} {pre k : World → Prop} (h : ∀ w, E w0 w → St (fun i => L.contains i) w → pre w → k w) : flendC St L E w0 pre k := h
theorem setD_self (D : Nat → Bool) (j : Nat) : setD D j j = true := by simp [setD]
theorem setD_ne {D : Nat → Bool} {i j : Nat} (h : i ≠ j) : setD D j i = D i := by simp [setD, h]
/-- frames over several blocks -/
structure Xb (S : Nat → Prop) (w w' : World) : Prop where
  os : w'.os = w.os
  tape : w'.tape = w.tape
  output : w'.output = w.output
  size : w.heap.size ≤ w'.heap.size
  block : ∀ k, k < w.heap.size → ¬ S k → w'.heap[k]? = w.heap[k]?
theorem Xb.refl (S : Nat → Prop) (w : World) : Xb S w w := ⟨rfl, rfl, rfl, Nat.le_refl _, fun _ _ _ => rfl⟩
theorem Xb.trans {S : Nat → Prop} {a b c : World} (h : Xb S a b) (h' : Xb S b c) : Xb S a c :=
  ⟨h'.os.trans h.os, h'.tape.trans h.tape, h'.output.trans h.output, Nat.le_trans h.size h'.size, fun k hk hs => by rw [h'.block k (by have := h.size; omega) hs, h.block k hk hs]⟩
theorem Xb.of {S : Nat → Prop} {w w' : World} {o : Option Nat} (h : w.grownBy w' o) (ho : ∀ k, o = some k → S k) : Xb S w w' :=
  ⟨h.os, h.tape, h.output, h.size, fun k hk hs => h.block k hk (fun e => hs (ho k e.symm))⟩
theorem Xb.bel {S : Nat → Prop} {a w w' : World} (h : bel a w) (h' : Xb S w w') (hs : ∀ k, S k → a.heap.size ≤ k) : bel a w' :=
  ⟨h'.os.trans h.os, h'.tape.trans h.tape, h'.output.trans h.output, Nat.le_trans h.size h'.size, fun k hk => by rw [h'.block k (by have := h.size; omega) (fun q => by have := hs k q; omega), h.block k hk]⟩
theorem Xb.grown {S : Nat → Prop} {w w' : World} (h : Xb S w w') {o : Option Nat} (hs : ∀ k, S k → k < w.heap.size → o = some k) : w.grownBy w' o :=
  ⟨h.os, h.tape, h.output, h.size, fun k hk hne => h.block k hk fun q => hne (hs k q hk).symm⟩
theorem Xb.more {S S' : Nat → Prop} {a w w' : World} (h : Xb S a w) (h' : Xb S' w w') (hs : ∀ k, S' k → S k ∨ a.heap.size ≤ k) : Xb S a w' :=
  ⟨h'.os.trans h.os, h'.tape.trans h.tape, h'.output.trans h.output, Nat.le_trans h.size h'.size, fun k hk hn => by
    rw [h'.block k (by have := h.size; omega) (fun q => by
      rcases hs k q with q | q
      · exact hn q
      · omega), h.block k hk hn]⟩
theorem _root_.Go.Q.Sl.xb {S : Nat → Prop} {w w' : World} {a : Option Addr} {n c sz : Nat} {xs : List Value} (H : Sl w a n c sz xs) (hX : Xb S w w') (hne : ∀ ad, a = some ad → xs ≠ [] → ¬ S ad.block) : Sl w' a n c sz xs := by
  refine ⟨H.len, H.cap, H.most, H.nil', fun k u hu => ?_⟩
  obtain ⟨ad, q1, q2, q3⟩ := H.at' k u hu
  have hx : xs ≠ [] := by rintro rfl; simp at hu
  refine ⟨ad, q1, ?_, by have := hX.size; omega⟩
  have := hX.block ad.block q3 (hne ad q1 hx)
  unfold World.cell? at q2 ⊢
  rw [add_block] at q2 ⊢
  rw [this]; exact q2
theorem Box.xb {S : Nat → Prop} {w w' : World} {a : Addr} {cs : List Value} (X : Box w a cs) (hX : Xb S w w') (hne : ¬ S a.block) : Box w' a cs :=
  ⟨X.off, X.spot, by obtain ⟨T, hT⟩ := X.blk; exact ⟨T, by rw [hX.block _ X.lt hne]; exact hT⟩⟩
/-- slices of different kinds of elements do not lie in one block -/
theorem Own.apart {w : World} {B B' : Nat} {e e' : TypeId} {sz sz' : Nat} {a a' : Option Addr} {n c n' c' : Nat} {xs ys : List Value} (h : Own w B e sz a n c xs) (h' : Own w B' e' sz' a' n' c' ys) (hne : e ≠ e') : ∀ k, blk a = some k → blk a' = some k → False := by
  intro k hk hk'
  obtain ⟨_, h2⟩ := h
  obtain ⟨_, h2'⟩ := h'
  rcases h2 with ⟨hv, _⟩ | ⟨g, cap, cur, hv, _, hh, _⟩
  · injection hv with ha; rw [ha] at hk; cases hk
  · rcases h2' with ⟨hv', _⟩ | ⟨g', cap', cur', hv', _, hh', _⟩
    · injection hv' with ha'; rw [ha'] at hk'; cases hk'
    · injection hv with ha
      injection hv' with ha'
      subst ha ha'
      have q1 : g = k := by simpa [blk] using hk
      have q2 : g' = k := by simpa [blk] using hk'
      subst q1
      subst q2
      rw [hh] at hh'
      injection hh' with hh'
      injection hh' with _ he _
      exact hne he
theorem xg_put {w w' w'' : World} {t : Nat} {o : Option Nat} (h : w.grownBy w' (some t)) (hg : w'.grownBy w'' o) (ho : ∀ k, o = some k → w.heap.size ≤ k ∨ k = t) : w.grownBy w'' (some t) :=
  ⟨hg.os.trans h.os, hg.tape.trans h.tape, hg.output.trans h.output, Nat.le_trans h.size hg.size, fun k hk hne => by
    rw [hg.block k (by have := h.size; omega) (fun e => by
      rcases ho k e.symm with q | q
      · omega
      · exact hne (by rw [q])), h.block k hk hne]⟩
end Go.V

/- copy, and regions with a relation. -/


namespace Go.V
open Go Go.RowKit Go.Q

theorem putAt_at : ∀ (vs pre cs : List Value), vs.length ≤ cs.length → putAt (pre ++ cs) pre.length vs = pre ++ vs ++ cs.drop vs.length
  | [], pre, cs, _ => by simp [putAt]
  | v :: vs, pre, [], h => by simp at h
  | v :: vs, pre, c :: cs, h => by
    simp only [putAt]
    have h1 : (pre ++ c :: cs).set pre.length v = (pre ++ [v]) ++ cs := by simp
    rw [h1]
    have := putAt_at vs (pre ++ [v]) cs (by simpa using h)
    simp only [List.length_append, List.length_cons, List.length_nil, Nat.zero_add] at this
    rw [this]; simp
theorem run_storeOwn {P : Program} {B : Nat} {e : TypeId} {ad : Addr} {n c : Nat} : ∀ (vs : List Value) (i : Nat) (w : World) (xs : List Value), Own w B e 1 (some ad) n c xs → i + vs.length ≤ xs.length → plainV vs = true →
    ∃ w', (storeCells ad vs i).run P w = .ok () w' ∧ Own w' B e 1 (some ad) n c (putAt xs i vs) ∧ w.grownBy w' (some ad.block) ∧ w'.heap.size = w.heap.size
  | [], i, w, xs, hb, _, _ => ⟨w, rfl, hb, grown_refl _ _, rfl⟩
  | v :: vs, i, w, xs, hb, hl, hp => by
    simp only [plainV, List.all_cons, Bool.and_eq_true] at hp
    simp only [List.length_cons] at hl
    obtain ⟨u, hu⟩ : ∃ u, xs[i]? = some u := ⟨_, List.getElem?_eq_getElem (by omega)⟩
    obtain ⟨ad', h1, hc, hfz, _⟩ := hb.cell (j := i) hu
    cases h1
    obtain ⟨w', h1, h2, h3, h4⟩ := run_storeOwn (P := P) vs (i + 1) (w.setCell (ad.add i) v) (xs.set i v) (hb.set i v) (by simp; omega) hp.2
    refine ⟨w', ?_, h2, ?_, by rw [h4, setCell_size]⟩
    · simp only [storeCells, Sem.run_bind]
      rw [run_store P w (ad.add i) v .plain hp.1, hc]
      simp only [hfz, Bool.false_eq_true, if_false, Result.andThen_ok, h1]
    · refine World.grownBy.trans ?_ h3
      have := setCell_grown w (ad.add i) v
      rwa [add_block] at this
/-- copy into a slice of one's own -/
theorem wr_copy {P : Program} {t e : TypeId} {z : Value} {bytes : Nat} (T : TyS P t e z 1 bytes) {w : World} {B : Nat} {a b : Option Addr} {n c m c' : Nat} {xs ys : List Value} {ty : TypeId} {k : Int → World → Prop}
    (O : Own w B e 1 a n c xs) (S : Sl w b m c' 1 ys) (hp : plainV ys = true)
    (hk : ∀ w', Own w' B e 1 a n c (ys.take n ++ xs.drop m) → w.grownBy w' (blk a) → w'.heap.size = w.heap.size → k ((Nat.min m n : Nat) : Int) w') :
    wr P (Builtin.copy_ #[t, t] ty #[.slice a n c, .slice b m c']) (.one (.int .i64)) w k := by
  obtain ⟨i, h1, _, h2, _⟩ := info_parts T.hi
  have hxs : xs.length = n := by have := O.1; omega
  have hys : ys.length = m := by have := S.len; omega
  have hi : i.size = 1 := h2
  have hmin : (Nat.min m n) = min m n := rfl
  have hcl : (ys.take n).length = Nat.min m n := by rw [List.length_take, hys, hmin]; omega
  have key : putAt xs 0 (ys.take n) = ys.take n ++ xs.drop m := by
    have := putAt_at (ys.take n) [] xs (by rw [hcl, hmin]; omega)
    simp only [List.nil_append, List.length_nil] at this
    rw [this, hcl, hmin]
    rcases Nat.le_total m n with q | q
    · rw [show min m n = m by omega]
    · rw [show min m n = n by omega, List.drop_of_length_le (by omega), List.drop_of_length_le (by omega)]
  have hpl : plainV (ys.take n) = true := by
    unfold plainV at hp ⊢
    rw [List.all_eq_true] at hp ⊢
    exact fun x hx => hp x (List.mem_of_mem_take hx)
  cases a with
  | none =>
    have hn0 : n = 0 := by
      rcases O.2 with ⟨hv, _⟩ | ⟨g, cap, cur, hv, _⟩
      · injection hv
      · cases hv
    subst hn0
    have hx0 : xs = [] := List.eq_nil_of_length_eq_zero hxs
    subst hx0
    refine ⟨(0 : Int), w, ?_, ?_⟩
    · cases b with
      | none => simp [Builtin.copy_, run_underlying T.ht, Builtin.lenOf, Builtin.firstCells, sizeOf, typeInfo, h1, goInt]; rfl
      | some b =>
        have hl := run_loadCells_list (P := P) w b [] (fun j v h => by simp at h)
        simp [Builtin.copy_, run_underlying T.ht, Builtin.lenOf, Builtin.firstCells, sizeOf, typeInfo, h1] at hl ⊢
        simp [hl, goInt]; rfl
    · have := hk w (by simpa using O) (grown_refl _ _) rfl
      simpa [hmin] using this
  | some ad =>
    obtain ⟨w', r1, r2, r3, r4⟩ := run_storeOwn (P := P) (ys.take n) 0 w xs O (by rw [hcl, hmin]; omega) hpl
    rw [key] at r2
    refine ⟨((Nat.min m n : Nat) : Int), w', ?_, hk w' r2 r3 r4⟩
    cases b with
    | none =>
      have hm0 : m = 0 := (S.nil' rfl).1
      subst hm0
      have hy0 : ys = [] := List.eq_nil_of_length_eq_zero hys
      subst hy0
      simp at r1
      simp [Builtin.copy_, run_underlying T.ht, Builtin.lenOf, Builtin.firstCells, sizeOf, typeInfo, h1, goInt, r1]; rfl
    | some b =>
      have hl := run_loadCells_list (P := P) w b (ys.take n) (fun j v h => by
        have hj : ys[j]? = some v := by
          rw [List.getElem?_take] at h
          split at h
          · exact h
          · cases h
        obtain ⟨ad', q1, q2, _⟩ := S.at' j v hj
        cases q1; exact q2)
      rw [hcl] at hl
      simp [Builtin.copy_, run_underlying T.ht, Builtin.lenOf, Builtin.firstCells, sizeOf, typeInfo, h1, hi, hl, r1, goInt]; rfl
theorem Own.putNew {w w' : World} {B : Nat} {e : TypeId} {sz : Nat} {a : Option Addr} {n c : Nat} {xs : List Value} {k : Nat} (O : Own w B e sz a n c xs) (h : w.grownBy w' (some k)) (hk : ∀ j, blk a = some j → j ≠ k) : Own w' B e sz a n c xs := by
  refine O.keptBy h ?_
  cases hj : blk a with
  | none => exact .inl rfl
  | some j => exact .inr fun q => hk j hj (by injection q)
theorem flExE_mk {B : Rel → Facts → Prop} (E : Rel) (Φ : Facts) (h1 : ∀ w, E w w) (h2 : ∀ a b c, E a b → E b c → E a c) (h3 : ∀ i ags v w w', Φ i ags v w → E w w' → Φ i ags v w') (h4 : B E Φ) : flExE B := ⟨E, Φ, h1, h2, h3, h4⟩
end Go.V

/- Proofs as trees: few, Size, depth. -/



namespace Go.Proofs.Ytajpdnphamomjaa
open Go.RowKit Go.Q Go.Q.Num Go.V

abbrev CPr := Int × Hdr × Int × Int × Hdr × Unit
abbrev prc (x : CPr) : List Value := [.int .i64 x.1, .slice x.2.1.1 x.2.1.2.1 x.2.1.2.2, .int .i64 x.2.2.1, .int .i64 x.2.2.2.1, .slice x.2.2.2.2.1.1 x.2.2.2.2.1.2.1 x.2.2.2.2.1.2.2]
abbrev prv (x : CPr) : Value := .agg #[.int .i64 x.1, .slice x.2.1.1 x.2.1.2.1 x.2.1.2.2, .int .i64 x.2.2.1, .int .i64 x.2.2.2.1, .slice x.2.2.2.2.1.1 x.2.2.2.2.1.2.1 x.2.2.2.2.1.2.2]
theorem prc_len (x : CPr) : (prc x).length = 5 := rfl
theorem tyPrs : TyS Try.prog 65 67 (.agg #[.int .i64 0, .slice none 0 0, .int .i64 0, .int .i64 0, .slice none 0 0]) 5 72 := ⟨by kernel_rfl, by kernel_rfl⟩
theorem agPr : aggOf Try.prog 67 5 = true := by kernel_rfl
/-- a node over some kind of trees -/
structure PN (α : Type) where
  kind : Int
  mul : List (Int × Int)
  var : Int
  bound : Int
  kids : List α
/-- trees of at most so many nodes below one another -/
def PT : Nat → Type
  | 0 => Empty
  | n + 1 => PN (PT n)
def PrAt (w : World) : (n : Nat) → PT n → CPr → Prop
  | 0, _, _ => False
  | n + 1, p, x =>
    let q : PN (PT n) := p
    (x.1 = q.kind ∧ I64 q.kind) ∧ (Sl w x.2.1.1 x.2.1.2.1 x.2.1.2.2 2 (q.mul.flatMap encF) ∧ ∀ y ∈ q.mul, I64 y.1 ∧ I64 y.2) ∧ (x.2.2.1 = q.var ∧ I64 q.var) ∧ (x.2.2.2.1 = q.bound ∧ I64 q.bound) ∧ q.kids.length ≤ 3 ∧
      ∃ xs : List CPr, Sl w x.2.2.2.2.1.1 x.2.2.2.2.1.2.1 x.2.2.2.2.1.2.2 5 (xs.flatMap prc) ∧ xs.length = q.kids.length ∧ ∀ (i : Nat) (y : CPr) (k : PT n), xs[i]? = some y → q.kids[i]? = some k → PrAt w n k y
theorem PrAt.up {w w' : World} (hb : bel w w') : ∀ {n : Nat} {p : PT n} {x : CPr}, PrAt w n p x → PrAt w' n p x
  | 0, _, _, h => h
  | n + 1, p, x, h => by
    obtain ⟨h1, ⟨h2, h3⟩, h4, h5, h6, xs, h7, h8, h9⟩ := h
    exact ⟨h1, ⟨h2.kept hb, h3⟩, h4, h5, h6, xs, h7.kept hb, h8, fun i y k q1 q2 => PrAt.up hb (h9 i y k q1 q2)⟩
def szP : (n : Nat) → PT n → Nat
  | 0, _ => 0
  | n + 1, p => let q : PN (PT n) := p; 1 + (q.kids.map (szP n)).sum
def maxl (l : List Nat) : Nat := l.foldl max 0
def depP : (n : Nat) → PT n → Nat
  | 0, _ => 0
  | n + 1, p => let q : PN (PT n) := p; maxl (q.kids.map (depP n)) + 1
theorem sum_le {B : Nat} : ∀ {l : List Nat}, (∀ x ∈ l, x ≤ B) → l.sum ≤ l.length * B
  | [], _ => by simp
  | x :: l, h => by
    have := sum_le (l := l) fun y hy => h y (List.mem_cons_of_mem _ hy)
    have := h x (List.mem_cons_self ..)
    rw [List.sum_cons, List.length_cons, Nat.add_mul]; omega
theorem szP_le {w : World} : ∀ {n : Nat} {p : PT n} {x : CPr}, PrAt w n p x → szP n p ≤ 4 ^ n
  | 0, _, _, _ => Nat.zero_le _
  | n + 1, p, x, h => by
    obtain ⟨_, _, _, _, h6, xs, _, h8, h9⟩ := h
    have : ((p : PN (PT n)).kids.map (szP n)).sum ≤ ((p : PN (PT n)).kids.map (szP n)).length * 4 ^ n := sum_le fun y hy => by
      obtain ⟨k, hk, rfl⟩ := List.mem_map.1 hy
      obtain ⟨j, hj, rfl⟩ := List.mem_iff_getElem.1 hk
      exact szP_le (h9 j _ _ (List.getElem?_eq_getElem (by omega)) (List.getElem?_eq_getElem hj))
    rw [List.length_map] at this
    have h4 : 1 ≤ 4 ^ n := Nat.pow_pos (by omega)
    have : ((p : PN (PT n)).kids.map (szP n)).sum ≤ 3 * 4 ^ n := Nat.le_trans this (Nat.mul_le_mul_right _ h6)
    show 1 + ((p : PN (PT n)).kids.map (szP n)).sum ≤ 4 ^ (n + 1)
    rw [Nat.pow_succ]; omega
theorem maxl_le {B : Nat} {l : List Nat} (h : ∀ x ∈ l, x ≤ B) : maxl l ≤ B := by
  have key : ∀ (l : List Nat) (a : Nat), a ≤ B → (∀ x ∈ l, x ≤ B) → l.foldl max a ≤ B := by
    intro l
    induction l with
    | nil => intro a ha _; exact ha
    | cons x l ih => intro a ha h; exact ih _ (by have := h x (List.mem_cons_self ..); omega) fun y hy => h y (List.mem_cons_of_mem _ hy)
  exact key l 0 (Nat.zero_le _) h
theorem depP_le {w : World} : ∀ {n : Nat} {p : PT n} {x : CPr}, PrAt w n p x → depP n p ≤ n
  | 0, _, _, _ => Nat.le_refl _
  | n + 1, p, x, h => by
    obtain ⟨_, _, _, _, h6, xs, _, h8, h9⟩ := h
    have : maxl ((p : PN (PT n)).kids.map (depP n)) ≤ n := maxl_le fun y hy => by
      obtain ⟨k, hk, rfl⟩ := List.mem_map.1 hy
      obtain ⟨j, hj, rfl⟩ := List.mem_iff_getElem.1 hk
      exact depP_le (h9 j _ _ (List.getElem?_eq_getElem (by omega)) (List.getElem?_eq_getElem hj))
    show maxl ((p : PN (PT n)).kids.map (depP n)) + 1 ≤ n + 1
    omega
theorem sum_take {l : List Nat} {i x : Nat} (h : l[i]? = some x) : (l.take (i + 1)).sum = (l.take i).sum + x := by
  rw [List.take_add_one, h]; simp
theorem max_take {l : List Nat} {i x : Nat} (h : l[i]? = some x) : maxl (l.take (i + 1)) = max (maxl (l.take i)) x := by
  rw [List.take_add_one, h]; simp [maxl]
set_option maxRecDepth 100000 in
/-- a node's memory, as it came in -/
theorem readPr0 {w : World} {ch : List Value} (h : Go.Q.Read Try.prog w 67 ch) : ∃ v1 v2 v3 v4 v5, ch = [v1, v2, v3, v4, v5] ∧ Go.Q.Read Try.prog w 3 [v1] ∧ Go.Q.Read Try.prog w 33 [v2] ∧ Go.Q.Read Try.prog w 3 [v3] ∧ Go.Q.Read Try.prog w 2 [v4] ∧ Go.Q.Read Try.prog w 65 [v5] := by
  obtain ⟨hl, h⟩ := Go.Q.Read.struct Try.underlying67 h
  have hsz' : ch.length = 5 := by rw [hl]; kernel_rfl
  obtain ⟨v1, v2, v3, v4, v5, rfl⟩ : ∃ v1 v2 v3 v4 v5, ch = [v1, v2, v3, v4, v5] := by
    rcases ch with _ | ⟨v1, _ | ⟨v2, _ | ⟨v3, _ | ⟨v4, _ | ⟨v5, _ | ⟨v6, l⟩⟩⟩⟩⟩⟩ <;> simp at hsz'
    exact ⟨v1, v2, v3, v4, v5, rfl⟩
  exact ⟨v1, v2, v3, v4, v5, rfl, h _ (List.mem_cons_self ..), h _ (List.mem_cons_of_mem _ (List.mem_cons_self ..)), h _ (List.mem_cons_of_mem _ (List.mem_cons_of_mem _ (List.mem_cons_self ..))),
    h _ (List.mem_cons_of_mem _ (List.mem_cons_of_mem _ (List.mem_cons_of_mem _ (List.mem_cons_self ..)))), h _ (List.mem_cons_of_mem _ (List.mem_cons_of_mem _ (List.mem_cons_of_mem _ (List.mem_cons_of_mem _ (List.mem_cons_self ..)))))⟩
set_option maxRecDepth 100000 in
theorem readPr {w : World} {ch : List Value} (h : Go.Q.Read Try.prog w 67 ch) : ∃ x : CPr, ch = prc x ∧ Go.Q.Read Try.prog w 67 (prc x) := by
  obtain ⟨v1, v2, v3, v4, v5, rfl, h1, h2, h3, h4, h5⟩ := readPr0 h
  obtain ⟨n1, e1, _⟩ := Go.Q.Read.int Try.underlying3 h1
  obtain ⟨a2, n2, c2, e2, _⟩ := Go.Q.Read.slice Try.underlying33 h2
  obtain ⟨n3, e3, _⟩ := Go.Q.Read.int Try.underlying3 h3
  obtain ⟨n4, e4, _⟩ := Go.Q.Read.int Try.underlying2 h4
  obtain ⟨a5, n5, c5, e5, _⟩ := Go.Q.Read.slice Try.underlying65 h5
  cases e1; cases e2; cases e3; cases e4; cases e5
  exact ⟨(n1, (a2, n2, c2), n3, n4, (a5, n5, c5), ()), rfl, h⟩
set_option maxRecDepth 100000 in
theorem prShape {w : World} {x : CPr} (h : Go.Q.Read Try.prog w 67 (prc x)) : I64 x.1 ∧ (∃ M : List (Int × Int), Sl w x.2.1.1 x.2.1.2.1 x.2.1.2.2 2 (M.flatMap encF) ∧ ∀ y ∈ M, I64 y.1 ∧ I64 y.2) ∧ I64 x.2.2.1 ∧ I64 x.2.2.2.1 ∧
    ∃ xs : List CPr, Sl w x.2.2.2.2.1.1 x.2.2.2.2.1.2.1 x.2.2.2.2.1.2.2 5 (xs.flatMap prc) ∧ ∀ y ∈ xs, Go.Q.Read Try.prog w 67 (prc y) := by
  obtain ⟨v1, v2, v3, v4, v5, e, h1, h2, h3, h4, h5⟩ := readPr0 h
  simp only [prc, List.cons.injEq, and_true] at e
  obtain ⟨e1, e2, e3, e4, e5⟩ := e
  rw [← e1] at h1; rw [← e2] at h2; rw [← e3] at h3; rw [← e4] at h4; rw [← e5] at h5
  obtain ⟨n1, e1, b1⟩ := Go.Q.Read.int Try.underlying3 h1
  obtain ⟨n3, e3, b3⟩ := Go.Q.Read.int Try.underlying3 h3
  obtain ⟨n4, e4, b4⟩ := Go.Q.Read.int Try.underlying2 h4
  obtain ⟨a1, n1', c1, L, q1, _, s1, b2⟩ := Go.V.Read.elems (enc := encF) (R := fun p => I64 p.1 ∧ I64 p.2) encF_len (by omega) (fun _ h => readFrac h) Try.underlying33 (by kernel_rfl) h2
  obtain ⟨a2, n2', c2, L2, q2, _, s2, b5⟩ := Go.V.Read.elems (enc := prc) (R := fun p => Go.Q.Read Try.prog w 67 (prc p)) prc_len (by omega) (fun _ h => readPr h) Try.underlying65 (by kernel_rfl) h5
  simp only [List.cons.injEq, and_true, Value.int.injEq, true_and, Value.slice.injEq] at e1 e3 e4 q1 q2
  obtain ⟨q1, q1', q1''⟩ := q1
  obtain ⟨q2, q2', q2''⟩ := q2
  rw [e1, e3, e4, q1, q1', q1'', q2, q2', q2'']
  exact ⟨bounds_i64 b1, ⟨L, s1, b2⟩, bounds_i64 b3, bounds_i64 b4, L2, s2, b5⟩
set_option maxHeartbeats 1600000 in
theorem fewPF (w0 : World) : ∀ (m : Nat) (x : CPr) (d : Int) (w : World), Go.Q.Read Try.prog w0 67 (prc x) → bel w0 w → m ≤ 31 → d = 31 - (m : Int) →
    call Try.prog 95 [prv x, .int .i64 d] (.one (.one .bool)) w (fun b w' => (b = true → ∃ p : PT m, PrAt w0 m p x) ∧ bel w w') := by
  intro m
  induction m with
  | zero =>
    intro x d w hR hb hm hd
    refine call_of (S95_calls x.1 x.2.1.1 x.2.1.2.1 x.2.1.2.2 x.2.2.1 x.2.2.2.1 x.2.2.2.2.1.1 x.2.2.2.2.1.2.1 x.2.2.2.2.1.2.2 d w _ ?_)
    unfold S95
    refine wr_box fun x1 w2 X h _ _ => ?_
    exact br_dec (fun _ => ⟨false, rfl, (fun q => by cases q), h⟩) (fun e => absurd (show d > 30 by omega) e)
  | succ m ih =>
    intro x d w hR hb hm hd
    obtain ⟨b1, ⟨M, S1, bM⟩, b3, b4, xs, S5, hK⟩ := prShape hR
    have hxl : xs.length = x.2.2.2.2.1.2.1 := by have := S5.len; rw [flat_len prc_len] at this; omega
    refine call_of (S95_calls x.1 x.2.1.1 x.2.1.2.1 x.2.1.2.2 x.2.2.1 x.2.2.2.1 x.2.2.2.2.1.1 x.2.2.2.2.1.2.1 x.2.2.2.2.1.2.2 d w _ ?_)
    unfold S95
    refine wr_box fun x1 w2 X h _ _ => ?_
    replace X : Box w2 x1 (prc x) := X
    refine br_dec (fun _ => ⟨false, rfl, (fun q => by cases q), h⟩) (fun e => ?_)
    refine rd_box (by kernel_rfl) X (i := 4) rfl rfl ?_
    refine br_dec (fun _ => ⟨false, rfl, (fun q => by cases q), h⟩) (fun e3 => ?_)
    refine rd_box (by kernel_rfl) X (i := 1) rfl rfl ?_
    refine br_dec (fun _ => ⟨false, rfl, (fun q => by cases q), h⟩) (fun _ => ?_)
    dsimp only at e3
    refine loop_up xs.length (fun i w' => bel w2 w' ∧ ∀ j, j < i → ∀ y, xs[j]? = some y → ∃ p : PT m, PrAt w0 m p y) ⟨Below.refl _ _, pre_zero⟩ fun i w7 hi ⟨hw, hp⟩ again hag _ => ?_
    have h7 := h.trans hw
    refine rd_box (by kernel_rfl) (X.up hw) (i := 4) rfl rfl ?_
    refine br_dec (fun e4 => ?_) (fun e4 => ?_)
    · dsimp only at e4
      refine rd_box (by kernel_rfl) (X.up hw) (i := 4) rfl rfl ?_
      obtain ⟨y, hy⟩ : ∃ y, xs[i]? = some y := ⟨_, List.getElem?_eq_getElem (by omega)⟩
      refine at_agg tyPrs agPr prc_len (by omega) (S5.up (hb.trans h7)) rfl hy rfl ?_
      refine z_i64 (by omega) ?_
      refine call_mono (ih y (d + 1) w7 (hK y (mem_at hy)) (hb.trans h7) (by omega) (by omega)) ?_
      rintro b w14 ⟨hb1, h14⟩
      refine br_not (fun _ => ⟨false, rfl, (fun q => by cases q), h7.trans h14⟩) (fun e5 => ?_)
      refine z_i64 (by dsimp only; omega) ?_
      exact hag _ (by omega) ⟨hw.trans h14, pre_step hp hy (hb1 e5)⟩
    · dsimp only at e4
      refine ⟨true, rfl, fun _ => ?_, h7⟩
      have hall := pre_all hp (by omega)
      have key : ∀ l : List CPr, (∀ y ∈ l, ∃ p : PT m, PrAt w0 m p y) → ∃ ps : List (PT m), l.length = ps.length ∧ ∀ (j : Nat) (y : CPr) (k : PT m), l[j]? = some y → ps[j]? = some k → PrAt w0 m k y := by
        intro l
        induction l with
        | nil => intro _; exact ⟨[], rfl, fun j y k h => by simp at h⟩
        | cons y l ihl =>
          intro h
          obtain ⟨p, hp⟩ := h y (List.mem_cons_self ..)
          obtain ⟨ps, q1, q2⟩ := ihl fun z hz => h z (List.mem_cons_of_mem _ hz)
          refine ⟨p :: ps, by simp [q1], fun j z k h1 h2 => ?_⟩
          cases j with
          | zero => cases h1; cases h2; exact hp
          | succ j => exact q2 j z k (by simpa using h1) (by simpa using h2)
      obtain ⟨ps, k1, k2⟩ := key xs hall
      exact ⟨(⟨x.1, M, x.2.2.1, x.2.2.2.1, ps⟩ : PN (PT m)), ⟨rfl, b1⟩, ⟨S1, bM⟩, ⟨rfl, b3⟩, ⟨rfl, b4⟩, by show ps.length ≤ 3; omega, xs, S5, k1, k2⟩
theorem few12 (x : CPr) (w0 w : World) (hR : Go.Q.Read Try.prog w0 67 (prc x)) (h0 : bel w0 w) : call Try.prog 46 [prv x] (.one (.one .bool)) w (fun b w' => (b = true → ∃ p : PT 31, PrAt w0 31 p x) ∧ bel w w') := by
  refine call_of (S46_calls x.1 x.2.1.1 x.2.1.2.1 x.2.1.2.2 x.2.2.1 x.2.2.2.1 x.2.2.2.2.1.1 x.2.2.2.2.1.2.1 x.2.2.2.2.1.2.2 w _ ?_)
  unfold S46
  refine wr_box fun x1 w2 X h _ _ => ?_
  replace X : Box w2 x1 (prc x) := X
  refine rd_boxN X (by kernel_rfl) rfl ?_
  refine call_mono (fewPF w0 31 x 0 w2 hR (h0.trans h) (by omega) (by omega)) ?_
  rintro b w5 ⟨hb, h5⟩
  exact ⟨b, rfl, hb, h.trans h5⟩
end Go.Proofs.Ytajpdnphamomjaa

/- Size and depth of proofs. -/

namespace Go.Proofs.Ytajpdnphamomjaa
open Go.RowKit Go.Q Go.Q.Num Go.V

abbrev zpr : Value := .agg #[.int .i64 0, .slice none 0 0, .int .i64 0, .int .i64 0, .slice none 0 0]
theorem sz_part {w : World} {n : Nat} {p : PN (PT n)} {x : CPr} (h : PrAt w (n + 1) p x) (hn : n ≤ 30) (i : Nat) : (((p.kids.map (szP n)).take i).sum) ≤ 4 ^ 31 := by
  have h1 := szP_le h
  have h2 : szP (n + 1) p = 1 + (p.kids.map (szP n)).sum := rfl
  have h3 : (p.kids.map (szP n)).sum = ((p.kids.map (szP n)).take i).sum + ((p.kids.map (szP n)).drop i).sum := by rw [← List.sum_append, List.take_append_drop]
  have h4 : 4 ^ (n + 1) ≤ 4 ^ 31 := Nat.pow_le_pow_right (by omega) (by omega)
  omega
theorem dep_part {w : World} {n : Nat} {p : PN (PT n)} {x : CPr} (h : PrAt w (n + 1) p x) (i : Nat) : maxl ((p.kids.map (depP n)).take i) ≤ n := by
  obtain ⟨_, _, _, _, h6, xs, _, h8, h9⟩ := h
  refine maxl_le fun y hy => ?_
  obtain ⟨k, hk, rfl⟩ := List.mem_map.1 (List.mem_of_mem_take hy)
  obtain ⟨j, hj, rfl⟩ := List.mem_iff_getElem.1 hk
  exact depP_le (h9 j _ _ (List.getElem?_eq_getElem (by omega)) (List.getElem?_eq_getElem hj))
theorem take_all {α : Type} {l : List α} {i : Nat} (h : l.length ≤ i) : l.take i = l := List.take_of_length_le h

set_option maxHeartbeats 1600000 in
theorem szL : ∀ (m : Nat) (p : PT m) (x : CPr) (w : World), m ≤ 31 → PrAt w m p x →
    call Try.prog 49 [prv x] (.one (.one (.int .i64))) w (fun (n : Int) w' => n = (szP m p : Int) ∧ bel w w') := by
  intro m
  induction m with
  | zero => intro p; exact p.elim
  | succ m ih =>
    intro (p : PN (PT m)) x w hm hP
    obtain ⟨_, _, _, _, h6, xs, S5, hxl, hK⟩ := id hP
    have hxn : xs.length = x.2.2.2.2.1.2.1 := by have := S5.len; rw [flat_len prc_len] at this; omega
    refine call_of (S49_calls x.1 x.2.1.1 x.2.1.2.1 x.2.1.2.2 x.2.2.1 x.2.2.2.1 x.2.2.2.2.1.1 x.2.2.2.2.1.2.1 x.2.2.2.2.1.2.2 w _ ?_)
    unfold S49
    refine wr_box fun x1 w2 X h _ _ => ?_
    replace X : Box w2 x1 (prc x) := X
    refine rd_box (by kernel_rfl) X (i := 4) rfl rfl ?_
    refine loop_upA xs.length (fun i a w' => bel w2 w' ∧ a = 1 + (((p.kids.map (szP m)).take i).sum : Nat)) ⟨Below.refl _ _, by simp⟩ fun i a w7 hi ⟨hw, ha⟩ again hag _ => ?_
    have h7 := h.trans hw
    have hb1 := sz_part hP (by omega) i
    have hb2 := sz_part hP (by omega) (i + 1)
    refine br_dec (fun e4 => ?_) (fun e4 => ?_)
    · dsimp only at e4
      obtain ⟨y, hy⟩ : ∃ y, xs[i]? = some y := ⟨_, List.getElem?_eq_getElem (by omega)⟩
      obtain ⟨k, hk⟩ : ∃ k, p.kids[i]? = some k := ⟨_, List.getElem?_eq_getElem (by omega)⟩
      have hmap : (p.kids.map (szP m))[i]? = some (szP m k) := by rw [List.getElem?_map, hk]; rfl
      refine at_agg tyPrs agPr prc_len (by omega) (S5.up h7) rfl hy rfl ?_
      refine var_mk (v := prv y) (z := zpr) (by kernel_rfl) (by kernel_rfl) rfl rfl fun x9 w11 Y h11 _ => ?_
      replace Y : Box w11 x9 (prc y) := Y
      refine rd_boxN Y (by kernel_rfl) rfl ?_
      refine call_mono (ih k y w11 (by omega) ((hK i y k hy hk).up (h7.trans h11))) ?_
      rintro (n : Int) w14 ⟨rfl, h14⟩
      rw [sum_take hmap] at hb2
      refine z_i64 (by dsimp only; omega) ?_
      refine z_i64 (by dsimp only; omega) ?_
      refine hag _ _ (by omega) ⟨hw.trans (h11.trans h14), ?_⟩
      rw [sum_take hmap]; subst ha; omega
    · dsimp only at e4
      refine ⟨a, rfl, ?_, h7⟩
      rw [take_all (by simp; omega)] at ha
      rw [ha]
      show _ = ((1 + (p.kids.map (szP m)).sum : Nat) : Int)
      omega
set_option maxHeartbeats 1600000 in
theorem sz12 : ∀ (m : Nat) (p : PT m) (x : CPr) (w : World), m ≤ 31 → PrAt w m p x →
    call Try.prog 50 [prv x] (.one (.one (.int .i64))) w (fun (n : Int) w' => n = (szP m p : Int) ∧ bel w w') := by
  intro m
  induction m with
  | zero => intro p; exact p.elim
  | succ m ih =>
    intro (p : PN (PT m)) x w hm hP
    obtain ⟨_, _, _, _, h6, xs, S5, hxl, hK⟩ := id hP
    have hxn : xs.length = x.2.2.2.2.1.2.1 := by have := S5.len; rw [flat_len prc_len] at this; omega
    refine call_of (S50_calls x.1 x.2.1.1 x.2.1.2.1 x.2.1.2.2 x.2.2.1 x.2.2.2.1 x.2.2.2.2.1.1 x.2.2.2.2.1.2.1 x.2.2.2.2.1.2.2 w _ ?_)
    unfold S50
    refine wr_box fun x1 w2 X h _ _ => ?_
    replace X : Box w2 x1 (prc x) := X
    refine loop_upA xs.length (fun i a w' => bel w2 w' ∧ a = 1 + (((p.kids.map (szP m)).take i).sum : Nat)) ⟨Below.refl _ _, by simp⟩ fun i a w7 hi ⟨hw, ha⟩ again hag _ => ?_
    have h7 := h.trans hw
    have hb1 := sz_part hP (by omega) i
    have hb2 := sz_part hP (by omega) (i + 1)
    refine rd_box (by kernel_rfl) (X.up hw) (i := 4) rfl rfl ?_
    refine br_dec (fun e4 => ?_) (fun e4 => ?_)
    · dsimp only at e4
      refine rd_box (by kernel_rfl) (X.up hw) (i := 4) rfl rfl ?_
      obtain ⟨y, hy⟩ : ∃ y, xs[i]? = some y := ⟨_, List.getElem?_eq_getElem (by omega)⟩
      obtain ⟨k, hk⟩ : ∃ k, p.kids[i]? = some k := ⟨_, List.getElem?_eq_getElem (by omega)⟩
      have hmap : (p.kids.map (szP m))[i]? = some (szP m k) := by rw [List.getElem?_map, hk]; rfl
      refine at_agg tyPrs agPr prc_len (by omega) (S5.up h7) rfl hy rfl ?_
      refine call_mono (ih k y w7 (by omega) ((hK i y k hy hk).up h7)) ?_
      rintro (n : Int) w14 ⟨rfl, h14⟩
      rw [sum_take hmap] at hb2
      refine z_i64 (by dsimp only; omega) ?_
      refine z_i64 (by dsimp only; omega) ?_
      refine hag _ _ (by omega) ⟨hw.trans h14, ?_⟩
      rw [sum_take hmap]; subst ha; omega
    · dsimp only at e4
      refine ⟨a, rfl, ?_, h7⟩
      rw [take_all (by simp; omega)] at ha
      rw [ha]
      show _ = ((1 + (p.kids.map (szP m)).sum : Nat) : Int)
      omega
set_option maxHeartbeats 1600000 in
theorem depL : ∀ (m : Nat) (p : PT m) (x : CPr) (w : World), m ≤ 31 → PrAt w m p x →
    call Try.prog 96 [prv x] (.one (.one (.int .i64))) w (fun (n : Int) w' => n = (depP m p : Int) ∧ bel w w') := by
  intro m
  induction m with
  | zero => intro p; exact p.elim
  | succ m ih =>
    intro (p : PN (PT m)) x w hm hP
    obtain ⟨_, _, _, _, h6, xs, S5, hxl, hK⟩ := id hP
    have hxn : xs.length = x.2.2.2.2.1.2.1 := by have := S5.len; rw [flat_len prc_len] at this; omega
    refine call_of (S96_calls x.1 x.2.1.1 x.2.1.2.1 x.2.1.2.2 x.2.2.1 x.2.2.2.1 x.2.2.2.2.1.1 x.2.2.2.2.1.2.1 x.2.2.2.2.1.2.2 w _ ?_)
    unfold S96
    refine wr_box fun x1 w2 X h _ _ => ?_
    replace X : Box w2 x1 (prc x) := X
    refine rd_box (by kernel_rfl) X (i := 4) rfl rfl ?_
    refine loop_upA xs.length (fun i a w' => bel w2 w' ∧ a = ((maxl ((p.kids.map (depP m)).take i) : Nat) : Int)) ⟨Below.refl _ _, by simp [maxl]⟩ fun i a w7 hi ⟨hw, ha⟩ again hag _ => ?_
    have h7 := h.trans hw
    have hb1 := dep_part hP i
    have hb2 := dep_part hP (i + 1)
    refine br_dec (fun e4 => ?_) (fun e4 => ?_)
    · dsimp only at e4
      obtain ⟨y, hy⟩ : ∃ y, xs[i]? = some y := ⟨_, List.getElem?_eq_getElem (by omega)⟩
      obtain ⟨k, hk⟩ : ∃ k, p.kids[i]? = some k := ⟨_, List.getElem?_eq_getElem (by omega)⟩
      have hmap : (p.kids.map (depP m))[i]? = some (depP m k) := by rw [List.getElem?_map, hk]; rfl
      refine at_agg tyPrs agPr prc_len (by omega) (S5.up h7) rfl hy rfl ?_
      refine var_mk (v := prv y) (z := zpr) (by kernel_rfl) (by kernel_rfl) rfl rfl fun x9 w11 Y h11 _ => ?_
      replace Y : Box w11 x9 (prc y) := Y
      refine rd_boxN Y (by kernel_rfl) rfl ?_
      refine call_mono (ih k y w11 (by omega) ((hK i y k hy hk).up (h7.trans h11))) ?_
      rintro (n : Int) w14 ⟨rfl, h14⟩
      rw [max_take hmap] at hb2
      refine z_eq rfl ?_
      refine z_i64 (by dsimp only; omega) ?_
      refine hag _ _ (by omega) ⟨hw.trans (h11.trans h14), ?_⟩
      rw [max_take hmap]; subst ha; dsimp only; split <;> omega
    · dsimp only at e4
      refine z_i64 (by dsimp only; omega) ?_
      refine ⟨a + 1, rfl, ?_, h7⟩
      rw [take_all (by simp; omega)] at ha
      rw [ha]
      show _ = ((maxl (p.kids.map (depP m)) + 1 : Nat) : Int)
      omega
set_option maxHeartbeats 1600000 in
theorem dep12 : ∀ (m : Nat) (p : PT m) (x : CPr) (w : World), m ≤ 31 → PrAt w m p x →
    call Try.prog 98 [prv x] (.one (.one (.int .i64))) w (fun (n : Int) w' => n = (depP m p : Int) ∧ bel w w') := by
  intro m
  induction m with
  | zero => intro p; exact p.elim
  | succ m ih =>
    intro (p : PN (PT m)) x w hm hP
    obtain ⟨_, _, _, _, h6, xs, S5, hxl, hK⟩ := id hP
    have hxn : xs.length = x.2.2.2.2.1.2.1 := by have := S5.len; rw [flat_len prc_len] at this; omega
    refine call_of (S98_calls x.1 x.2.1.1 x.2.1.2.1 x.2.1.2.2 x.2.2.1 x.2.2.2.1 x.2.2.2.2.1.1 x.2.2.2.2.1.2.1 x.2.2.2.2.1.2.2 w _ ?_)
    unfold S98
    refine wr_box fun x1 w2 X h _ _ => ?_
    replace X : Box w2 x1 (prc x) := X
    refine loop_upA xs.length (fun i a w' => bel w2 w' ∧ a = ((maxl ((p.kids.map (depP m)).take i) : Nat) : Int)) ⟨Below.refl _ _, by simp [maxl]⟩ fun i a w7 hi ⟨hw, ha⟩ again hag _ => ?_
    have h7 := h.trans hw
    have hb1 := dep_part hP i
    have hb2 := dep_part hP (i + 1)
    refine rd_box (by kernel_rfl) (X.up hw) (i := 4) rfl rfl ?_
    refine br_dec (fun e4 => ?_) (fun e4 => ?_)
    · dsimp only at e4
      refine rd_box (by kernel_rfl) (X.up hw) (i := 4) rfl rfl ?_
      obtain ⟨y, hy⟩ : ∃ y, xs[i]? = some y := ⟨_, List.getElem?_eq_getElem (by omega)⟩
      obtain ⟨k, hk⟩ : ∃ k, p.kids[i]? = some k := ⟨_, List.getElem?_eq_getElem (by omega)⟩
      have hmap : (p.kids.map (depP m))[i]? = some (depP m k) := by rw [List.getElem?_map, hk]; rfl
      refine at_agg tyPrs agPr prc_len (by omega) (S5.up h7) rfl hy rfl ?_
      refine call_mono (ih k y w7 (by omega) ((hK i y k hy hk).up h7)) ?_
      rintro (n : Int) w14 ⟨rfl, h14⟩
      rw [max_take hmap] at hb2
      refine z_eq rfl ?_
      refine z_i64 (by dsimp only; omega) ?_
      refine hag _ _ (by omega) ⟨hw.trans h14, ?_⟩
      rw [max_take hmap]; subst ha; dsimp only; split <;> omega
    · dsimp only at e4
      refine z_i64 (by dsimp only; omega) ?_
      refine ⟨a + 1, rfl, ?_, h7⟩
      rw [take_all (by simp; omega)] at ha
      rw [ha]
      show _ = ((maxl (p.kids.map (depP m)) + 1 : Nat) : Int)
      omega
end Go.Proofs.Ytajpdnphamomjaa

/- right, of both. -/

namespace Go.Proofs.Ytajpdnphamomjaa
open Go.RowKit Go.Q Go.Q.Num Go.V

theorem idx1 {t e : TypeId} {z : Value} {bytes : Nat} (T : TyS Try.prog t e z 1 bytes) {a : Option Addr} {ad : Addr} {n c j : Nat} {k : IntKind} {i : Int} {K : Addr → Prop} (hj : i = (j : Int)) (h : j < n) (ha : a = some ad) (hk : K (ad.add j)) :
    rdp Try.prog (Instr.indexAt t (.slice a n c) (.int k i)) (.one .addr) K := by
  refine idx_mk T hj h ha ?_
  rw [Nat.mul_one]; exact hk
theorem rdE_elem {E : Rel} {e : TypeId} {w : World} {ad : Addr} {n c j : Nat} {kk : IntKind} {xs : List Int} {x : Int} {K : Int → Prop} (he : scal Try.prog e = true) (h : ∀ w', E w w' → Sl w' (some ad) n c 1 (ints kk xs)) (hx : xs[j]? = some x) (hk : K x) :
    rdE Try.prog E (Instr.loadAt e (.pointer (some (ad.add j)))) (.one (.int kk)) w K := by
  refine ⟨x, fun w' hw => ?_, hk⟩
  obtain ⟨ad', h1, h2, _⟩ := (h w' hw).at' j (.int kk x) (by simp [ints, hx])
  cases h1
  have hg : (Sh.int kk).get (.int kk x) = some x := by unfold Sh.get; simp; rfl
  rw [run_loadAt, run_loadVar1 he h2, Sh.get_spec hg]; rfl
theorem own_some {w : World} {B : Nat} {e : TypeId} {a : Option Addr} {n c : Nat} {xs : List Int} (O : Own w B e 1 a n c (ints .i64 xs)) {j : Nat} (hj : j < xs.length) : ∃ ad, a = some ad := by
  obtain ⟨ad, h, _⟩ := O.sl.at' j (.int .i64 xs[j]) (by simp [ints, hj])
  exact ⟨ad, h⟩
theorem clone64 (s : Hdr) (xs : List Int) (w : World) (S : Sl w s.1 s.2.1 s.2.2 1 (ints .i64 xs)) (hn : s.2.1 ≤ 1000000) :
    call Try.prog 124 [.slice s.1 s.2.1 s.2.2] (.one (.one .slice)) w (fun (x : Hdr) w' => OwnI w' w.heap.size x xs ∧ bel w w') := by
  refine call_of (S124_calls s.1 s.2.1 s.2.2 w _ ?_)
  unfold S124
  have hl := S.int
  refine rd_nil tyI64 ?_
  obtain ⟨a, n, c⟩ := s
  dsimp only at hl hn S ⊢
  cases a with
  | none =>
    refine br_t rfl ?_
    have hn0 := (S.nil' rfl).1
    have : xs = [] := List.eq_nil_of_length_eq_zero (by omega)
    subst this
    exact ⟨((none, 0, 0) : Hdr), rfl, Own.nil _ _ _ _, bel.refl _⟩
  | some ad =>
    refine br_f rfl ?_
    refine wr_lit0 tyI64 fun b w3 O h3 _ _ => ?_
    refine wr_app tyI64 (O w.heap.size (Nat.le_refl _)) (S.up h3) h3.size rfl (by omega) (by clear S hl; induction xs with | nil => rfl | cons y ys ih => exact ih) (by omega) (by unfold maxLen; omega) fun a' c' w5 O5 hg _ _ => ?_
    refine ⟨((a', 0 + n, c') : Hdr), rfl, by simpa using O5, h3.grown hg fun k hk => ?_⟩
    have := (Own.lt (O w.heap.size (Nat.le_refl _)) k hk).1
    omega
theorem copiedF (s : Hdr) (xs : List Int) (w : World) (S : Sl w s.1 s.2.1 s.2.2 1 (ints .i64 xs)) (hn : s.2.1 ≤ 1000000) :
    call Try.prog 125 [.slice s.1 s.2.1 s.2.2] (.one (.one .slice)) w (fun (x : Hdr) w' => OwnI w' w.heap.size x xs ∧ bel w w') := by
  refine call_of (S125_calls s.1 s.2.1 s.2.2 w _ ?_)
  unfold S125
  have hl := S.int
  refine wr_make tyI64 s.2.1 rfl rfl (by omega) (by unfold maxLen; omega) fun ad w2 O h2 hb _ => ?_
  have O2 := O w.heap.size (Nat.le_refl _)
  refine wr_copy tyI64 O2 (S.up h2) (by clear S hl; induction xs with | nil => rfl | cons y ys ih => exact ih) fun w4 O4 hg _ => ?_
  have e : (ints .i64 xs).take s.2.1 ++ (madeCells (Value.int .i64 0).cells (s.2.1 * 1)).toList.drop s.2.1 = ints .i64 xs := by
    rw [List.take_of_length_le (by simp [ints]; omega), List.drop_of_length_le (by rw [Array.length_toList, size_madeCells]; omega), List.append_nil]
  rw [e] at O4
  exact ⟨((some ad, s.2.1, s.2.1) : Hdr), rfl, O4, h2.grown hg fun k hk => by have := (O2.lt k hk).1; omega⟩

def rightP (up : List Int) (T : List (List Int)) (rt : List Int) : (n : Nat) → PT n → List Int → List Int → Prop
  | 0, _, _, _ => False
  | n + 1, p, lo, hi =>
    let q : PN (PT n) := p
    (q.kind = 1 ∧ (q.var = 0 ∧ q.bound = 0 ∧ q.kids.length = 0) ∧ BndP up T rt lo hi q.mul) ∨
    (q.kind = 2 ∧ (q.var = 0 ∧ q.bound = 0 ∧ q.kids.length = 0) ∧ LatP up T rt q.mul) ∨
    (q.kind = 3 ∧ q.kids.length = 2 ∧ q.mul.length = 0 ∧ (0 ≤ q.var ∧ q.var < (up.length : Int)) ∧ (0 ≤ q.bound ∧ q.bound ≤ 1000000000) ∧
      (∀ a, q.kids[0]? = some a → rightP up T rt n a lo (hi.set q.var.toNat (min (hi.getD q.var.toNat 0) q.bound))) ∧ (∀ a, q.kids[1]? = some a → rightP up T rt n a (lo.set q.var.toNat (max (lo.getD q.var.toNat 0) (q.bound + 1))) hi))
section
variable {up : List Int} {T : List (List Int)} {rt : List Int} {n : Nat} {p : PN (PT n)} {lo hi : List Int}
theorem right_1 (hk : p.kind = 1) (hZ : p.var = 0 ∧ p.bound = 0 ∧ p.kids.length = 0) : rightP up T rt (n + 1) p lo hi ↔ BndP up T rt lo hi p.mul := by
  refine ⟨fun h => ?_, fun h => .inl ⟨hk, hZ, h⟩⟩
  rcases (h : _ ∨ _ ∨ _) with ⟨_, _, h⟩ | ⟨h1, _⟩ | ⟨h1, _⟩
  · exact h
  · have h1 : p.kind = 2 := h1; omega
  · have h1 : p.kind = 3 := h1; omega
theorem right_2 (hk : p.kind = 2) (hZ : p.var = 0 ∧ p.bound = 0 ∧ p.kids.length = 0) : rightP up T rt (n + 1) p lo hi ↔ LatP up T rt p.mul := by
  refine ⟨fun h => ?_, fun h => .inr (.inl ⟨hk, hZ, h⟩)⟩
  rcases (h : _ ∨ _ ∨ _) with ⟨h1, _⟩ | ⟨_, _, h⟩ | ⟨h1, _⟩
  · have h1 : p.kind = 1 := h1; omega
  · exact h
  · have h1 : p.kind = 3 := h1; omega
theorem right_no (hk : p.kind ≠ 3) (hZ : p.kind = 1 ∨ p.kind = 2 → ¬ (p.var = 0 ∧ p.bound = 0 ∧ p.kids.length = 0)) : ¬ rightP up T rt (n + 1) p lo hi := by
  intro h
  rcases (h : _ ∨ _ ∨ _) with ⟨h1, h2, _⟩ | ⟨h1, h2, _⟩ | ⟨h1, _⟩
  · exact hZ (.inl h1) h2
  · exact hZ (.inr h1) h2
  · exact hk h1
theorem right_3 (hk : p.kind = 3) : rightP up T rt (n + 1) p lo hi ↔ p.kids.length = 2 ∧ p.mul.length = 0 ∧ (0 ≤ p.var ∧ p.var < (up.length : Int)) ∧ (0 ≤ p.bound ∧ p.bound ≤ 1000000000) ∧
      (∀ a, p.kids[0]? = some a → rightP up T rt n a lo (hi.set p.var.toNat (min (hi.getD p.var.toNat 0) p.bound))) ∧ (∀ a, p.kids[1]? = some a → rightP up T rt n a (lo.set p.var.toNat (max (lo.getD p.var.toNat 0) (p.bound + 1))) hi) := by
  refine ⟨fun h => ?_, fun h => .inr (.inr ⟨hk, h⟩)⟩
  rcases (h : _ ∨ _ ∨ _) with ⟨h1, _⟩ | ⟨h1, _⟩ | ⟨_, h⟩
  · have h1 : p.kind = 1 := h1; omega
  · have h1 : p.kind = 2 := h1; omega
  · exact h
end
theorem iff_no {P : Prop} (h : ¬ P) : (false = true ↔ P) := ⟨(fun q => by cases q), fun q => absurd q h⟩
end Go.Proofs.Ytajpdnphamomjaa

/- The walks of both 'right'. (Printed by mkLT.py.) -/

namespace Go.Proofs.Ytajpdnphamomjaa
open Go.RowKit Go.Q Go.Q.Num Go.V

set_option maxHeartbeats 3200000 in
theorem rightL (u r b : Hdr) (up : List Int) (T : List (List Int)) (rt : List Int) (hup : up.length ≤ 1000000) : ∀ (n : Nat) (p : PT n) (x : CPr) (lo hi : Hdr) (ls hs : List Int) (w : World), PrAt w n p x → Sys w u r b up T rt →
    Sl w lo.1 lo.2.1 lo.2.2 1 (ints .i64 ls) → Sl w hi.1 hi.2.1 hi.2.2 1 (ints .i64 hs) → ls.length = up.length → hs.length = up.length →
    call Try.prog 97 [sysv u r b, prv x, .slice lo.1 lo.2.1 lo.2.2, .slice hi.1 hi.2.1 hi.2.2] (.one (.one .bool)) w (fun y w' => (y = true ↔ rightP up T rt n p ls hs) ∧ bel w w') := by
  intro n
  induction n with
  | zero => intro p; exact p.elim
  | succ n ih =>
    intro (p : PN (PT n)) x lo hi ls hs w hP H HLo HHi hll hhl
    obtain ⟨⟨e1, b1⟩, ⟨S2, bM⟩, ⟨e3, b3⟩, ⟨e4, b4⟩, h6, xs, S5, hxl, hK⟩ := id hP
    obtain ⟨k0, m0, v0, b0, ks, _⟩ := x
    dsimp only at e1 e3 e4 S2 S5 hK
    subst e1 e3 e4
    have hxn : xs.length = ks.2.1 := by have := S5.len; rw [flat_len prc_len] at this; omega
    have hml := fr_len S2
    have hul := H.u.int
    have hlo := HLo.int
    have hhi := HHi.int
    refine call_of (S97_calls u.1 u.2.1 u.2.2 r.1 r.2.1 r.2.2 b.1 b.2.1 b.2.2 p.kind m0.1 m0.2.1 m0.2.2 p.var p.bound ks.1 ks.2.1 ks.2.2 lo.1 lo.2.1 lo.2.2 hi.1 hi.2.1 hi.2.2 w _ ?_)
    unfold S97
    refine wr_box fun y1 w2 X1 h2 _ _ => ?_
    refine wr_box fun y3 w4 X h4 _ _ => ?_
    replace X1 : Box w4 y1 (sysc u r b) := X1.up h4
    replace X : Box w4 y3 (prc (p.kind, m0, p.var, p.bound, ks, ())) := X
    have h := h2.trans h4
    replace S2 := S2.up h; replace S5 := S5.up h; replace H := H.up h; replace HLo := HLo.up h; replace HHi := HHi.up h
    have lX := X.lt
    have lX1 := X1.lt
    have no : ∀ {w' : World}, bel w w' → ¬ rightP up T rt (n + 1) p ls hs → ∃ v : Bool, Value.bool false = (RS.one (.one .bool)).val v ∧ (v = true ↔ rightP up T rt (n + 1) p ls hs) ∧ bel w w' := fun hb q => ⟨false, rfl, iff_no q, hb⟩
    have leaf : ∀ {c : Bool}, (c = true ↔ ¬ (p.var = 0 ∧ p.bound = 0 ∧ p.kids.length = 0)) → (c = false → (p.var = 0 ∧ p.bound = 0 ∧ p.kids.length = 0)) := fun q e => Classical.byContradiction fun z => by rw [q.2 z] at e; cases e
    refine join_mk (fun s w' => w4 = w' ∧ (s.1 = true ↔ ¬ (p.var = 0 ∧ p.bound = 0 ∧ p.kids.length = 0))) (fun K' hK' => ?_) (fun s w7 hJ _ => ?_)
    · refine rd_box (by kernel_rfl) X (i := 2) rfl rfl ?_
      refine br_ne (fun e => hK' _ _ ⟨rfl, by simp [e]⟩) (fun e3 => ?_)
      refine rd_box (by kernel_rfl) X (i := 3) rfl rfl ?_
      refine br_ne (fun e => hK' _ _ ⟨rfl, by simp [e]⟩) (fun e4 => ?_)
      refine rd_box (by kernel_rfl) X (i := 4) rfl rfl ?_
      refine hK' _ _ ⟨rfl, ?_⟩
      dsimp only at e3 e4 ⊢
      rw [decide_eq_true_eq]
      omega
    obtain ⟨rfl, hsv⟩ := hJ
    obtain ⟨sv, _⟩ := s
    dsimp only at hsv
    refine rd_box0 (by kernel_rfl) X rfl rfl ?_
    refine br_eq (fun hk => ?_) (fun hk1 => br_eq (fun hk => ?_) (fun hk2 => br_eq (fun hk => ?_) (fun hk3 => no h (right_no hk3 fun q => (q.elim hk1 hk2).elim))))
    · refine br_not (fun e => ?_) (fun e => no h (right_no (by dsimp only at hk; omega) fun _ => hsv.1 e))
      refine rd_boxN X1 (by kernel_rfl) rfl ?_
      refine rd_box (by kernel_rfl) X (i := 1) rfl rfl ?_
      refine call_mono (bndL u r b lo hi m0 up T rt ls hs p.mul _ H S2 bM HLo HHi) ?_
      rintro x11 w12 ⟨hx, h12⟩
      exact ⟨x11, rfl, hx.trans (right_1 hk (leaf hsv e)).symm, h.trans h12⟩
    · refine br_not (fun e => ?_) (fun e => no h (right_no (by dsimp only at hk; omega) fun _ => hsv.1 e))
      refine rd_boxN X1 (by kernel_rfl) rfl ?_
      refine rd_box (by kernel_rfl) X (i := 1) rfl rfl ?_
      refine call_mono (latL u r b m0 up T rt p.mul _ H S2 bM) ?_
      rintro x15 w16 ⟨hx, h16⟩
      exact ⟨x15, rfl, hx.trans (right_2 hk (leaf hsv e)).symm, h.trans h16⟩
    · dsimp only at hk
      refine rd_box (by kernel_rfl) X (i := 4) rfl rfl ?_
      refine br_ne (fun e => no h fun q => ?_) (fun e2 => ?_)
      · have := ((right_3 hk).1 q).1; dsimp only at e; omega
      dsimp only at e2
      refine rd_box (by kernel_rfl) X (i := 1) rfl rfl ?_
      refine br_dec (fun e => no h fun q => ?_) (fun em => ?_)
      · have := ((right_3 hk).1 q).2.1; dsimp only at e; omega
      dsimp only at em
      refine rd_box (by kernel_rfl) X (i := 2) rfl rfl ?_
      refine br_dec (fun e => no h fun q => ?_) (fun ev0 => ?_)
      · have := ((right_3 hk).1 q).2.2.1; dsimp only at e; omega
      refine rd_box (by kernel_rfl) X (i := 2) rfl rfl ?_
      refine rd_box0 (by kernel_rfl) X1 rfl rfl ?_
      refine br_dec (fun e => no h fun q => ?_) (fun ev1 => ?_)
      · have := ((right_3 hk).1 q).2.2.1; dsimp only at e; omega
      refine rd_box (by kernel_rfl) X (i := 3) rfl rfl ?_
      refine br_dec (fun e => no h fun q => ?_) (fun eb0 => ?_)
      · have := ((right_3 hk).1 q).2.2.2.1; dsimp only at e; omega
      refine rd_box (by kernel_rfl) X (i := 3) rfl rfl ?_
      refine br_dec (fun e => no h fun q => ?_) (fun eb1 => ?_)
      · have := ((right_3 hk).1 q).2.2.2.1; dsimp only at e; omega
      dsimp only at ev0 ev1 eb0 eb1
      obtain ⟨v, hv⟩ : ∃ v : Nat, p.var = (v : Int) := ⟨p.var.toNat, by omega⟩
      have hvt : p.var.toNat = v := by omega
      have hvl : v < up.length := by omega
      obtain ⟨hx, hhx⟩ : ∃ y, hs[v]? = some y := ⟨_, List.getElem?_eq_getElem (by omega)⟩
      obtain ⟨lx, hlx⟩ : ∃ y, ls[v]? = some y := ⟨_, List.getElem?_eq_getElem (by omega)⟩
      have r3 := right_3 (up := up) (T := T) (rt := rt) (lo := ls) (hi := hs) hk
      have gh : hs.getD v 0 = hx := by rw [List.getD_eq_getElem?_getD, hhx]; rfl
      have gl : ls.getD v 0 = lx := by rw [List.getD_eq_getElem?_getD, hlx]; rfl
      rw [hvt, gh, gl] at r3
      obtain ⟨a0, ha0⟩ : ∃ y, p.kids[0]? = some y := ⟨_, List.getElem?_eq_getElem (by omega)⟩
      obtain ⟨a1, ha1⟩ : ∃ y, p.kids[1]? = some y := ⟨_, List.getElem?_eq_getElem (by omega)⟩
      obtain ⟨c0, hc0⟩ : ∃ y, xs[0]? = some y := ⟨_, List.getElem?_eq_getElem (by omega)⟩
      obtain ⟨c1, hc1⟩ : ∃ y, xs[1]? = some y := ⟨_, List.getElem?_eq_getElem (by omega)⟩
      refine call_mono (clone64 lo ls w4 HLo (by omega)) ?_
      rintro (x24 : Hdr) w25 ⟨O24, h25⟩
      refine call_mono (clone64 hi hs w25 (HHi.up h25) (by omega)) ?_
      rintro (x26 : Hdr) w27 ⟨O26, h27⟩
      have n24 := O24.len
      have n26 := O26.len
      obtain ⟨a26, ha26⟩ := own_some O26 (j := v) (by omega)
      obtain ⟨a24, ha24⟩ := own_some O24 (j := v) (by omega)
      have l24 := O24.lt a24.block (by rw [ha24]; rfl)
      have l26 := O26.lt a26.block (by rw [ha26]; rfl)
      replace O24 : OwnI w27 w4.heap.size x24 ls := Own.kept O24 h27
      have s25 := h25.size
      have s27 := h27.size
      have bk26 : blk x26.1 = some a26.block := by rw [ha26]; rfl
      have bk24 : blk x24.1 = some a24.block := by rw [ha24]; rfl
      have h7 := h25.trans h27
      replace X := X.up h7; replace X1 := X1.up h7
      refine drw_mk fun w28 h28 _ => ?_
      replace X := X.up h28; replace X1 := X1.up h28
      have h8 := h7.trans h28
      have s28 := h28.size
      replace O24 : OwnI w28 w4.heap.size x24 ls := Own.kept O24 h28
      replace O26 : OwnI w28 w25.heap.size x26 hs := Own.kept O26 h28
      refine flExC_mk (Xg a26.block) (fun _ _ _ => True) (fun D w' => (D 24 = false → OwnI w' w25.heap.size x26 hs) ∧ (D 24 = true → OwnI w' w25.heap.size x26 (hs.set v (min hx p.bound)))) (fun _ _ _ _ => True)
        (fun w => grown_refl w _) (fun _ _ _ a b => grown_trans a b) (fun _ _ _ _ _ _ _ _ _ _ => trivial) ⟨fun _ => O26, fun q => by cases q⟩ ?_
      have nX : y3.block ≠ a26.block := by omega
      have rdV : ∀ {L : List Nat} {K : Int → Prop} {E : Rel}, (∀ w', E w28 w' → Xg a26.block w28 w') → K p.var → rdE Try.prog (ER (fun D w' => (D 24 = false → OwnI w' w25.heap.size x26 hs) ∧ (D 24 = true → OwnI w' w25.heap.size x26 (hs.set v (min hx p.bound)))) L E) (Instr.loadAt 3 (.pointer (some (y3.add 2)))) (.one (.int .i64)) w28 K :=
        fun hE hk => rdE_box (by kernel_rfl) (fun w' q => X.xg (hE w' q.1) nX) (i := 2) rfl rfl hk
      have rdB : ∀ {L : List Nat} {K : Int → Prop} {E : Rel}, (∀ w', E w28 w' → Xg a26.block w28 w') → K p.bound → rdE Try.prog (ER (fun D w' => (D 24 = false → OwnI w' w25.heap.size x26 hs) ∧ (D 24 = true → OwnI w' w25.heap.size x26 (hs.set v (min hx p.bound)))) L E) (Instr.loadAt 2 (.pointer (some (y3.add 3)))) (.one (.int .i64)) w28 K :=
        fun hE hk => rdE_box (by kernel_rfl) (fun w' q => X.xg (hE w' q.1) nX) (i := 3) rfl rfl hk
      refine rdV (fun _ q => q) ?_
      refine rdV (fun _ q => q) ?_
      refine rdV (fun _ q => q) ?_
      refine idx1 tyI64 hv (by omega) ha26 ?_
      refine rdE_elem (n := x26.2.1) (c := x26.2.2) (by kernel_rfl) (fun w' q => ?_) hhx ?_
      · obtain ⟨_, D, q2, q3⟩ := q
        have := (q3.1 (q2 24 (by simp))).sl
        rwa [ha26] at this
      refine rdB (fun _ q => q) ?_
      refine z_eq (show (if p.bound < hx then p.bound else hx) = min hx p.bound by split <;> omega) ?_
      refine rdV (fun _ q => q) ?_
      refine idx1 tyI64 hv (by omega) ha24 ?_
      refine rdE_elem (n := x24.2.1) (c := x24.2.2) (by kernel_rfl) (fun w' q => ?_) hlx ?_
      · have := (O24.sl).xg q.1 (fun ad ha _ => by rw [ha24] at ha; cases ha; omega)
        rwa [ha24] at this
      refine rdB (fun _ q => q) ?_
      refine z_i64 (by omega) ?_
      refine z_eq (show (if p.bound + 1 > lx then p.bound + 1 else lx) = max lx (p.bound + 1) by split <;> omega) ?_
      refine idx1 tyI64 hv (by omega) ha26 ?_
      refine flcC_mk (fun D w47 hD hE hS _ => ?_) (fun _ => ?_)
      · have O := hS.1 hD
        unfold OwnI at O
        rw [ha26] at O
        refine wu_own (by kernel_rfl) O (show v < x26.2.1 by omega) rfl fun w50 O' hg _ => ?_
        rw [ints_set] at O'
        refine ⟨hg, trivial, ⟨(fun q => by rw [setD_self] at q; cases q), fun _ => ?_⟩, trivial⟩
        show Own w50 _ _ 1 x26.1 x26.2.1 x26.2.2 _
        rw [ha26]; exact O'
      refine flendC_mk fun w52 hE hS _ => ?_
      replace O26 : OwnI w52 w25.heap.size x26 (hs.set v (min hx p.bound)) := hS.2 rfl
      replace O24 : OwnI w52 w4.heap.size x24 ls := Own.putNew O24 hE (fun k hk => by rw [bk24] at hk; cases hk; omega)
      replace X := X.xg hE nX
      replace X1 := X1.xg hE (by omega)
      refine set_mk tyI64 O24 hv (show v < x24.2.1 by omega) rfl fun w55 O24 hg55 _ => ?_
      rw [ints_set] at O24
      rw [bk24] at hg55
      replace O26 : OwnI w55 w25.heap.size x26 (hs.set v (min hx p.bound)) := Own.putNew O26 hg55 (fun k hk => by rw [bk26] at hk; cases hk; omega)
      replace X := X.xg hg55 (by omega)
      replace X1 := X1.xg hg55 (by omega)
      have b55 : bel w4 w55 := (h8.grownAt hE (by omega)).grownAt hg55 (by omega)
      refine drw_mk fun w56 h56 _ => ?_
      have b56 := b55.trans h56
      have hP0 := ((hK 0 c0 a0 hc0 ha0).up h).up b56
      have hP1 := ((hK 1 c1 a1 hc1 ha1).up h).up b56
      refine flEx_mk (fun i _ vv _ => i = 7 → ∃ c, vv = .bool c ∧ (c = true ↔ rightP up T rt n a0 ls (hs.set v (min hx p.bound)))) (fun _ _ _ _ _ h _ => h) ?_
      refine rd_boxN (X1.up h56) (by kernel_rfl) rfl ?_
      refine rd_box (by kernel_rfl) (X.up h56) (i := 4) rfl rfl ?_
      refine at_agg tyPrs agPr prc_len (by omega) (S5.up b56) rfl hc0 rfl ?_
      refine flc_mk (fun w59 hb _ => call_mono (ih a0 c0 lo x26 ls _ w59 (hP0.up hb) (H.up (b56.trans hb)) (HLo.up (b56.trans hb)) ((Own.sl O26).up (h56.trans hb)) hll (by simp [hhl])) fun y w' ⟨hy, hb'⟩ => ⟨hb', fun _ => ⟨y, rfl, hy⟩⟩) (fun x63 => ?_)
      refine br_mk (fun e5 => ?_) (fun e5 => ?_)
      · refine rd_boxN (X1.up h56) (by kernel_rfl) rfl ?_
        refine rd_box (by kernel_rfl) (X.up h56) (i := 4) rfl rfl ?_
        refine at_agg tyPrs agPr prc_len (by omega) (S5.up b56) rfl hc1 rfl ?_
        refine flend_mk fun w68 hb hf => ?_
        obtain ⟨y, hy, hy2⟩ := hf.1 rfl
        injection hy with hy
        subst hy
        refine call_mono (ih a1 c1 x24 hi _ hs w68 (hP1.up hb) (H.up (b56.trans hb)) ((Own.sl O24).up (h56.trans hb)) (HHi.up (b56.trans hb)) (by simp [hll]) hhl) ?_
        rintro x70 w71 ⟨hx70, h71⟩
        refine ⟨x70, rfl, hx70.trans ?_, (h.trans (b56.trans hb)).trans h71⟩
        rw [r3]
        refine ⟨fun q => ⟨by omega, by omega, ⟨by omega, by omega⟩, ⟨by omega, by omega⟩, fun a ha => ?_, fun a ha => ?_⟩, fun q => q.2.2.2.2.2 a1 ha1⟩
        · rw [ha0] at ha; cases ha; exact hy2.1 e5
        · rw [ha1] at ha; cases ha; exact q
      · refine flend_mk fun w72 hb hf => ?_
        obtain ⟨y, hy, hy2⟩ := hf.1 rfl
        injection hy with hy
        subst hy
        refine no (h.trans (b56.trans hb)) fun q => ?_
        have := hy2.2 ((r3.1 q).2.2.2.2.1 a0 ha0)
        rw [e5] at this; cases this

set_option maxHeartbeats 3200000 in
theorem right12 (u r b : Hdr) (up : List Int) (T : List (List Int)) (rt : List Int) (hup : up.length ≤ 1000000) : ∀ (n : Nat) (p : PT n) (x : CPr) (lo hi : Hdr) (ls hs : List Int) (w : World), PrAt w n p x → Sys w u r b up T rt →
    Sl w lo.1 lo.2.1 lo.2.2 1 (ints .i64 ls) → Sl w hi.1 hi.2.1 hi.2.2 1 (ints .i64 hs) → ls.length = up.length → hs.length = up.length →
    call Try.prog 99 [sysv u r b, prv x, .slice lo.1 lo.2.1 lo.2.2, .slice hi.1 hi.2.1 hi.2.2] (.one (.one .bool)) w (fun y w' => (y = true ↔ rightP up T rt n p ls hs) ∧ bel w w') := by
  intro n
  induction n with
  | zero => intro p; exact p.elim
  | succ n ih =>
    intro (p : PN (PT n)) x lo hi ls hs w hP H HLo HHi hll hhl
    obtain ⟨⟨e1, b1⟩, ⟨S2, bM⟩, ⟨e3, b3⟩, ⟨e4, b4⟩, h6, xs, S5, hxl, hK⟩ := id hP
    obtain ⟨k0, m0, v0, b0, ks, _⟩ := x
    dsimp only at e1 e3 e4 S2 S5 hK
    subst e1 e3 e4
    have hxn : xs.length = ks.2.1 := by have := S5.len; rw [flat_len prc_len] at this; omega
    have hml := fr_len S2
    have hul := H.u.int
    have hlo := HLo.int
    have hhi := HHi.int
    refine call_of (S99_calls u.1 u.2.1 u.2.2 r.1 r.2.1 r.2.2 b.1 b.2.1 b.2.2 p.kind m0.1 m0.2.1 m0.2.2 p.var p.bound ks.1 ks.2.1 ks.2.2 lo.1 lo.2.1 lo.2.2 hi.1 hi.2.1 hi.2.2 w _ ?_)
    unfold S99
    refine wr_box fun y1 w2 X1 h2 _ _ => ?_
    refine wr_box fun y3 w4 X h4 _ _ => ?_
    replace X1 : Box w4 y1 (sysc u r b) := X1.up h4
    replace X : Box w4 y3 (prc (p.kind, m0, p.var, p.bound, ks, ())) := X
    have h := h2.trans h4
    replace S2 := S2.up h; replace S5 := S5.up h; replace H := H.up h; replace HLo := HLo.up h; replace HHi := HHi.up h
    have lX := X.lt
    have lX1 := X1.lt
    have no : ∀ {w' : World}, bel w w' → ¬ rightP up T rt (n + 1) p ls hs → ∃ v : Bool, Value.bool false = (RS.one (.one .bool)).val v ∧ (v = true ↔ rightP up T rt (n + 1) p ls hs) ∧ bel w w' := fun hb q => ⟨false, rfl, iff_no q, hb⟩
    refine rd_box0 (by kernel_rfl) X rfl rfl ?_
    refine br_eq (fun hk => ?_) (fun hk1 => br_eq (fun hk => ?_) (fun hk2 => br_eq (fun hk => ?_) (fun hk3 => no h (right_no hk3 fun q => (q.elim hk1 hk2).elim))))
    · refine rd_box (by kernel_rfl) X (i := 4) rfl rfl ?_
      refine br_eq (fun ek => ?_) (fun ek => no h (right_no (by dsimp only at hk; omega) fun _ z => ?_))
      · refine rd_box (by kernel_rfl) X (i := 2) rfl rfl ?_
        refine br_eq (fun ev => ?_) (fun ev => no h (right_no (by dsimp only at hk; omega) fun _ z => ev z.1))
        refine rd_box (by kernel_rfl) X (i := 3) rfl rfl ?_
        refine br_eq (fun eb => ?_) (fun eb => no h (right_no (by dsimp only at hk; omega) fun _ z => eb z.2.1))
        refine rd_boxN X1 (by kernel_rfl) rfl ?_
        refine rd_box (by kernel_rfl) X (i := 1) rfl rfl ?_
        dsimp only at ek ev eb
        refine call_mono (bnd11 u r b lo hi m0 up T rt ls hs p.mul w4 H S2 bM HLo HHi) ?_
        rintro x11 w12 ⟨hx, h12⟩
        exact ⟨x11, rfl, hx.trans (right_1 hk ⟨ev, eb, by omega⟩).symm, h.trans h12⟩
      · dsimp only at ek; omega
    · refine rd_box (by kernel_rfl) X (i := 4) rfl rfl ?_
      refine br_eq (fun ek => ?_) (fun ek => no h (right_no (by dsimp only at hk; omega) fun _ z => ?_))
      · refine rd_box (by kernel_rfl) X (i := 2) rfl rfl ?_
        refine br_eq (fun ev => ?_) (fun ev => no h (right_no (by dsimp only at hk; omega) fun _ z => ev z.1))
        refine rd_box (by kernel_rfl) X (i := 3) rfl rfl ?_
        refine br_eq (fun eb => ?_) (fun eb => no h (right_no (by dsimp only at hk; omega) fun _ z => eb z.2.1))
        refine rd_boxN X1 (by kernel_rfl) rfl ?_
        refine rd_box (by kernel_rfl) X (i := 1) rfl rfl ?_
        dsimp only at ek ev eb
        refine call_mono (lat11 u r b m0 up T rt p.mul w4 H S2 bM) ?_
        rintro x11 w12 ⟨hx, h12⟩
        exact ⟨x11, rfl, hx.trans (right_2 hk ⟨ev, eb, by omega⟩).symm, h.trans h12⟩
      · dsimp only at ek; omega
    · dsimp only at hk
      refine rd_box (by kernel_rfl) X (i := 4) rfl rfl ?_
      refine br_ne (fun e => no h fun q => ?_) (fun e2 => ?_)
      · have := ((right_3 hk).1 q).1; dsimp only at e; omega
      dsimp only at e2
      refine rd_box (by kernel_rfl) X (i := 1) rfl rfl ?_
      refine br_dec (fun e => no h fun q => ?_) (fun em => ?_)
      · have := ((right_3 hk).1 q).2.1; dsimp only at e; omega
      dsimp only at em
      refine rd_box (by kernel_rfl) X (i := 2) rfl rfl ?_
      refine br_dec (fun e => no h fun q => ?_) (fun ev0 => ?_)
      · have := ((right_3 hk).1 q).2.2.1; dsimp only at e; omega
      refine rd_box (by kernel_rfl) X (i := 2) rfl rfl ?_
      refine rd_box0 (by kernel_rfl) X1 rfl rfl ?_
      refine br_dec (fun e => no h fun q => ?_) (fun ev1 => ?_)
      · have := ((right_3 hk).1 q).2.2.1; dsimp only at e; omega
      refine rd_box (by kernel_rfl) X (i := 3) rfl rfl ?_
      refine br_dec (fun e => no h fun q => ?_) (fun eb0 => ?_)
      · have := ((right_3 hk).1 q).2.2.2.1; dsimp only at e; omega
      refine rd_box (by kernel_rfl) X (i := 3) rfl rfl ?_
      refine br_dec (fun e => no h fun q => ?_) (fun eb1 => ?_)
      · have := ((right_3 hk).1 q).2.2.2.1; dsimp only at e; omega
      dsimp only at ev0 ev1 eb0 eb1
      obtain ⟨v, hv⟩ : ∃ v : Nat, p.var = (v : Int) := ⟨p.var.toNat, by omega⟩
      have hvt : p.var.toNat = v := by omega
      have hvl : v < up.length := by omega
      obtain ⟨hx, hhx⟩ : ∃ y, hs[v]? = some y := ⟨_, List.getElem?_eq_getElem (by omega)⟩
      obtain ⟨lx, hlx⟩ : ∃ y, ls[v]? = some y := ⟨_, List.getElem?_eq_getElem (by omega)⟩
      have r3 := right_3 (up := up) (T := T) (rt := rt) (lo := ls) (hi := hs) hk
      have gh : hs.getD v 0 = hx := by rw [List.getD_eq_getElem?_getD, hhx]; rfl
      have gl : ls.getD v 0 = lx := by rw [List.getD_eq_getElem?_getD, hlx]; rfl
      rw [hvt, gh, gl] at r3
      obtain ⟨a0, ha0⟩ : ∃ y, p.kids[0]? = some y := ⟨_, List.getElem?_eq_getElem (by omega)⟩
      obtain ⟨a1, ha1⟩ : ∃ y, p.kids[1]? = some y := ⟨_, List.getElem?_eq_getElem (by omega)⟩
      obtain ⟨c0, hc0⟩ : ∃ y, xs[0]? = some y := ⟨_, List.getElem?_eq_getElem (by omega)⟩
      obtain ⟨c1, hc1⟩ : ∃ y, xs[1]? = some y := ⟨_, List.getElem?_eq_getElem (by omega)⟩
      refine call_mono (copiedF lo ls w4 HLo (by omega)) ?_
      rintro (x24 : Hdr) w25 ⟨O24, h25⟩
      refine call_mono (copiedF hi hs w25 (HHi.up h25) (by omega)) ?_
      rintro (x26 : Hdr) w27 ⟨O26, h27⟩
      have n24 := O24.len
      have n26 := O26.len
      obtain ⟨a26, ha26⟩ := own_some O26 (j := v) (by omega)
      obtain ⟨a24, ha24⟩ := own_some O24 (j := v) (by omega)
      have l24 := O24.lt a24.block (by rw [ha24]; rfl)
      have l26 := O26.lt a26.block (by rw [ha26]; rfl)
      replace O24 : OwnI w27 w4.heap.size x24 ls := Own.kept O24 h27
      have s25 := h25.size
      have s27 := h27.size
      have bk26 : blk x26.1 = some a26.block := by rw [ha26]; rfl
      have bk24 : blk x24.1 = some a24.block := by rw [ha24]; rfl
      have h7 := h25.trans h27
      replace X := X.up h7; replace X1 := X1.up h7
      refine drw_mk fun w28 h28 _ => ?_
      replace X := X.up h28; replace X1 := X1.up h28
      have h8 := h7.trans h28
      have s28 := h28.size
      replace O24 : OwnI w28 w4.heap.size x24 ls := Own.kept O24 h28
      replace O26 : OwnI w28 w25.heap.size x26 hs := Own.kept O26 h28
      refine rd_box (by kernel_rfl) X (i := 2) rfl rfl ?_
      refine rd_box (by kernel_rfl) X (i := 2) rfl rfl ?_
      refine at_int tyI64 (by kernel_rfl) O26.sl hv (by omega) fun y hy => ?_
      rw [hhx] at hy; cases hy
      refine rd_box (by kernel_rfl) X (i := 3) rfl rfl ?_
      refine z_eq (show (if p.bound < hx then p.bound else hx) = min hx p.bound by split <;> omega) ?_
      refine set_mk tyI64 O26 hv (show v < x26.2.1 by omega) rfl fun w52 O26 hE _ => ?_
      rw [ints_set] at O26
      rw [bk26] at hE
      replace O24 : OwnI w52 w4.heap.size x24 ls := Own.putNew O24 hE (fun k hk => by rw [bk24] at hk; cases hk; omega)
      have nX : y3.block ≠ a26.block := by omega
      replace X := X.xg hE nX
      replace X1 := X1.xg hE (by omega)
      refine drw_mk fun w53 h53 _ => ?_
      replace X := X.up h53; replace X1 := X1.up h53
      replace O24 : OwnI w53 w4.heap.size x24 ls := Own.kept O24 h53
      replace O26 : OwnI w53 w25.heap.size x26 (hs.set v (min hx p.bound)) := Own.kept O26 h53
      refine rd_box (by kernel_rfl) X (i := 2) rfl rfl ?_
      refine rd_box (by kernel_rfl) X (i := 2) rfl rfl ?_
      refine at_int tyI64 (by kernel_rfl) O24.sl hv (by omega) fun y hy => ?_
      rw [hlx] at hy; cases hy
      refine rd_box (by kernel_rfl) X (i := 3) rfl rfl ?_
      refine z_i64 (by dsimp only; omega) ?_
      refine z_eq (show (if p.bound + 1 > lx then p.bound + 1 else lx) = max lx (p.bound + 1) by split <;> omega) ?_
      refine set_mk tyI64 O24 hv (show v < x24.2.1 by omega) rfl fun w55 O24 hg55 _ => ?_
      rw [ints_set] at O24
      rw [bk24] at hg55
      replace O26 : OwnI w55 w25.heap.size x26 (hs.set v (min hx p.bound)) := Own.putNew O26 hg55 (fun k hk => by rw [bk26] at hk; cases hk; omega)
      replace X := X.xg hg55 (by omega)
      replace X1 := X1.xg hg55 (by omega)
      have b55 : bel w4 w55 := ((h8.grownAt hE (by omega)).trans h53).grownAt hg55 (by omega)
      refine drw_mk fun w56 h56 _ => ?_
      have b56 := b55.trans h56
      have hP0 := ((hK 0 c0 a0 hc0 ha0).up h).up b56
      have hP1 := ((hK 1 c1 a1 hc1 ha1).up h).up b56
      refine flEx_mk (fun i _ vv _ => i = 7 → ∃ c, vv = .bool c ∧ (c = true ↔ rightP up T rt n a0 ls (hs.set v (min hx p.bound)))) (fun _ _ _ _ _ h _ => h) ?_
      refine rd_boxN (X1.up h56) (by kernel_rfl) rfl ?_
      refine rd_box (by kernel_rfl) (X.up h56) (i := 4) rfl rfl ?_
      refine at_agg tyPrs agPr prc_len (by omega) (S5.up b56) rfl hc0 rfl ?_
      refine flc_mk (fun w59 hb _ => call_mono (ih a0 c0 lo x26 ls _ w59 (hP0.up hb) (H.up (b56.trans hb)) (HLo.up (b56.trans hb)) ((Own.sl O26).up (h56.trans hb)) hll (by simp [hhl])) fun y w' ⟨hy, hb'⟩ => ⟨hb', fun _ => ⟨y, rfl, hy⟩⟩) (fun x63 => ?_)
      refine br_mk (fun e5 => ?_) (fun e5 => ?_)
      · refine rd_boxN (X1.up h56) (by kernel_rfl) rfl ?_
        refine rd_box (by kernel_rfl) (X.up h56) (i := 4) rfl rfl ?_
        refine at_agg tyPrs agPr prc_len (by omega) (S5.up b56) rfl hc1 rfl ?_
        refine flend_mk fun w68 hb hf => ?_
        obtain ⟨y, hy, hy2⟩ := hf.1 rfl
        injection hy with hy
        subst hy
        refine call_mono (ih a1 c1 x24 hi _ hs w68 (hP1.up hb) (H.up (b56.trans hb)) ((Own.sl O24).up (h56.trans hb)) (HHi.up (b56.trans hb)) (by simp [hll]) hhl) ?_
        rintro x70 w71 ⟨hx70, h71⟩
        refine ⟨x70, rfl, hx70.trans ?_, (h.trans (b56.trans hb)).trans h71⟩
        rw [r3]
        refine ⟨fun q => ⟨by omega, by omega, ⟨by omega, by omega⟩, ⟨by omega, by omega⟩, fun a ha => ?_, fun a ha => ?_⟩, fun q => q.2.2.2.2.2 a1 ha1⟩
        · rw [ha0] at ha; cases ha; exact hy2.1 e5
        · rw [ha1] at ha; cases ha; exact q
      · refine flend_mk fun w72 hb hf => ?_
        obtain ⟨y, hy, hy2⟩ := hf.1 rfl
        injection hy with hy
        subst hy
        refine no (h.trans (b56.trans hb)) fun q => ?_
        have := hy2.2 ((r3.1 q).2.2.2.2.1 a0 ha0)
        rw [e5] at this; cases this
end Go.Proofs.Ytajpdnphamomjaa
