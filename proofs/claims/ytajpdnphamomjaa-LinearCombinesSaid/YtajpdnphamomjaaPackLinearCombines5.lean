import Derived.KernelRfl
import Derived.Test.YtajpdnphamomjaaPackLinearCombines4

/- Combinations of rows: the reference. -/

namespace Go.Proofs.Ytajpdnphamomjaa
open Go.RowKit Go.Q Go.Q.Num Go.V

theorem tyBigs : TyS Try.prog 112 90 (.agg #[.bool false, .slice none 0 0, .slice none 0 0]) 3 56 := ⟨by kernel_rfl, by kernel_rfl⟩
theorem agBig : aggOf Try.prog 90 3 = true := by kernel_rfl
theorem boxc_len (t : TE) : (boxc t).length = 3 := rfl
/-- digits that lie in no block of a kind -/
abbrev OffQ (o : Option Nat) (t : TE) (r : Rat) : Prop := (∀ ad, t.2.1.1 = some ad → r.num.natAbs ≠ 0 → some ad.block ≠ o) ∧ (∀ ad, t.2.2.1.1 = some ad → r.den ≠ 0 → some ad.block ≠ o)
theorem BX.grownO {L : Nat} {w w' : World} {t : TE} {r : Rat} {o : Option Nat} (h : BX L w t r) (ha : OffQ o t r) (hg : w.grownBy w' o) : BX L w' t r :=
  ⟨h.1, NumAt.grown h.2.1 hg fun a q hv _ => ha.1 a q hv, NumAt.grown h.2.2.1 hg fun a q hv _ => ha.2 a q hv, h.2.2.2⟩
abbrev FrT (w : World) (t : TE) : Prop := Fr w t.2.1.1 ∧ Fr w t.2.2.1.1
theorem FrT.mono {w w' : World} {t : TE} (h : FrT w' t) (hb : w.heap.size ≤ w'.heap.size) : FrT w t := ⟨Fr.mono h.1 hb, Fr.mono h.2 hb⟩
theorem FrT.off {w : World} {t : TE} (h : FrT w t) {o : Option Nat} (ho : ∀ k, o = some k → k < w.heap.size) (r : Rat) : OffQ o t r :=
  ⟨fun ad ha _ e => by have := h.1 ad ha; have := ho _ e.symm; omega, fun ad ha _ e => by have := h.2 ad ha; have := ho _ e.symm; omega⟩
theorem BX.offNew {L : Nat} {w : World} {t : TE} {r : Rat} (h : BX L w t r) {o : Option Nat} (ho : ∀ k, o = some k → w.heap.size ≤ k) : OffQ o t r :=
  ⟨fun ad ha hv e => by have := NumAt.lt_heap h.2.1 hv ad ha; have := ho _ e.symm; omega, fun ad ha hv e => by have := NumAt.lt_heap h.2.2.1 hv ad ha; have := ho _ e.symm; omega⟩

def preE (up : List Int) (T : List (List Int)) (rt : List Int) (M : List (Int × Int)) : Int :=
  if sysE up T rt ≠ 0 then sysE up T rt else if M.length ≠ T.length then 9 else if ∀ p ∈ M, IsFrac p.1 p.2 then 0 else 1
section
variable {up : List Int} {T : List (List Int)} {rt : List Int} {M : List (Int × Int)}
theorem preE_1 (h : sysE up T rt ≠ 0) : preE up T rt M = sysE up T rt := by unfold preE; rw [if_pos h]
theorem preE_2 (h : sysE up T rt = 0) (h2 : M.length ≠ T.length) : preE up T rt M = 9 := by unfold preE; rw [if_neg (by omega), if_pos h2]
theorem preE_3 (h : sysE up T rt = 0) (h2 : M.length = T.length) (h3 : ¬ ∀ p ∈ M, IsFrac p.1 p.2) : preE up T rt M = 1 := by unfold preE; rw [if_neg (by omega), if_neg (by omega), if_neg h3]
theorem preE_0 (h : sysE up T rt = 0) (h2 : M.length = T.length) (h3 : ∀ p ∈ M, IsFrac p.1 p.2) : preE up T rt M = 0 := by unfold preE; rw [if_neg (by omega), if_neg (by omega), if_pos h3]
theorem preE_ok (h : preE up T rt M = 0) : sysE up T rt = 0 ∧ M.length = T.length ∧ (∀ p ∈ M, IsFrac p.1 p.2) := by
  by_cases h1 : sysE up T rt = 0
  · by_cases h2 : M.length = T.length
    · by_cases h3 : ∀ p ∈ M, IsFrac p.1 p.2
      · exact ⟨h1, h2, h3⟩
      · rw [preE_3 h1 h2 h3] at h; omega
    · rw [preE_2 h1 h2] at h; omega
  · rw [preE_1 h1] at h; exact absurd h h1
theorem combE_pre (h : preE up T rt M ≠ 0) : combE up T rt M = preE up T rt M := by
  by_cases h1 : sysE up T rt = 0
  · by_cases h2 : M.length = T.length
    · by_cases h3 : ∀ p ∈ M, IsFrac p.1 p.2
      · exact absurd (preE_0 h1 h2 h3) h
      · rw [preE_3 h1 h2 h3, combE_3 h1 h2 h3]
    · rw [preE_2 h1 h2, combE_2 h1 h2]
  · rw [preE_1 h1, combE_1 h1]
end
abbrev BT := Hdr × TE × Int × Unit
abbrev rBT : RS := .many [.one .slice, sBig, .one (.int .i64)]
def BigR (up : List Int) (T : List (List Int)) (rt : List Int) (M : List (Int × Int)) (x : BT) (w : World) : Prop :=
  x.2.2.1 = preE up T rt M ∧ (preE up T rt M = 0 → (∃ ts : List TE, Sl w x.1.1 x.1.2.1 x.1.2.2 3 (ts.flatMap boxc) ∧ ts.length = up.length ∧ ∀ (k : Nat) t, ts[k]? = some t → BX 1000 w t (colQ T M k)) ∧ BX 1000 w x.2.1 (rhsQ T rt M))

set_option maxHeartbeats 3200000 in
theorem comb11 (u r b m : Hdr) (up : List Int) (T : List (List Int)) (rt : List Int) (M : List (Int × Int)) (w : World) (H : Sys w u r b up T rt) (HM : Sl w m.1 m.2.1 m.2.2 2 (M.flatMap encF)) (hI : ∀ p ∈ M, I64 p.1 ∧ I64 p.2) :
    call Try.prog 90 [sysv u r b, .slice m.1 m.2.1 m.2.2] rBT w (fun x w' => BigR up T rt M x w' ∧ bel w w') := by
  refine call_of (S90_calls u.1 u.2.1 u.2.2 r.1 r.2.1 r.2.2 b.1 b.2.1 b.2.2 m.1 m.2.1 m.2.2 w _ ?_)
  unfold S90
  have hu := H.u.int
  have hT := H.r.len
  have hb := H.b.int
  have hm := fr_len HM
  have km := HM.le
  refine wr_box fun x1 w2 X h _ _ => ?_
  replace X : Box w2 x1 (sysc u r b) := X
  replace H := H.up h; replace HM := HM.up h
  refine wr_alloc (z := .agg #[.bool false, .slice none 0 0, .slice none 0 0]) (by kernel_rfl) fun x3 w4 Z h' hz _ => ?_
  have hne : w.heap.size ≤ x3.block := by rw [hz]; exact h.size
  replace h := h.trans h'; replace X := X.up h'; replace H := H.up h'; replace HM := HM.up h'; clear h'
  have bad : ∀ {w' : World} {e : Int} {cs : List Value}, cs.length = 3 → bel w w' → Box w' x3 cs → preE up T rt M = e → e ≠ 0 →
      wu Try.prog (Instr.storeAt 90 (.pointer (some x3)) (.agg #[.bool false, .slice none 0 0, .slice none 0 0])) w' fun w10 => rd Try.prog (loadVar 90 x3) (.agg [.bool, .slice, .slice]) w10 fun (x11 : TE) =>
        ∃ x : BT, Value.tuple #[.slice none 0 0, .agg #[.bool x11.1, .slice x11.2.1.1 x11.2.1.2.1 x11.2.1.2.2, .slice x11.2.2.1.1 x11.2.2.1.2.1 x11.2.2.1.2.2], .int .i64 e] = rBT.val x ∧ BigR up T rt M x w10 ∧ bel w w10 := by
    intro w' e cs hl h Z he h0
    refine wu_box Z (by kernel_rfl) (by rw [hl]; exact Nat.le_refl 3) rfl fun w5 Z' hg _ => ?_
    have Z2 : Box w5 x3 [.bool false, .slice none 0 0, .slice none 0 0] := by
      match cs, hl with
      | [_, _, _], _ => exact Z'
    exact rd_boxV Z2 (by kernel_rfl) rfl ⟨(((none, 0, 0), (false, (none, 0, 0), (none, 0, 0), ()), e, ()) : BT), rfl, ⟨he.symm, fun q => absurd (he.symm.trans q) h0⟩, h.grownAt hg hne⟩
  refine rd_boxN X (by kernel_rfl) rfl ?_
  refine call_mono (valid11 u r b up T rt w4 H) ?_
  rintro x6 w7 ⟨rfl, h'⟩
  replace h := h.trans h'; replace X := X.up h'; replace H := H.up h'; replace HM := HM.up h'; replace Z := Z.up h'; clear h'
  refine br_ne (fun e0 => bad rfl h Z (preE_1 e0) e0) (fun e0 => ?_)
  obtain ⟨v1, v2, v3, v4⟩ := sysE_ok e0
  refine rd_box (by kernel_rfl) X (i := 1) rfl rfl ?_
  refine br_ne (fun e1 => bad rfl h Z (preE_2 e0 (by dsimp only at e1; omega)) (by omega)) (fun e1 => ?_)
  dsimp only at e1
  have hML : M.length = T.length := by omega
  refine loop_up m.2.1 (fun i w' => bel w7 w' ∧ ∀ j, j < i → ∀ p, M[j]? = some p → IsFrac p.1 p.2) ⟨bel.refl _, pre_zero⟩ fun i w15 hi ⟨hw, hq⟩ again hag _ => ?_
  refine br_dec (fun e => ?_) (fun e => ?_)
  · dsimp only at e
    obtain ⟨p, hp⟩ : ∃ p, M[i]? = some p := ⟨_, List.getElem?_eq_getElem (by omega)⟩
    have hpi := hI p (mem_at hp)
    refine at_frac (HM.up hw) rfl hp ?_
    refine call_mono (callB (valid10 p.1 p.2 w15 hpi.1.1 hpi.1.2 hpi.2.1 hpi.2.2)) ?_
    rintro _ w19 ⟨rfl, h'⟩
    replace hw := hw.trans h'
    refine br_not (fun ev => bad rfl (h.trans hw) (Z.up hw) (preE_3 e0 hML fun q => ?_) (by omega)) (fun ev => ?_)
    · rw [decide_eq_true (q p (mem_at hp))] at ev; cases ev
    refine z_i64 (by dsimp only; omega) ?_
    exact hag _ (by omega) ⟨hw, pre_step hq hp (of_decide_eq_true ev)⟩
  dsimp only at e
  have hF := pre_all hq (by omega)
  clear hq hag again
  replace h := h.trans hw; replace X := X.up hw; replace H := H.up hw; replace HM := HM.up hw; replace Z := Z.up hw; clear hw hi e
  have Z0 := Z.lt
  -- a step of a sum
  have term : ∀ (x : Addr) (col : List Int) (k : Nat) (p : Int × Int) (c : Int) (t : TE) (w65 w5 : World), M[k]? = some p → col[k]? = some c → I64 c → k < 200 → bel w15 w65 → bel w5 w65 → w5.heap.size ≤ x.block → Box w65 x (boxc t) → BX (3 + 9 * k) w65 t (dotN col M k) →
      ∀ (x74 x84 x89 : TE) (w90 : World), bel w65 w90 → BX 7 w90 x89 (ratv p.1 p.2 * (c : Rat)) → ∀ K : World → Prop, (∀ (y : TE) w94, bel w5 w94 → Box w94 x (boxc y) → BX (3 + 9 * (k + 1)) w94 y (dotN col M (k + 1)) → ApT x y (dotN col M (k + 1)) → FrT w65 y → K w94) →
      call Try.prog 62 [exV t, exV x89] (.one sBig) w90 fun (x92 : TE) w93 => wu Try.prog (Instr.storeAt 90 (.pointer (some x)) (exV x92)) w93 fun w94 => K w94 := by
    intro x col k p c t w65 w5 hp hc hci hk hw3 hw5 hnx Y hB _ _ x89 w90 hb B1 K hK
    refine call_mono (plusX t x89 _ _ (3 + 9 * k) 7 w90 (hB.up hb) B1 (by omega) (by omega)) ?_
    rintro (y : TE) w93 ⟨hy, f1, f2, h4'⟩
    have A' : ApT x y (dotN col M (k + 1)) := ApT.fr (Y.up hb) f1 f2
    have e : dotN col M (k + 1) = dotN col M k + ratv p.1 p.2 * (c : Rat) := by
      show dotN col M k + dotT col M k = _
      rw [dotT_at hc hp]
    rw [← e] at hy
    refine wu_box ((Y.up hb).up h4') (by kernel_rfl) (Nat.le_refl 3) rfl fun w94 Y' hg _ => ?_
    exact hK y w94 (((hw5.trans hb).trans h4').grownAt hg hnx) Y' ((hy.grown A' hg).le (by omega)) A' (FrT.mono ⟨f1, f2⟩ hb.size)
  refine loop_upA u.2.1 (fun i (a : Hdr) w' => bel w15 w' ∧ a.2.1 = i ∧ ∃ ts : List TE, Own w' w15.heap.size 90 3 a.1 i a.2.2 (ts.flatMap boxc) ∧ ts.length = i ∧ ∀ (k : Nat) t, ts[k]? = some t → BX 1000 w' t (colQ T M k) ∧ FrT w15 t ∧ OffQ (blk a.1) t (colQ T M k)) ⟨bel.refl _, rfl, [], Own.nil _ _ _ _, rfl, fun k t h => by simp at h⟩ fun i a w25 hi ⟨hw, ha, ts, O, hts, hE⟩ again hag _ => ?_
  refine rd_box0 (by kernel_rfl) (X.up hw) rfl rfl ?_
  refine br_dec (fun e => ?_) (fun e => ?_)
  · dsimp only at e
    refine call_mono (wholeX 0 w25 ⟨by omega, by omega⟩) ?_
    rintro (t0 : TE) w28 ⟨hB0, f1, f2, h'⟩
    refine var_mk (z := .agg #[.bool false, .slice none 0 0, .slice none 0 0]) (by kernel_rfl) (by kernel_rfl) rfl rfl fun x29 w31 Y h2' hy => ?_
    replace Y : Box w31 x29 (boxc t0) := Y
    have A0 : ApT x29 t0 (0 : Rat) := ApT.old hB0 (by omega)
    have hn : w25.heap.size ≤ x29.block := by have := h'.size; omega
    refine loop_up m.2.1 (fun k w' => bel w25 w' ∧ ∃ t, Box w' x29 (boxc t) ∧ BX (3 + 9 * k) w' t (dotN (colI T i) M k) ∧ ApT x29 t (dotN (colI T i) M k) ∧ FrT w25 t) ⟨h'.trans h2', t0, Y, hB0.up h2', A0, f1, f2⟩ fun k w34 hk ⟨hw2, t, Y, hB, hA, hFt⟩ again' hag' _ => ?_
    refine br_dec (fun e2 => ?_) (fun e2 => ?_)
    · dsimp only at e2
      obtain ⟨p, hp⟩ : ∃ p, M[k]? = some p := ⟨_, List.getElem?_eq_getElem (by omega)⟩
      obtain ⟨row, hrow⟩ : ∃ row, T[k]? = some row := ⟨_, List.getElem?_eq_getElem (by omega)⟩
      have hrl := v4.2 row (mem_at hrow)
      obtain ⟨c, hc⟩ : ∃ c, row[i]? = some c := ⟨_, List.getElem?_eq_getElem (by omega)⟩
      have hcol := colI_get hrow hc
      have hF1 := hF p (mem_at hp)
      have hc2 := v3.2.2 row (mem_at hrow) c (mem_at hc)
      refine join_mk (fun _ w' => bel w25 w' ∧ ∃ t, Box w' x29 (boxc t) ∧ BX (3 + 9 * (k + 1)) w' t (dotN (colI T i) M (k + 1)) ∧ ApT x29 t (dotN (colI T i) M (k + 1)) ∧ FrT w25 t) (fun K hK => ?_) (fun _ w' hh _ => z_i64 (by dsimp only; omega) (hag' _ (by omega) hh))
      have same : dotT (colI T i) M k = 0 → K () w34 := fun q => by
        have e : dotN (colI T i) M (k + 1) = dotN (colI T i) M k := by
          show dotN (colI T i) M k + dotT (colI T i) M k = _
          rw [q, Rat.add_zero]
        exact hK _ _ ⟨hw2, t, Y, by rw [e]; exact hB.le (by omega), by rw [e]; exact hA, hFt⟩
      refine at_fst (HM.up (hw.trans hw2)) rfl hp ?_
      refine br_ne (fun n1 => ?_) (fun n1 => same (dotT_p0 hcol hp n1))
      refine rd_box (by kernel_rfl) (X.up (hw.trans hw2)) (i := 1) rfl rfl ?_
      refine (H.up (hw.trans hw2)).r.at tyTab (by kernel_rfl) rfl (by omega) fun y row' h1 HR => ?_
      rw [hrow] at h1; cases h1
      refine at_int tyI64 (by kernel_rfl) HR rfl (by have := Sl.int HR; omega) fun c' hc' => ?_
      rw [hc] at hc'; cases hc'
      refine br_ne (fun n2 => ?_) (fun n2 => same (dotT_c0 hcol hp n2))
      refine drw_mk fun w65 h3' _ => ?_
      have hw3 := hw2.trans h3'
      replace Y := Y.up h3'; replace hB := hB.up h3'
      refine flEx_mk (fun i _ v w' => (i = 5 → ∃ t : TE, v = exV t ∧ BX 3 w' t (ratv p.1 p.2)) ∧ (i = 14 → ∃ t : TE, v = exV t ∧ BX 3 w' t (c : Rat)) ∧ (i = 15 → ∃ t : TE, v = exV t ∧ BX 7 w' t (ratv p.1 p.2 * (c : Rat))))
        (fun _ _ _ _ _ h hb => ⟨fun e => by obtain ⟨t, q1, q2⟩ := h.1 e; exact ⟨t, q1, q2.up hb⟩, fun e => by obtain ⟨t, q1, q2⟩ := h.2.1 e; exact ⟨t, q1, q2.up hb⟩, fun e => by obtain ⟨t, q1, q2⟩ := h.2.2 e; exact ⟨t, q1, q2.up hb⟩⟩) ?_
      refine rd_boxN Y (by kernel_rfl) rfl ?_
      refine at_frac (HM.up (hw.trans hw3)) rfl hp ?_
      refine flc_mk (fun w70 hb _ => call_mono (makeX w70 hF1) fun y w' ⟨hy, _, _, hb'⟩ => ⟨hb', fun _ => ⟨y, rfl, hy⟩, fun e => by omega, fun e => by omega⟩) (fun (x74 : TE) => ?_)
      refine rd_box (by kernel_rfl) (X.up (hw.trans hw3)) (i := 1) rfl rfl ?_
      refine (H.up (hw.trans hw3)).r.at tyTab (by kernel_rfl) rfl (by omega) fun y row' h1 HR => ?_
      rw [hrow] at h1; cases h1
      refine at_int tyI64 (by kernel_rfl) HR rfl (by have := Sl.int HR; omega) fun c' hc' => ?_
      rw [hc] at hc'; cases hc'
      refine flc_mk (fun w80 hb _ => call_mono (wholeX c w80 ⟨by omega, by omega⟩) fun y w' ⟨hy, _, _, hb'⟩ => ⟨hb', fun e => by omega, fun _ => ⟨y, rfl, hy⟩, fun e => by omega⟩) (fun (x84 : TE) => ?_)
      refine flc_mk (fun w85 hb hf => ?_) (fun (x89 : TE) => ?_)
      · obtain ⟨⟨_, g2, _⟩, ⟨g1, _⟩, _⟩ := hf
        obtain ⟨t1, e1, B1⟩ := g1 rfl
        obtain ⟨t2, e2, B2⟩ := g2 rfl
        have e1' := exV_inj (t := x74) e1
        have e2' := exV_inj (t := x84) e2
        subst e1' e2'
        exact call_mono (timesX x74 x84 _ _ 3 3 w85 B1 B2 (by omega) (by omega)) fun y w' ⟨hy, _, _, hb'⟩ => ⟨hb', fun e => by omega, fun e => by omega, fun _ => ⟨y, rfl, hy⟩⟩
      · refine flend_mk fun w90 hb hf => ?_
        obtain ⟨⟨_, _, g⟩, _⟩ := hf
        obtain ⟨t1, e1, B1⟩ := g rfl
        have e1' := exV_inj (t := x89) e1
        subst e1'
        exact term x29 (colI T i) k p c t w65 w25 hp hcol ⟨by omega, by omega⟩ (by omega) (hw.trans hw3) hw3 hn Y hB x74 x84 x89 w90 hb B1 _ fun y w94 q1 q2 q3 q4 q5 => hK _ _ ⟨q1, y, q2, q3, q4, q5.mono hw3.size⟩
    · dsimp only at e2
      have hk' : k = T.length := by omega
      subst hk'
      have hO1 : OffQ (blk a.1) t (colQ T M i) := hFt.off (fun k hk => (O.lt k hk).2) _
      replace O := O.kept hw2
      have hE2 : ∀ (k : Nat) t, ts[k]? = some t → BX 1000 w34 t (colQ T M k) ∧ FrT w15 t ∧ OffQ (blk a.1) t (colQ T M k) := fun k t q => ⟨(hE k t q).1.up hw2, (hE k t q).2⟩
      refine rd_boxN Y (by kernel_rfl) rfl ?_
      dsimp only
      rw [ha]
      refine wr_app1 tyBigs O (hw.trans hw2).size rfl (by omega) (by omega) rfl rfl (by omega) (by unfold maxLen; omega) fun a' c' w39 O' hg hnew _ => ?_
      refine z_i64 (by omega) ?_
      refine hag (a', i + 1, c') w39 (by omega) ⟨(hw.trans hw2).own O hg (Nat.le_refl _), rfl, ts ++ [t], ?_, by simp [hts], fun k t' hk' => ?_⟩
      · rw [List.flatMap_append]; exact O'
      · have key : BX 1000 w34 t' (colQ T M k) ∧ FrT w15 t' ∧ OffQ (blk a.1) t' (colQ T M k) := by
          rcases Nat.lt_or_ge k ts.length with q | q
          · rw [List.getElem?_append_left q] at hk'
            exact hE2 k t' hk'
          · rw [List.getElem?_append_right q] at hk'
            have e : k - ts.length = 0 := by
              rcases Nat.eq_zero_or_pos (k - ts.length) with q2 | q2
              · exact q2
              · rw [List.getElem?_eq_none (by simp; omega)] at hk'; cases hk'
            rw [e] at hk'
            cases hk'
            have : k = i := by omega
            subst this
            exact ⟨BX.le hB (by omega), hFt.mono hw.size, hO1⟩
        obtain ⟨k1, k2, k3⟩ := key
        refine ⟨k1.grownO k3 hg, k2, ?_⟩
        rcases hnew with q | q
        · dsimp only; rw [q]; exact k3
        · exact k1.offNew q
  · dsimp only at e
    have hi' : i = up.length := by omega
    subst hi'
    refine call_mono (wholeX 0 w25 ⟨by omega, by omega⟩) ?_
    rintro (t0 : TE) w28 ⟨hB0, f1, f2, h'⟩
    refine var_mk (z := .agg #[.bool false, .slice none 0 0, .slice none 0 0]) (by kernel_rfl) (by kernel_rfl) rfl rfl fun x84 w31 Y h2' hy => ?_
    replace Y : Box w31 x84 (boxc t0) := Y
    have A0 : ApT x84 t0 (0 : Rat) := ApT.old hB0 (by omega)
    have hn : w25.heap.size ≤ x84.block := by have := h'.size; omega
    refine loop_up m.2.1 (fun k w' => bel w25 w' ∧ ∃ t, Box w' x84 (boxc t) ∧ BX (3 + 9 * k) w' t (dotN rt M k) ∧ ApT x84 t (dotN rt M k) ∧ FrT w25 t) ⟨h'.trans h2', t0, Y, hB0.up h2', A0, f1, f2⟩ fun k w89 hk ⟨hw2, t, Y, hB, hA, hFt⟩ again' hag' _ => ?_
    refine br_dec (fun e2 => ?_) (fun e2 => ?_)
    · dsimp only at e2
      obtain ⟨p, hp⟩ : ∃ p, M[k]? = some p := ⟨_, List.getElem?_eq_getElem (by omega)⟩
      obtain ⟨c, hc⟩ : ∃ c, rt[k]? = some c := ⟨_, List.getElem?_eq_getElem (by have := v4.1; omega)⟩
      have hF1 := hF p (mem_at hp)
      have hc2 := v3.2.1 c (mem_at hc)
      refine drw_mk fun w65 h3' _ => ?_
      have hw3 := hw2.trans h3'
      replace Y := Y.up h3'; replace hB := hB.up h3'
      refine flEx_mk (fun i _ v w' => (i = 5 → ∃ t : TE, v = exV t ∧ BX 3 w' t (ratv p.1 p.2)) ∧ (i = 11 → ∃ t : TE, v = exV t ∧ BX 3 w' t (c : Rat)) ∧ (i = 12 → ∃ t : TE, v = exV t ∧ BX 7 w' t (ratv p.1 p.2 * (c : Rat))))
        (fun _ _ _ _ _ h hb => ⟨fun e => by obtain ⟨t, q1, q2⟩ := h.1 e; exact ⟨t, q1, q2.up hb⟩, fun e => by obtain ⟨t, q1, q2⟩ := h.2.1 e; exact ⟨t, q1, q2.up hb⟩, fun e => by obtain ⟨t, q1, q2⟩ := h.2.2 e; exact ⟨t, q1, q2.up hb⟩⟩) ?_
      refine rd_boxN Y (by kernel_rfl) rfl ?_
      refine at_frac (HM.up (hw.trans hw3)) rfl hp ?_
      refine flc_mk (fun w70 hb _ => call_mono (makeX w70 hF1) fun y w' ⟨hy, _, _, hb'⟩ => ⟨hb', fun _ => ⟨y, rfl, hy⟩, fun e => by omega, fun e => by omega⟩) (fun (x74 : TE) => ?_)
      refine rd_box (by kernel_rfl) (X.up (hw.trans hw3)) (i := 2) rfl rfl ?_
      refine at_int tyI64 (by kernel_rfl) (H.up (hw.trans hw3)).b rfl (by have := v4.1; omega) fun c' hc' => ?_
      rw [hc] at hc'; cases hc'
      refine flc_mk (fun w80 hb _ => call_mono (wholeX c w80 ⟨by omega, by omega⟩) fun y w' ⟨hy, _, _, hb'⟩ => ⟨hb', fun e => by omega, fun _ => ⟨y, rfl, hy⟩, fun e => by omega⟩) (fun (x107 : TE) => ?_)
      refine flc_mk (fun w85 hb hf => ?_) (fun (x112 : TE) => ?_)
      · obtain ⟨⟨_, g2, _⟩, ⟨g1, _⟩, _⟩ := hf
        obtain ⟨t1, e1, B1⟩ := g1 rfl
        obtain ⟨t2, e2, B2⟩ := g2 rfl
        have e1' := exV_inj (t := x74) e1
        have e2' := exV_inj (t := x107) e2
        subst e1' e2'
        exact call_mono (timesX x74 x107 _ _ 3 3 w85 B1 B2 (by omega) (by omega)) fun y w' ⟨hy, _, _, hb'⟩ => ⟨hb', fun e => by omega, fun e => by omega, fun _ => ⟨y, rfl, hy⟩⟩
      · refine flend_mk fun w90 hb hf => ?_
        obtain ⟨⟨_, _, g⟩, _⟩ := hf
        obtain ⟨t1, e1, B1⟩ := g rfl
        have e1' := exV_inj (t := x112) e1
        subst e1'
        exact term x84 rt k p c t w65 w25 hp hc ⟨by omega, by omega⟩ (by omega) (hw.trans hw3) hw3 hn Y hB x74 x107 x112 w90 hb B1 _ fun y w94 q1 q2 q3 q4 q5 => z_i64 (by dsimp only; omega) (hag' _ (by omega) ⟨q1, y, q2, q3, q4, q5.mono hw3.size⟩)
    · dsimp only at e2
      have hk' : k = T.length := by omega
      subst hk'
      refine drw_mk fun w119 h3' _ => ?_
      have hw3 := hw2.trans h3'
      have hw4 := hw.trans hw3
      refine rd_boxN (Y.up h3') (by kernel_rfl) rfl ?_
      refine wu_box (Z.up hw4) (by kernel_rfl) (Nat.le_refl 3) rfl fun w121 Z' hg _ => ?_
      have hx3 : ∀ k, some x3.block = some k → k < w15.heap.size := fun k q => by injection q; omega
      refine rd_boxV Z' (by kernel_rfl) rfl ⟨(((a.1, a.2.1, a.2.2), t, 0, ()) : BT), rfl, ⟨(preE_0 e0 hML hF).symm, fun _ => ⟨⟨ts, ?_, hts, fun k t' hk' => ?_⟩, ?_⟩⟩, (h.trans hw4).grownAt hg hne⟩
      · dsimp only
        rw [ha]
        refine ((O.kept hw3).keptBy hg ?_).sl
        cases hb' : blk a.1 with
        | none => exact .inl rfl
        | some k => exact .inr fun q => by have := (O.lt k hb').1; injection q; omega
      · obtain ⟨k1, k2, _⟩ := hE k t' hk'
        exact (k1.up hw3).grownO (k2.off hx3 _) hg
      · exact BX.le (((hB.up h3')).grownO ((hFt.mono hw.size).off hx3 _) hg) (by omega)
end Go.Proofs.Ytajpdnphamomjaa

/- Combinations: the reference's Combine; comparing lists of fractions; lattices. -/

namespace Go.Proofs.Ytajpdnphamomjaa
open Go.RowKit Go.Q Go.Q.Num Go.V

set_option maxHeartbeats 800000 in
theorem combR11 (u r b m : Hdr) (up : List Int) (T : List (List Int)) (rt : List Int) (M : List (Int × Int)) (w : World) (H : Sys w u r b up T rt) (HM : Sl w m.1 m.2.1 m.2.2 2 (M.flatMap encF)) (hI : ∀ p ∈ M, I64 p.1 ∧ I64 p.2) :
    call Try.prog 37 [sysv u r b, .slice m.1 m.2.1 m.2.2] rCT w (fun x w' => CombR up T rt M x w' ∧ bel w w') := by
  refine call_of (S37_calls u.1 u.2.1 u.2.2 r.1 r.2.1 r.2.2 b.1 b.2.1 b.2.2 m.1 m.2.1 m.2.2 w _ ?_)
  unfold S37
  have hu := H.u.int
  refine wr_box fun x1 w2 X h _ _ => ?_
  replace X : Box w2 x1 (sysc u r b) := X
  replace H := H.up h; replace HM := HM.up h
  refine wr_alloc (z := fracv 0 0) (by kernel_rfl) fun x3 w4 Z h' hz _ => ?_
  have hne : w.heap.size ≤ x3.block := by rw [hz]; exact h.size
  replace h := h.trans h'; replace X := X.up h'; replace H := H.up h'; replace HM := HM.up h'; clear h'
  have bad : ∀ {w' : World} {e : Int} {cs : List Value}, cs.length = 2 → bel w w' → Box w' x3 cs → combE up T rt M = e → e ≠ 0 →
      wu Try.prog (Instr.storeAt 23 (.pointer (some x3)) (.agg #[.int .i64 0, .int .i64 0])) w' fun w10 => rd Try.prog (loadVar 23 x3) (.agg [.int .i64, .int .i64]) w10 fun x11 =>
        ∃ x : CT, Value.tuple #[.slice none 0 0, .agg #[.int .i64 x11.1, .int .i64 x11.2.1], .int .i64 e] = rCT.val x ∧ CombR up T rt M x w10 ∧ bel w w10 := by
    intro w' e cs hl h Z he h0
    refine wu_box Z (by kernel_rfl) (by rw [hl]; exact Nat.le_refl 2) rfl fun w5 Z' hg _ => ?_
    have Z2 : Box w5 x3 [.int .i64 0, .int .i64 0] := by
      match cs, hl with
      | [_, _], _ => exact Z'
    exact rd_boxV Z2 (by kernel_rfl) rfl ⟨(((none, 0, 0), (0, 0, ()), e, ()) : CT), rfl, CombR.bad he h0, h.grownAt hg hne⟩
  refine rd_boxN X (by kernel_rfl) rfl ?_
  refine call_mono (comb11 u r b m up T rt M w4 H HM hI) ?_
  rintro (x6 : BT) w7 ⟨⟨he, hR⟩, h'⟩
  replace h := h.trans h'; replace X := X.up h'; replace H := H.up h'; replace HM := HM.up h'; replace Z := Z.up h'; clear h'
  refine var_mk (z := .agg #[.bool false, .slice none 0 0, .slice none 0 0]) (by kernel_rfl) (by kernel_rfl) rfl rfl fun x8 w10 V hv _ => ?_
  replace V : Box w10 x8 (boxc x6.2.1) := V
  refine br_ne (fun e0 => bad rfl (h.trans hv) (Z.up hv) (by rw [combE_pre (by rw [← he]; exact e0), he]) e0) (fun e0 => ?_)
  obtain ⟨⟨ts, hS, hts, hB⟩, hBr⟩ := hR (by rw [← he]; exact e0)
  obtain ⟨p1, p2, p3⟩ := preE_ok (by rw [← he]; exact e0)
  obtain ⟨v1, v2, v3, v4⟩ := sysE_ok p1
  replace hS := hS.up hv
  replace hB : ∀ (k : Nat) t, ts[k]? = some t → BX 1000 w10 t (colQ T M k) := fun k t q => (hB k t q).up hv
  replace hBr := hBr.up hv
  replace h := h.trans hv; replace X := X.up hv; replace H := H.up hv; replace HM := HM.up hv; replace Z := Z.up hv; clear hv
  have hln : ts.length = x6.1.2.1 := by
    have := hS.len
    rw [flat_len boxc_len] at this
    omega
  refine loop_upA x6.1.2.1 (fun i (a : Hdr) w' => bel w10 w' ∧ a.2.1 = i ∧ Own w' w10.heap.size 23 2 a.1 i a.2.2 ((cols up T M i).flatMap encF) ∧ ∀ k, k < i → Fits (colQ T M k)) ⟨bel.refl _, rfl, Own.nil _ _ _ _, fun k h => by omega⟩ fun i a w15 hi ⟨hw, ha, O, hq⟩ again hag _ => ?_
  have Z0 := Z.lt
  refine br_dec (fun e => ?_) (fun e => ?_)
  · dsimp only at e
    obtain ⟨t, ht⟩ : ∃ t, ts[i]? = some t := ⟨_, List.getElem?_eq_getElem (by omega)⟩
    refine at_agg tyBigs agBig boxc_len (by omega) (hS.up hw) rfl ht rfl ?_
    refine call_mono (fit10 _ _ _ w15 ((hB i t ht).up hw).at) ?_
    rintro (x18 : FE) w19 ⟨rfl, h1'⟩
    have hw1 := hw.trans h1'
    refine boxF fun x20 w22 h2' Y _ => ?_
    have hw2 := hw1.trans h2'
    by_cases hft : Fits (colQ T M i)
    · have eT : fitT (colQ T M i) = (((colQ T M i).num, (((colQ T M i).den : Nat) : Int), ()), 0, ()) := by unfold fitT; rw [if_pos hft]
      rw [eT] at Y ⊢
      refine br_f rfl ?_
      refine rd_boxN Y (by kernel_rfl) rfl ?_
      dsimp only
      rw [ha]
      refine wr_app1 tyFracs (O.kept (h1'.trans h2')) hw2.size rfl (by omega) (by omega) rfl rfl (by omega) (by unfold maxLen; omega) fun a' c' w39 O' hg _ _ => ?_
      refine z_i64 (by omega) ?_
      refine hag (a', i + 1, c') w39 (by omega) ⟨hw2.own (O.kept (h1'.trans h2')) hg (Nat.le_refl _), rfl, ?_, fun k hk => ?_⟩
      · rw [cols_snoc, List.flatMap_append]; exact O'
      · rcases Nat.lt_or_ge k i with q | q
        · exact hq k q
        · have : k = i := by omega
          subst this; exact hft
    · have eT : fitT (colQ T M i) = ((0, 0, ()), 8, ()) := by unfold fitT; rw [if_neg hft]
      rw [eT]
      exact br_t rfl (bad rfl (h.trans hw2) (Z.up hw2) (combE_4 p1 p2 p3 fun q => hft (q.1 i (by omega))) (by decide))
  · dsimp only at e
    have hi' : i = up.length := by omega
    subst hi'
    refine rd_boxN (V.up hw) (by kernel_rfl) rfl ?_
    refine call_mono (fit10 _ _ _ w15 (hBr.up hw).at) ?_
    rintro (x32 : FE) w33 ⟨rfl, h1'⟩
    have hw1 := hw.trans h1'
    refine boxF fun x34 w36 h2' Y _ => ?_
    have hw2 := hw1.trans h2'
    by_cases hft : Fits (rhsQ T rt M)
    · have eT : fitT (rhsQ T rt M) = (((rhsQ T rt M).num, (((rhsQ T rt M).den : Nat) : Int), ()), 0, ()) := by unfold fitT; rw [if_pos hft]
      rw [eT] at Y ⊢
      refine br_f rfl ?_
      refine drw_mk fun w39 h3' _ => ?_
      have hw3 := hw2.trans h3'
      refine rd_boxN (Y.up h3') (by kernel_rfl) rfl ?_
      refine wu_box (Z.up hw3) (by kernel_rfl) (Nat.le_refl 2) rfl fun w41 Z' hg _ => ?_
      have hE := combE_0 p1 p2 p3 ⟨hq, hft⟩
      refine rd_boxV Z' (by kernel_rfl) rfl ⟨(((a.1, a.2.1, a.2.2), ((rhsQ T rt M).num, (((rhsQ T rt M).den : Nat) : Int), ()), 0, ()) : CT), rfl, ⟨hE.symm, fun _ => ⟨?_, rfl⟩, fun q => absurd hE q⟩, (h.trans hw3).grownAt hg hne⟩
      dsimp only
      rw [ha]
      refine ((O.kept ((h1'.trans h2').trans h3')).keptBy hg ?_).sl
      cases hb' : blk a.1 with
      | none => exact .inl rfl
      | some k => exact .inr fun q => by have := (O.lt k hb').1; injection q; omega
    · have eT : fitT (rhsQ T rt M) = ((0, 0, ()), 8, ()) := by unfold fitT; rw [if_neg hft]
      rw [eT]
      exact br_t rfl (bad rfl (h.trans hw2) (Z.up hw2) (combE_4 p1 p2 p3 fun q => hft q.2) (by decide))

theorem not_t {b : Bool} (h : (!b) = true) : b = false := by cases b <;> first | rfl | cases h
/-- two lists of fractions -/
theorem sameF (a b : Hdr) (L : List (Int × Int)) (w : World) (HA : Sl w a.1 a.2.1 a.2.2 2 (L.flatMap encF)) (HB : Sl w b.1 b.2.1 b.2.2 2 (L.flatMap encF)) :
    call Try.prog 38 [.slice a.1 a.2.1 a.2.2, .slice b.1 b.2.1 b.2.2] (.one (.one .bool)) w (fun x w' => x = true ∧ bel w w') := by
  refine call_of (S38_calls a.1 a.2.1 a.2.2 b.1 b.2.1 b.2.2 w _ ?_)
  unfold S38
  have ha := fr_len HA
  have hb := fr_len HB
  have ka := HA.le
  refine br_f (by simp; omega) ?_
  refine loop_up a.2.1 (fun _ w' => bel w w') (bel.refl _) fun i w3 hi hw again hag _ => ?_
  refine br_dec (fun e => ?_) (fun e => ⟨true, rfl, rfl, hw⟩)
  dsimp only at e
  obtain ⟨p, hp⟩ : ∃ p, L[i]? = some p := ⟨_, List.getElem?_eq_getElem (by omega)⟩
  refine drw_mk fun w4 h' _ => ?_
  replace hw := hw.trans h'
  refine at_frac (HA.up hw) rfl hp ?_
  refine at_frac (HB.up hw) rfl hp ?_
  refine rd_ne_same (br_f rfl ?_)
  refine z_i64 (by dsimp only; omega) ?_
  exact hag _ (by omega) hw

/-! ### lattices -/
structure LatP (up : List Int) (T : List (List Int)) (rt : List Int) (M : List (Int × Int)) : Prop where
  ok : combE up T rt M = 0
  whole : ∀ p ∈ cols up T M up.length, p.2 = 1
  part : (((rhsQ T rt M).den : Nat) : Int) ≠ 1
theorem lat1F (p : Int × Int) (w : World) : call Try.prog 91 [.agg #[.int .i64 p.1, .int .i64 p.2]] (.one (.one .bool)) w (fun x w' => x = (p.2 != 1) ∧ bel w w') := by
  refine call_of (S91_calls p.1 p.2 w _ ?_)
  unfold S91
  refine wr_box fun x1 w2 X h' _ _ => ?_
  refine rd_box (by kernel_rfl) X (i := 1) rfl rfl ?_
  exact ⟨_, rfl, rfl, h'⟩
theorem hasE (m : Hdr) (M : List (Int × Int)) (w : World) (H : Sl w m.1 m.2.1 m.2.2 2 (M.flatMap encF)) :
    call Try.prog 84 [.slice m.1 m.2.1 m.2.2, .func (.func 91) #[] #[]] (.one (.one .bool)) w (fun x w' => x = M.any (fun p => p.2 != 1) ∧ bel w w') := by
  refine call_of (S84e_calls m.1 m.2.1 m.2.2 w _ ?_)
  unfold S84e
  refine call_mono (r := .one (.one (.int .i64))) (Q := fun x w' => x = idxI (fun p : Int × Int => p.2 != 1) M ∧ bel w w') (call_of (S114e_calls m.1 m.2.1 m.2.2 w _ ?_)) ?_
  · unfold S114e
    exact idx_aggs tyFracs agFrac encF_len (by omega) (l := [.int .i64, .int .i64]) (dec := fun p => (p.1, p.2, ())) dec_frac (fargs := fun (x5 : Int × Int × Unit) => [.agg #[.int .i64 x5.1, .int .i64 x5.2.1]]) H (fun p => p.2 != 1) (fun j p hp w' hb => lat1F p w')
  · rintro x w2 ⟨rfl, hb⟩
    exact ⟨_, rfl, idxI_any _ _, hb⟩
theorem latL (u r b m : Hdr) (up : List Int) (T : List (List Int)) (rt : List Int) (M : List (Int × Int)) (w : World) (H : Sys w u r b up T rt) (HM : Sl w m.1 m.2.1 m.2.2 2 (M.flatMap encF)) (hI : ∀ p ∈ M, I64 p.1 ∧ I64 p.2) :
    call Try.prog 39 [sysv u r b, .slice m.1 m.2.1 m.2.2] (.one (.one .bool)) w (fun x w' => (x = true ↔ LatP up T rt M) ∧ bel w w') := by
  refine call_of (S39_calls u.1 u.2.1 u.2.2 r.1 r.2.1 r.2.2 b.1 b.2.1 b.2.2 m.1 m.2.1 m.2.2 w _ ?_)
  unfold S39
  refine wr_box fun x1 w2 X h _ _ => ?_
  replace X : Box w2 x1 (sysc u r b) := X
  refine rd_boxN X (by kernel_rfl) rfl ?_
  refine call_mono (combL u r b m up T rt M w2 (H.up h) (HM.up h) hI) ?_
  rintro (x4 : CT) w5 ⟨⟨q1, q2, q3⟩, h'⟩
  replace h := h.trans h'
  refine boxF fun x6 w8 h2' Y _ => ?_
  replace h := h.trans h2'
  refine br_eq (fun e => ?_) (fun e => ⟨false, rfl, ⟨fun c => (Bool.noConfusion c), fun s => absurd (q1.trans s.ok) e⟩, h⟩)
  obtain ⟨g1, g2⟩ := q2 (q1.symm.trans e)
  have g3 : x4.2.1.2.1 = (((rhsQ T rt M).den : Nat) : Int) := by rw [g2]
  refine rd_box (by kernel_rfl) Y (i := 1) rfl rfl ?_
  refine br_ne (fun e2 => ?_) (fun e2 => ⟨false, rfl, ⟨fun c => (Bool.noConfusion c), fun s => absurd (g3.symm.trans e2) s.part⟩, h⟩)
  refine call_mono (hasE x4.1 _ w8 (g1.up h2')) ?_
  rintro _ w11 ⟨rfl, h3'⟩
  refine ⟨_, rfl, ⟨fun c => ⟨q1.symm.trans e, fun p hp => ?_, fun q => e2 (g3.trans q)⟩, fun s => ?_⟩, h.trans h3'⟩
  · have c' : (cols up T M up.length).any (fun p => p.2 != 1) = false := not_t c
    have := any_f c' p hp
    simpa using this
  · have : (cols up T M up.length).any (fun p => p.2 != 1) = false := by
      rw [List.any_eq_false]
      intro p hp
      simp [s.whole p hp]
    rw [this]; rfl
theorem lat11 (u r b m : Hdr) (up : List Int) (T : List (List Int)) (rt : List Int) (M : List (Int × Int)) (w : World) (H : Sys w u r b up T rt) (HM : Sl w m.1 m.2.1 m.2.2 2 (M.flatMap encF)) (hI : ∀ p ∈ M, I64 p.1 ∧ I64 p.2) :
    call Try.prog 40 [sysv u r b, .slice m.1 m.2.1 m.2.2] (.one (.one .bool)) w (fun x w' => (x = true ↔ LatP up T rt M) ∧ bel w w') := by
  refine call_of (S40_calls u.1 u.2.1 u.2.2 r.1 r.2.1 r.2.2 b.1 b.2.1 b.2.2 m.1 m.2.1 m.2.2 w _ ?_)
  unfold S40
  refine wr_box fun x1 w2 X h _ _ => ?_
  replace X : Box w2 x1 (sysc u r b) := X
  refine rd_boxN X (by kernel_rfl) rfl ?_
  refine call_mono (combR11 u r b m up T rt M w2 (H.up h) (HM.up h) hI) ?_
  rintro (x4 : CT) w5 ⟨⟨q1, q2, q3⟩, h'⟩
  replace h := h.trans h'
  refine boxF fun x6 w8 h2' Y _ => ?_
  replace h := h.trans h2'
  refine br_ne (fun e => ⟨false, rfl, ⟨fun c => (Bool.noConfusion c), fun s => absurd (q1.trans s.ok) e⟩, h⟩) (fun e => ?_)
  obtain ⟨g1, g2⟩ := q2 (q1.symm.trans e)
  have g3 : x4.2.1.2.1 = (((rhsQ T rt M).den : Nat) : Int) := by rw [g2]
  have hl := fr_len g1
  have kl := g1.le
  replace g1 := g1.up h2'
  refine loop_up x4.1.2.1 (fun i w' => bel w8 w' ∧ ∀ j, j < i → ∀ p, (cols up T M up.length)[j]? = some p → p.2 = 1) ⟨bel.refl _, pre_zero⟩ fun i w11 hi ⟨hw, hq⟩ again hag _ => ?_
  refine br_dec (fun e2 => ?_) (fun e2 => ?_)
  · dsimp only at e2
    obtain ⟨p, hp⟩ : ∃ p, (cols up T M up.length)[i]? = some p := ⟨_, List.getElem?_eq_getElem (by omega)⟩
    refine idx_agg tyFracs encF_len (by omega) (g1.up hw) rfl hp fun ad had => ?_
    refine rd_cell (by kernel_rfl) (had 1 _ rfl) rfl ?_
    refine br_ne (fun e3 => ⟨false, rfl, ⟨fun c => (Bool.noConfusion c), fun s => absurd (s.whole p (mem_at hp)) e3⟩, h.trans hw⟩) (fun e3 => ?_)
    refine z_i64 (by dsimp only; omega) ?_
    exact hag _ (by omega) ⟨hw, pre_step hq hp e3⟩
  · dsimp only at e2
    refine rd_box (by kernel_rfl) (Y.up hw) (i := 1) rfl rfl ?_
    refine ⟨_, rfl, ⟨fun c => ⟨q1.symm.trans e, pre_all hq (by omega), fun q => ?_⟩, fun s => ?_⟩, h.trans hw⟩
    · have : x4.2.1.2.1 = 1 := g3.trans q
      simp [this] at c
    · have := s.part
      rw [← g3] at this
      exact bne_iff_ne.2 this
end Go.Proofs.Ytajpdnphamomjaa

/- Bounds that contradict a combination: the program. -/

namespace Go.Proofs.Ytajpdnphamomjaa
open Go.RowKit Go.Q Go.Q.Num Go.V

/-- the least value of the first k terms; with the bounds turned about: the greatest -/
def pickB (q : Rat) (lo hi : List Int) (k : Nat) : Int :=
  match lo[k]?, hi[k]? with
  | some a, some b => if q < 0 then b else a
  | _, _ => 0
def lowN (T : List (List Int)) (M : List (Int × Int)) (lo hi : List Int) : Nat → Rat
  | 0 => 0
  | k + 1 => lowN T M lo hi k + colQ T M k * ((pickB (colQ T M k) lo hi k : Int) : Rat)
abbrev Win (x : Int) : Prop := -1000000000 ≤ x ∧ x ≤ 1000000000
structure BndP (up : List Int) (T : List (List Int)) (rt : List Int) (lo hi : List Int) (M : List (Int × Int)) : Prop where
  ok : combE up T rt M = 0
  llo : lo.length = up.length
  lhi : hi.length = up.length
  wlo : ∀ x ∈ lo, Win x
  whi : ∀ x ∈ hi, Win x
  out : (∃ (k : Nat) (a b : Int), lo[k]? = some a ∧ hi[k]? = some b ∧ b < a) ∨ rhsQ T rt M < lowN T M lo hi up.length ∨ lowN T M hi lo up.length < rhsQ T rt M
theorem pick_at {q : Rat} {lo hi : List Int} {k : Nat} {a b : Int} (h1 : lo[k]? = some a) (h2 : hi[k]? = some b) : pickB q lo hi k = if q < 0 then b else a := by unfold pickB; rw [h1, h2]
theorem outB_iff {x : Int} : outB (-1000000000) 1000000000 x = false ↔ Win x := by unfold outB; simp
theorem fromQ {q : Rat} (w : World) (h : Fits q) : call Try.prog 56 [.agg #[.int .i64 q.num, .int .i64 ((q.den : Nat) : Int)]] (.one sBig) w (fun (x : TE) w' => EX 2 w' x q ∧ bel w w') := by
  have := fromX (n := q.num) (d := ((q.den : Nat) : Int)) w (frac_fits h)
  rw [ratv_fits] at this
  exact this
/-- two variables are made and written -/
theorem var2_mk {P : Program} {e : TypeId} {z v v' : Value} {w : World} {k : Addr → Addr → World → Prop} (hz : zeroOf P e = some z) (hs : sizeIs P e v.cells.size = true) (hs' : sizeIs P e v'.cells.size = true) (hl : v.cells.size = z.cells.size) (hl' : v'.cells.size = z.cells.size) (hp : plainV v.cells.toList = true) (hp' : plainV v'.cells.toList = true)
    (hk : ∀ a b w', Box w' a v.cells.toList → Box w' b v'.cells.toList → bel w w' → w.heap.size ≤ a.block → w.heap.size ≤ b.block → a.block ≠ b.block → k a b w') :
    wr P (Instr.alloc e true (.tuple #[])) (.one .addr) w fun x w1 => wr P (Instr.alloc e true (.tuple #[])) (.one .addr) w1 fun y w2 => wu P (Instr.storeAt e (.pointer (some x)) v) w2 fun w3 => wu P (Instr.storeAt e (.pointer (some y)) v') w3 fun w4 => k x y w4 := by
  have put : ∀ (vs cs : List Value), cs.length = vs.length → putAt cs 0 vs = vs := by
    have key : ∀ (vs pre cs : List Value), cs.length = vs.length → putAt (pre ++ cs) pre.length vs = pre ++ vs := by
      intro vs
      induction vs with
      | nil => intro pre cs h; rw [List.eq_nil_of_length_eq_zero h]; rfl
      | cons x vs ih =>
        intro pre cs h
        cases cs with
        | nil => simp at h
        | cons c cs =>
          simp only [putAt]
          have h1 : (pre ++ c :: cs).set pre.length x = (pre ++ [x]) ++ cs := by simp
          rw [h1]
          have := ih (pre ++ [x]) cs (by simpa using h)
          simp only [List.length_append, List.length_cons, List.length_nil, Nat.zero_add] at this
          rw [this]; simp
    intro vs cs h
    simpa using key vs [] cs h
  refine wr_alloc hz fun a w1 A h ha _ => ?_
  refine wr_alloc hz fun b w2 B h2 hb2 _ => ?_
  replace A := A.up h2
  have n1 := A.lt
  have hab : a.block < b.block := by have := A.lt; have := h.size; have := h2.size; omega
  refine wu_box A hs (by rw [hl]; simp) hp fun w3 A' hg _ => ?_
  have B' := B.grown hg (by intro e; injection e; omega)
  refine wu_box B' hs' (by rw [hl']; simp) hp' fun w4 B2 hg2 _ => ?_
  have A2 := A'.grown hg2 (by intro e; injection e; omega)
  rw [put _ _ (by simp [hl])] at A2
  rw [put _ _ (by simp [hl'])] at B2
  exact hk _ _ _ A2 B2 (((h.trans h2).grownAt hg (by omega)).grownAt hg2 (by have := h.size; omega)) (by omega) (by have := h.size; omega) (by omega)

theorem bnd11F (n : Int) (w : World) : call Try.prog 93 [.int .i64 n] (.one (.one .bool)) w (fun x w' => x = outB (-1000000000) 1000000000 n ∧ bel w w') := by
  refine call_of (S93_calls n w _ ?_)
  unfold S93
  refine call_mono (outsideF n _ _ w) ?_
  rintro x w2 ⟨rfl, h⟩
  exact ⟨_, rfl, rfl, h⟩
theorem hasG (a : Hdr) (xs : List Int) (w : World) (H : Sl w a.1 a.2.1 a.2.2 1 (ints .i64 xs)) :
    call Try.prog 74 [.slice a.1 a.2.1 a.2.2, .func (.func 93) #[] #[]] (.one (.one .bool)) w (fun x w' => x = xs.any (outB (-1000000000) 1000000000) ∧ bel w w') := by
  refine call_of (S74b_calls a.1 a.2.1 a.2.2 w _ ?_)
  unfold S74b
  refine call_mono (r := .one (.one (.int .i64))) (Q := fun x w' => x = idxI (outB (-1000000000) 1000000000) xs ∧ bel w w') (call_of (S112b_calls a.1 a.2.1 a.2.2 w _ ?_)) ?_
  · unfold S112b
    exact idx_ints tyI64 (by kernel_rfl) (fargs := fun x5 => [.int .i64 x5]) H (outB (-1000000000) 1000000000) (fun j x hx w' hb => bnd11F x w')
  · rintro x w2 ⟨rfl, hb⟩
    exact ⟨_, rfl, idxI_any _ _, hb⟩
theorem bnd1F (a u : Hdr) (xs up : List Int) (v1 v2 : Value) (c0 : Addr) (w : World) (H : Sl w a.1 a.2.1 a.2.2 1 (ints .i64 xs)) (X : Box w c0 [.slice u.1 u.2.1 u.2.2, v1, v2]) (hu : up.length = u.2.1) :
    call Try.prog 92 [.slice a.1 a.2.1 a.2.2, .pointer (some c0)] (.one (.one .bool)) w (fun x w' => (x = false ↔ xs.length = up.length ∧ ∀ x ∈ xs, Win x) ∧ bel w w') := by
  refine call_of (S92_calls a.1 a.2.1 a.2.2 c0 w _ ?_)
  unfold S92
  have hl := H.int
  refine rd_box0 (by kernel_rfl) X rfl rfl ?_
  refine br_ne (fun e => ⟨true, rfl, ⟨fun c => (Bool.noConfusion c), fun s => ?_⟩, bel.refl _⟩) (fun e => ?_)
  · dsimp only at e; omega
  dsimp only at e
  refine call_mono (hasG a xs w H) ?_
  rintro _ w3 ⟨rfl, h⟩
  refine ⟨_, rfl, ⟨fun c => ⟨by omega, fun x hx => outB_iff.1 (any_f c x hx)⟩, fun s => ?_⟩, h⟩
  show xs.any _ = false
  rw [List.any_eq_false]
  intro x hx
  rw [outB_iff.2 (s.2 x hx)]; simp

set_option maxHeartbeats 3200000 in
theorem bndL (u r b lo hi m : Hdr) (up : List Int) (T : List (List Int)) (rt ls hs : List Int) (M : List (Int × Int)) (w : World) (H : Sys w u r b up T rt) (HM : Sl w m.1 m.2.1 m.2.2 2 (M.flatMap encF)) (hI : ∀ p ∈ M, I64 p.1 ∧ I64 p.2)
    (HLo : Sl w lo.1 lo.2.1 lo.2.2 1 (ints .i64 ls)) (HHi : Sl w hi.1 hi.2.1 hi.2.2 1 (ints .i64 hs)) :
    call Try.prog 41 [sysv u r b, .slice lo.1 lo.2.1 lo.2.2, .slice hi.1 hi.2.1 hi.2.2, .slice m.1 m.2.1 m.2.2] (.one (.one .bool)) w (fun x w' => (x = true ↔ BndP up T rt ls hs M) ∧ bel w w') := by
  refine call_of (S41_calls u.1 u.2.1 u.2.2 r.1 r.2.1 r.2.2 b.1 b.2.1 b.2.2 lo.1 lo.2.1 lo.2.2 hi.1 hi.2.1 hi.2.2 m.1 m.2.1 m.2.2 w _ ?_)
  unfold S41
  have hu := H.u.int
  have hlo := HLo.int
  have hhi := HHi.int
  have no : ∀ {w' : World}, bel w w' → (BndP up T rt ls hs M → False) → ∃ v : Bool, Value.bool false = (RS.one (.one .bool)).val v ∧ (v = true ↔ BndP up T rt ls hs M) ∧ bel w w' := fun hb q => ⟨false, rfl, ⟨fun e => (Bool.noConfusion e), fun s => (q s).elim⟩, hb⟩
  refine wr_box fun x1 w2 X h _ _ => ?_
  replace X : Box w2 x1 (sysc u r b) := X
  replace HLo := HLo.up h; replace HHi := HHi.up h
  refine rd_boxN X (by kernel_rfl) rfl ?_
  refine call_mono (combL u r b m up T rt M w2 (H.up h) (HM.up h) hI) ?_
  rintro (x4 : CT) w5 ⟨⟨q1, q2, _⟩, h'⟩
  replace h := h.trans h'; replace X := X.up h'; replace HLo := HLo.up h'; replace HHi := HHi.up h'; clear h'
  refine boxF fun x6 w8 h2' Y _ => ?_
  refine br_ne (fun e => no (h.trans h2') fun s => e (q1.trans s.ok)) (fun e => ?_)
  have hok : combE up T rt M = 0 := q1.symm.trans e
  obtain ⟨g1, g2⟩ := q2 hok
  obtain ⟨ce1, _, _, hfit, hfr⟩ := combE_ok hok
  have v1 := (sysE_ok ce1).1
  have hln := fr_len g1
  rw [cols_len] at hln
  have kl := g1.le
  replace g1 := g1.up h2'
  replace h := h.trans h2'; replace X := X.up h2'; replace HLo := HLo.up h2'; replace HHi := HHi.up h2'; clear h2'
  rw [g2] at Y
  refine call_mono (bnd1F lo u ls up _ _ x1 w8 HLo X hu) ?_
  rintro x9 w10 ⟨b1, h'⟩
  replace h := h.trans h'; replace X := X.up h'; replace HLo := HLo.up h'; replace HHi := HHi.up h'; replace Y := Y.up h'; replace g1 := g1.up h'; clear h'
  refine br_mk (fun e1 => no h fun s => ?_) (fun e1 => ?_)
  · rw [b1.2 ⟨s.llo, s.wlo⟩] at e1; cases e1
  obtain ⟨l1, l2⟩ := b1.1 e1
  refine call_mono (bnd1F hi u hs up _ _ x1 w10 HHi X hu) ?_
  rintro x11 w12 ⟨b2, h'⟩
  replace h := h.trans h'; replace X := X.up h'; replace HLo := HLo.up h'; replace HHi := HHi.up h'; replace Y := Y.up h'; replace g1 := g1.up h'; clear h'
  refine br_mk (fun e2 => no h fun s => ?_) (fun e2 => ?_)
  · rw [b2.2 ⟨s.lhi, s.whi⟩] at e2; cases e2
  obtain ⟨l3, l4⟩ := b2.1 e2
  have bnd : ∀ {x : Bool}, ((∃ (k : Nat) (a b : Int), ls[k]? = some a ∧ hs[k]? = some b ∧ b < a) ∨ rhsQ T rt M < lowN T M ls hs up.length ∨ lowN T M hs ls up.length < rhsQ T rt M ↔ x = true) → (x = true ↔ BndP up T rt ls hs M) := fun q => ⟨fun e => ⟨hok, l1, l3, l2, l4, q.2 e⟩, fun s => q.1 s.out⟩
  refine call_mono (wholeF 0 w12 ⟨by omega, by omega⟩) ?_
  rintro (t0 : TE) w14 ⟨hA0, _, _, h'⟩
  replace h := h.trans h'; replace X := X.up h'; replace HLo := HLo.up h'; replace HHi := HHi.up h'; replace Y := Y.up h'; replace g1 := g1.up h'; clear h'
  refine call_mono (wholeF 0 w14 ⟨by omega, by omega⟩) ?_
  rintro (t1 : TE) w16 ⟨hB0, _, _, h'⟩
  replace hA0 := hA0.up h'
  replace h := h.trans h'; replace X := X.up h'; replace HLo := HLo.up h'; replace HHi := HHi.up h'; replace Y := Y.up h'; replace g1 := g1.up h'; clear h'
  refine var2_mk (z := .agg #[.bool false, .slice none 0 0, .slice none 0 0]) (by kernel_rfl) (by kernel_rfl) (by kernel_rfl) rfl rfl rfl rfl fun x17 x19 w22 V1 V2 h' n17 n19 n1719 => ?_
  replace V1 : Box w22 x17 (boxc t0) := V1
  replace V2 : Box w22 x19 (boxc t1) := V2
  refine loop_up x4.1.2.1 (fun i w' => bel w16 w' ∧ (∀ j, j < i → ∀ a b, ls[j]? = some a → hs[j]? = some b → ¬ b < a) ∧ ∃ t s : TE, Box w' x17 (boxc t) ∧ Box w' x19 (boxc s) ∧ EX (2 + 5 * i) w' t (lowN T M ls hs i) ∧ EX (2 + 5 * i) w' s (lowN T M hs ls i) ∧ ApT x17 t (lowN T M ls hs i) ∧ ApT x19 t (lowN T M ls hs i) ∧ ApT x17 s (lowN T M hs ls i) ∧ ApT x19 s (lowN T M hs ls i))
    ⟨h', fun j q => by omega, t0, t1, V1, V2, hA0.up h', hB0.up h', ApT.oldE hA0 n17, ApT.oldE hA0 n19, ApT.oldE hB0 n17, ApT.oldE hB0 n19⟩ fun i w25 hi' ⟨hw, hq, t, s, V1, V2, E1, E2, A11, A12, A21, A22⟩ again hag _ => ?_
  refine br_dec (fun e3 => ?_) (fun e3 => ?_)
  · dsimp only at e3
    obtain ⟨la, hla⟩ : ∃ la, ls[i]? = some la := ⟨_, List.getElem?_eq_getElem (by omega)⟩
    obtain ⟨ha, hha⟩ : ∃ ha, hs[i]? = some ha := ⟨_, List.getElem?_eq_getElem (by omega)⟩
    have hp : (cols up T M up.length)[i]? = some (fpair (colQ T M i)) := cols_get (by omega)
    have hft := hfit i (by omega)
    have wla := l2 la (mem_at hla)
    have wha := l4 ha (mem_at hha)
    have l17 := V1.lt
    have l19 := V2.lt
    obtain ⟨q, hq0⟩ : ∃ q, q = colQ T M i := ⟨_, rfl⟩
    rw [← hq0] at hp hft
    refine join_mk (fun _ w' => bel w16 w' ∧ ¬ ha < la ∧ ∃ t s : TE, Box w' x17 (boxc t) ∧ Box w' x19 (boxc s) ∧ EX (2 + 5 * (i + 1)) w' t (lowN T M ls hs (i + 1)) ∧ EX (2 + 5 * (i + 1)) w' s (lowN T M hs ls (i + 1)) ∧ ApT x17 t (lowN T M ls hs (i + 1)) ∧ ApT x19 t (lowN T M ls hs (i + 1)) ∧ ApT x17 s (lowN T M hs ls (i + 1)) ∧ ApT x19 s (lowN T M hs ls (i + 1))) (fun K hK => ?_) (fun _ w' ⟨hh1, hh2, hh3⟩ _ => z_i64 (by dsimp only; omega) (hag _ (by omega) ⟨hh1, fun j hj a b c1 c2 => ?_, hh3⟩))
    · -- one round
      refine at_frac (g1.up hw) rfl hp ?_
      refine boxF fun x32 w34 h' Z n32 => ?_
      have hw1 := hw.trans h'
      refine drw_mk fun w35 h2' _ => ?_
      have hw2 := hw1.trans h2'
      have hz := h'.trans h2'
      replace Z := Z.up h2'
      refine at_int tyI64 (by kernel_rfl) (HLo.up hw2) rfl (by omega) fun a ha' => ?_
      rw [hla] at ha'; cases ha'
      refine at_int tyI64 (by kernel_rfl) (HHi.up hw2) rfl (by omega) fun a ha' => ?_
      rw [hha] at ha'; cases ha'
      refine br_dec (fun e4 => ⟨true, rfl, bnd ⟨fun _ => rfl, fun _ => .inl ⟨i, la, ha, hla, hha, e4⟩⟩, h.trans hw2⟩) (fun e4 => ?_)
      refine rd_box0 (by kernel_rfl) Z rfl rfl ?_
      have st1 : lowN T M ls hs (i + 1) = lowN T M ls hs i + q * ((if q < 0 then ha else la : Int) : Rat) := by
        show lowN T M ls hs i + colQ T M i * ((pickB (colQ T M i) ls hs i : Int) : Rat) = _
        rw [pick_at hla hha, hq0]
      have st2 : lowN T M hs ls (i + 1) = lowN T M hs ls i + q * ((if q < 0 then la else ha : Int) : Rat) := by
        show lowN T M hs ls i + colQ T M i * ((pickB (colQ T M i) hs ls i : Int) : Rat) = _
        rw [pick_at hha hla, hq0]
      refine br_eq (fun e5 => ?_) (fun e5 => ?_)
      · have q0 : q = 0 := Rat.num_eq_zero.1 e5
        rw [q0, Rat.zero_mul, Rat.add_zero] at st1 st2
        exact hK _ _ ⟨hw2, e4, t, s, V1.up hz, V2.up hz, by rw [st1]; exact (E1.up hz).le (by omega), by rw [st2]; exact (E2.up hz).le (by omega), by rw [st1]; exact A11, by rw [st1]; exact A12, by rw [st2]; exact A21, by rw [st2]; exact A22⟩
      refine join_mk (fun s' w' => s'.1 = (if q < 0 then ha else la) ∧ s'.2.1 = (if q < 0 then la else ha) ∧ w35 = w') (fun K' hK' => ?_) (fun s' w43 hs' _ => ?_)
      · refine rd_box0 (by kernel_rfl) Z rfl rfl ?_
        refine br_dec (fun e6 => hK' _ _ ⟨?_, ?_, rfl⟩) (fun e6 => hK' _ _ ⟨?_, ?_, rfl⟩)
        · dsimp only; rw [if_pos (num_neg.1 e6)]
        · dsimp only; rw [if_pos (num_neg.1 e6)]
        · dsimp only; rw [if_neg fun c => e6 (num_neg.2 c)]
        · dsimp only; rw [if_neg fun c => e6 (num_neg.2 c)]
      obtain ⟨y1, y2, _⟩ := s'
      obtain ⟨hy1, hy2, rfl⟩ := hs'
      dsimp only at hy1 hy2
      rw [← hy1] at st1
      rw [← hy2] at st2
      have wy1 : Win y1 := by rw [hy1]; split <;> assumption
      have wy2 : Win y2 := by rw [hy2]; split <;> assumption
      clear hy1 hy2
      replace V1 := V1.up hz; replace V2 := V2.up hz; replace E1 := E1.up hz; replace E2 := E2.up hz
      -- one of the two sums
      have one : ∀ (x : Addr) (y : Int) (v : TE) (rr : Rat) (L : Nat) (w44 : World) (Kn : World → Prop), Win y → w16.heap.size ≤ x.block → bel w16 w44 → Box w44 x (boxc v) → Box w44 x32 (encF (fpair q)) → EX L w44 v rr → L ≤ 2000 →
          (∀ (v' : TE) w67, bel w16 w67 → w44.grownBy w67 (some x.block) → Box w67 x (boxc v') → EX (L + 5) w67 v' (rr + q * (y : Rat)) → FrT w44 v' → Kn w67) →
          drw w44 fun w44 => flEx fun F45 =>
            rd Try.prog (Instr.loadAt 81 (.pointer (some x))) (.agg [.bool, .slice, .slice]) w44 fun (x46 : TE) =>
            rd Try.prog (Instr.loadAt 23 (.pointer (some x32))) (.agg [.int .i64, .int .i64]) w44 fun x47 =>
            flc bel w44 (fun _ => True) (fun (w48 : World) => call Try.prog 56 [(.agg #[(.int .i64 x47.1), (.int .i64 x47.2.1)])] (.one (.agg [.bool, .slice, .slice])) w48 fun (x50 : TE) (w51 : World) => (bel w48 w51 ∧ F45 2 [(.agg #[(.int .i64 x47.1), (.int .i64 x47.2.1)])] (exV x50) w51)) fun (x52 : TE) =>
            flc bel w44 (fun w54 => F45 2 [(.agg #[(.int .i64 x47.1), (.int .i64 x47.2.1)])] (exV x52) w54 ∧ True) (fun (w53 : World) => call Try.prog 81 [(.int .i64 y)] (.one (.agg [.bool, .slice, .slice])) w53 fun (x55 : TE) (w56 : World) => (bel w53 w56 ∧ F45 4 [(.int .i64 y)] (exV x55) w56)) fun (x57 : TE) =>
            flc bel w44 (fun w59 => F45 4 [(.int .i64 y)] (exV x57) w59 ∧ F45 2 [(.agg #[(.int .i64 x47.1), (.int .i64 x47.2.1)])] (exV x52) w59 ∧ True) (fun (w58 : World) => call Try.prog 68 [exV x52, exV x57] (.one (.agg [.bool, .slice, .slice])) w58 fun (x60 : TE) (w61 : World) => (bel w58 w61 ∧ F45 5 [exV x52, exV x57] (exV x60) w61)) fun (x62 : TE) =>
            flend bel w44 (fun w64 => F45 5 [exV x52, exV x57] (exV x62) w64 ∧ F45 4 [(.int .i64 y)] (exV x57) w64 ∧ F45 2 [(.agg #[(.int .i64 x47.1), (.int .i64 x47.2.1)])] (exV x52) w64 ∧ True) fun w63 =>
            call Try.prog 60 [exV x46, exV x62] (.one (.agg [.bool, .slice, .slice])) w63 fun (x65 : TE) (w66 : World) =>
            wu Try.prog (Instr.storeAt 81 (.pointer (some x)) (exV x65)) w66 fun (w67 : World) => Kn w67 := by
        intro x y v rr L w44 Kn wy hx hb0 V Z E hL hKn
        refine drw_mk fun w45 h3' _ => ?_
        replace V := V.up h3'; replace Z := Z.up h3'; replace E := E.up h3'
        refine flEx_mk (fun i _ v w' => (i = 2 → ∃ t : TE, v = exV t ∧ EX 2 w' t q) ∧ (i = 4 → ∃ t : TE, v = exV t ∧ EX 2 w' t (y : Rat)) ∧ (i = 5 → ∃ t : TE, v = exV t ∧ EX 4 w' t (q * (y : Rat))))
          (fun _ _ _ _ _ h hb => ⟨fun e => by obtain ⟨t, q1, q2⟩ := h.1 e; exact ⟨t, q1, q2.up hb⟩, fun e => by obtain ⟨t, q1, q2⟩ := h.2.1 e; exact ⟨t, q1, q2.up hb⟩, fun e => by obtain ⟨t, q1, q2⟩ := h.2.2 e; exact ⟨t, q1, q2.up hb⟩⟩) ?_
        refine rd_boxN V (by kernel_rfl) rfl ?_
        refine rd_boxN Z (by kernel_rfl) rfl ?_
        refine flc_mk (fun w70 hb _ => call_mono (fromQ w70 hft) fun y w' ⟨hy, hb'⟩ => ⟨hb', fun _ => ⟨y, rfl, hy⟩, fun e => by omega, fun e => by omega⟩) (fun (x52 : TE) => ?_)
        refine flc_mk (fun w80 hb _ => call_mono (wholeF y w80 ⟨by omega, by omega⟩) fun y w' ⟨hy, _, _, hb'⟩ => ⟨hb', fun e => by omega, fun _ => ⟨y, rfl, hy⟩, fun e => by omega⟩) (fun (x57 : TE) => ?_)
        refine flc_mk (fun w85 hb hf => ?_) (fun (x62 : TE) => ?_)
        · obtain ⟨⟨_, g2, _⟩, ⟨g1, _⟩, _⟩ := hf
          obtain ⟨t1, e1, B1⟩ := g1 rfl
          obtain ⟨t2, e2, B2⟩ := g2 rfl
          have e1' := exV_inj (t := x52) e1
          have e2' := exV_inj (t := x57) e2
          subst e1' e2'
          exact call_mono (mulE x52 x57 _ _ 2 2 w85 B1 B2 (by omega) (by omega)) fun y w' ⟨hy, _, _, hb'⟩ => ⟨hb', fun e => by omega, fun e => by omega, fun _ => ⟨y, rfl, hy⟩⟩
        · refine flend_mk fun w90 hb hf => ?_
          obtain ⟨⟨_, _, g⟩, _⟩ := hf
          obtain ⟨t1, e1, B1⟩ := g rfl
          have e1' := exV_inj (t := x62) e1
          subst e1'
          refine call_mono (addE v x62 _ _ L 4 w90 (E.up hb) B1 (by omega) (by omega)) ?_
          rintro (y' : TE) w93 ⟨hy, f1, f2, h4'⟩
          have A' : ApT x y' (rr + q * (y : Rat)) := ApT.fr (V.up hb) f1 f2
          refine wu_box ((V.up hb).up h4') (by kernel_rfl) (Nat.le_refl 3) rfl fun w94 V' hg _ => ?_
          have hbb := ((h3'.trans hb).trans h4')
          exact hKn y' w94 ((hb0.trans hbb).grownAt hg hx) ((grown_of_bel hbb _).trans hg) V' ((hy.grownA A' hg).le (by omega)) (FrT.mono ⟨f1, f2⟩ (h3'.trans hb).size)
      refine one x17 y1 t _ (2 + 5 * i) w35 _ wy1 n17 hw2 V1 Z E1 (by omega) fun t' w67 hw3 hg3 V1' E1' F1 => ?_
      have ne : some x17.block ≠ some x19.block := by intro e; injection e; omega
      have V2' := V2.grown hg3 (fun e => ne e.symm)
      have Z' := Z.grown hg3 (by intro e; injection e; omega)
      have E2' := E2.grownA A21 hg3
      have F1x17 : ApT x19 t' (lowN T M ls hs i + q * (y1 : Rat)) := ApT.fr V2 F1.1 F1.2
      have F1x17' : ApT x17 t' (lowN T M ls hs i + q * (y1 : Rat)) := ApT.fr V1 F1.1 F1.2
      refine one x19 y2 s _ (2 + 5 * i) w67 _ wy2 n19 hw3 V2' Z' E2' (by omega) fun s' w91 hw4 hg4 V2'' E2'' F2 => ?_
      refine hK _ _ ⟨hw4, e4, t', s', V1'.grown hg4 ne, V2'', ?_, ?_, ?_, ?_, ?_, ?_⟩
      · rw [st1]; exact (E1'.grownA F1x17 hg4).le (by omega)
      · rw [st2]; exact E2''.le (by omega)
      · rw [st1]; exact F1x17'
      · rw [st1]; exact F1x17
      · rw [st2]; exact ApT.fr V1' F2.1 F2.2
      · rw [st2]; exact ApT.fr V2' F2.1 F2.2
    · rcases Nat.lt_or_ge j i with q | q
      · exact hq j q a b c1 c2
      · have : j = i := by omega
        subst this
        rw [hla] at c1; cases c1
        rw [hha] at c2; cases c2
        exact hh2
  · dsimp only at e3
    have hi2 : i = up.length := by omega
    subst hi2
    have nok : ¬ ∃ (k : Nat) (a b : Int), ls[k]? = some a ∧ hs[k]? = some b ∧ b < a := by
      rintro ⟨k, a, b, c1, c2, c3⟩
      exact hq k (by have := (List.getElem?_eq_some_iff.1 c1).1; omega) a b c1 c2 c3
    refine drw_mk fun w93 h' _ => ?_
    have hw1 := hw.trans h'
    replace V1 := V1.up h'; replace V2 := V2.up h'; replace E1 := E1.up h'; replace E2 := E2.up h'
    refine flEx_mk (fun i _ v w' => (i = 2 ∨ i = 8 → ∃ t : TE, v = exV t ∧ EX 2 w' t (rhsQ T rt M)) ∧ (i = 3 → v = .int .i64 (cmpq (lowN T M ls hs up.length) (rhsQ T rt M))))
      (fun _ _ _ _ _ h hb => ⟨fun e => by obtain ⟨t, q1, q2⟩ := h.1 e; exact ⟨t, q1, q2.up hb⟩, h.2⟩) ?_
    refine rd_boxN V1 (by kernel_rfl) rfl ?_
    refine rd_boxN (Y.up hw1) (by kernel_rfl) rfl ?_
    refine flc_mk (fun w70 hb _ => call_mono (fromQ w70 hfr) fun y w' ⟨hy, hb'⟩ => ⟨hb', fun _ => ⟨y, rfl, hy⟩, fun e => by omega⟩) (fun (x101 : TE) => ?_)
    refine flc_mk (fun w70 hb hf => ?_) (fun x106 => ?_)
    · obtain ⟨t1, e1, B1⟩ := hf.1.1 (.inl rfl)
      have e1' := exV_inj (t := x101) e1
      subst e1'
      exact call_mono (cmpX t x101 _ _ (2 + 5 * up.length) 2 w70 (E1.up hb) B1 (by omega) (by omega)) fun y w' ⟨hy, hb'⟩ => ⟨hb', fun e => by omega, fun _ => by rw [hy]⟩
    refine br_dec (fun e6 => flend_mk fun w107 hb hf => ?_) (fun e6 => ?_)
    · have := hf.1.2 rfl
      injection this with _ e7
      rw [e7] at e6
      exact ⟨true, rfl, bnd ⟨fun _ => rfl, fun _ => .inr (.inl (cmpq_gt0.1 e6))⟩, h.trans (hw1.trans hb)⟩
    refine rd_boxN V2 (by kernel_rfl) rfl ?_
    refine rd_boxN (Y.up hw1) (by kernel_rfl) rfl ?_
    refine flc_mk (fun w70 hb _ => call_mono (fromQ w70 hfr) fun y w' ⟨hy, hb'⟩ => ⟨hb', fun _ => ⟨y, rfl, hy⟩, fun e => by omega⟩) (fun (x115 : TE) => ?_)
    refine flend_mk fun w116 hb hf => ?_
    obtain ⟨t1, e1, B1⟩ := hf.1.1 (.inr rfl)
    have e1' := exV_inj (t := x115) e1
    subst e1'
    have := hf.2.1.2 rfl
    injection this with _ e7
    rw [e7] at e6
    refine call_mono (cmpX s x115 _ _ (2 + 5 * up.length) 2 w116 (E2.up hb) B1 (by omega) (by omega)) ?_
    rintro x118 w119 ⟨rfl, h4'⟩
    refine ⟨_, rfl, bnd ⟨fun q => ?_, fun q => .inr (.inr (cmpq_lt0.1 (of_decide_eq_true q)))⟩, h.trans ((hw1.trans hb).trans h4')⟩
    rcases q with q | q | q
    · exact absurd q nok
    · exact absurd (cmpq_gt0.2 q) e6
    · exact decide_eq_true (cmpq_lt0.2 q)
end Go.Proofs.Ytajpdnphamomjaa

/- Bounds that contradict a combination: the reference. -/

namespace Go.Proofs.Ytajpdnphamomjaa
open Go.RowKit Go.Q Go.Q.Num Go.V

/-- digits never lie in a variable of a fraction -/
theorem ap_box {B : Nat} {k : IntKind} {w : World} {s : Hd} {y : Nat} {x : Addr} {t' : TE} (hN : NumAt B k w s.1 s.2.1 s.2.2 y) (X : Box w x (boxc t')) : Apart x s y := fun ad ha hy e => by
  obtain ⟨l, hs, hd, hv⟩ := hN
  cases l with
  | nil => exact hy (by rw [← hv]; rfl)
  | cons d l =>
    obtain ⟨ad', h1, h2, _⟩ := hs.at' 0 (.int k (d : Int)) rfl
    rw [ha] at h1; cases h1
    rw [Go.Q.add_zero] at h2
    obtain ⟨T, hT⟩ := X.blk
    unfold World.cell? at h2
    rw [e, hT] at h2
    simp only at h2
    split at h2
    · cases h2
    · generalize ad.off = o at h2
      match o, h2 with
      | 0, h2 => simp at h2
      | 1, h2 => simp at h2
      | 2, h2 => simp at h2
      | o + 3, h2 => simp at h2
theorem ApT.bx {L : Nat} {w : World} {t t' : TE} {r : Rat} {x : Addr} (h : BX L w t r) (X : Box w x (boxc t')) : ApT x t r := ⟨ap_box h.2.1 X, ap_box h.2.2.1 X⟩
/-- a variable of a fraction is written: other fractions stay -/
theorem BX.put {L : Nat} {w w' : World} {t t' : TE} {r : Rat} {x : Addr} (h : BX L w t r) (X : Box w x (boxc t')) (hg : w.grownBy w' (some x.block)) : BX L w' t r := h.grown (ApT.bx h X) hg
abbrev z0 : TE := (false, (none, 0, 0), (none, 0, 0), ())

set_option maxHeartbeats 3200000 in
theorem bnd11 (u r b lo hi m : Hdr) (up : List Int) (T : List (List Int)) (rt ls hs : List Int) (M : List (Int × Int)) (w : World) (H : Sys w u r b up T rt) (HM : Sl w m.1 m.2.1 m.2.2 2 (M.flatMap encF)) (hI : ∀ p ∈ M, I64 p.1 ∧ I64 p.2)
    (HLo : Sl w lo.1 lo.2.1 lo.2.2 1 (ints .i64 ls)) (HHi : Sl w hi.1 hi.2.1 hi.2.2 1 (ints .i64 hs)) :
    call Try.prog 42 [sysv u r b, .slice lo.1 lo.2.1 lo.2.2, .slice hi.1 hi.2.1 hi.2.2, .slice m.1 m.2.1 m.2.2] (.one (.one .bool)) w (fun x w' => (x = true ↔ BndP up T rt ls hs M) ∧ bel w w') := by
  refine call_of (S42_calls u.1 u.2.1 u.2.2 r.1 r.2.1 r.2.2 b.1 b.2.1 b.2.2 lo.1 lo.2.1 lo.2.2 hi.1 hi.2.1 hi.2.2 m.1 m.2.1 m.2.2 w _ ?_)
  unfold S42
  have hu := H.u.int
  have hlo := HLo.int
  have hhi := HHi.int
  have klo := HLo.le
  have no : ∀ {w' : World}, bel w w' → (BndP up T rt ls hs M → False) → ∃ v : Bool, Value.bool false = (RS.one (.one .bool)).val v ∧ (v = true ↔ BndP up T rt ls hs M) ∧ bel w w' := fun hb q => ⟨false, rfl, ⟨fun e => (Bool.noConfusion e), fun s => (q s).elim⟩, hb⟩
  refine wr_box fun x1 w2 X h _ _ => ?_
  replace X : Box w2 x1 (sysc u r b) := X
  replace H := H.up h; replace HM := HM.up h; replace HLo := HLo.up h; replace HHi := HHi.up h
  refine rd_boxN X (by kernel_rfl) rfl ?_
  refine call_mono (combR11 u r b m up T rt M w2 H HM hI) ?_
  rintro (x4 : CT) w5 ⟨⟨q1, _, _⟩, h'⟩
  replace h := h.trans h'; replace X := X.up h'; replace H := H.up h'; replace HM := HM.up h'; replace HLo := HLo.up h'; replace HHi := HHi.up h'; clear h'
  refine boxF fun x6 w8 h2' Y _ => ?_
  replace h := h.trans h2'; replace X := X.up h2'; replace H := H.up h2'; replace HM := HM.up h2'; replace HLo := HLo.up h2'; replace HHi := HHi.up h2'; clear h2'
  refine br_ne (fun e => no h fun s => e (q1.trans s.ok)) (fun e => ?_)
  have hok : combE up T rt M = 0 := q1.symm.trans e
  obtain ⟨ce1, ce2, ce3, hfit, hfr⟩ := combE_ok hok
  have v1 := (sysE_ok ce1).1
  refine rd_box0 (by kernel_rfl) X rfl rfl ?_
  refine br_ne (fun e1 => no h fun s => ?_) (fun e1 => ?_)
  · have := s.llo; dsimp only at e1; omega
  refine rd_box0 (by kernel_rfl) X rfl rfl ?_
  refine br_ne (fun e2 => no h fun s => ?_) (fun e2 => ?_)
  · have := s.lhi; dsimp only at e2; omega
  dsimp only at e1 e2
  have l1 : ls.length = up.length := by omega
  have l3 : hs.length = up.length := by omega
  refine loop_up lo.2.1 (fun i w' => bel w8 w' ∧ (∀ j, j < i → ∀ x, ls[j]? = some x → Win x) ∧ (∀ j, j < i → ∀ x, hs[j]? = some x → Win x)) ⟨bel.refl _, pre_zero, pre_zero⟩ fun i w13 hi' ⟨hw, hq1, hq2⟩ again hag _ => ?_
  refine br_dec (fun e3 => ?_) (fun e3 => ?_)
  · dsimp only at e3
    refine at_int tyI64 (by kernel_rfl) (HLo.up hw) rfl (by omega) fun la hla => ?_
    refine call_mono (withinF la 1000000000 w13 (by omega)) ?_
    rintro _ w17 ⟨rfl, h'⟩
    replace hw := hw.trans h'
    refine br_not (fun e4 => no (h.trans hw) fun s => ?_) (fun e4 => ?_)
    · have := s.wlo la (mem_at hla); simp at e4; omega
    refine at_int tyI64 (by kernel_rfl) (HHi.up hw) rfl (by omega) fun ha hha => ?_
    refine call_mono (withinF ha 1000000000 w17 (by omega)) ?_
    rintro _ w21 ⟨rfl, h'⟩
    replace hw := hw.trans h'
    refine br_not (fun e5 => no (h.trans hw) fun s => ?_) (fun e5 => ?_)
    · have := s.whi ha (mem_at hha); simp at e5; omega
    refine z_i64 (by dsimp only; omega) ?_
    simp only [Bool.and_eq_true, decide_eq_true_eq] at e4 e5
    exact hag _ (by omega) ⟨hw, pre_step hq1 hla e4, pre_step hq2 hha e5⟩
  dsimp only at e3
  have l2 := pre_all hq1 (by omega)
  have l4 := pre_all hq2 (by omega)
  clear hq1 hq2 hag again
  replace h := h.trans hw; replace X := X.up hw; replace H := H.up hw; replace HM := HM.up hw; replace HLo := HLo.up hw; replace HHi := HHi.up hw; clear hw hi' e3
  have bnd : ∀ {x : Bool}, ((∃ (k : Nat) (a b : Int), ls[k]? = some a ∧ hs[k]? = some b ∧ b < a) ∨ rhsQ T rt M < lowN T M ls hs up.length ∨ lowN T M hs ls up.length < rhsQ T rt M ↔ x = true) → (x = true ↔ BndP up T rt ls hs M) := fun q => ⟨fun e => ⟨hok, l1, l3, l2, l4, q.2 e⟩, fun s => q.1 s.out⟩
  refine loop_up lo.2.1 (fun i w' => bel w13 w' ∧ ∀ j, j < i → ∀ a b, ls[j]? = some a → hs[j]? = some b → ¬ b < a) ⟨bel.refl _, fun j q => by omega⟩ fun i w25 hi' ⟨hw, hq⟩ again hag _ => ?_
  refine br_dec (fun e3 => ?_) (fun e3 => ?_)
  · dsimp only at e3
    refine drw_mk fun w26 h' _ => ?_
    replace hw := hw.trans h'
    refine at_int tyI64 (by kernel_rfl) (HLo.up hw) rfl (by omega) fun la hla => ?_
    refine at_int tyI64 (by kernel_rfl) (HHi.up hw) rfl (by omega) fun ha hha => ?_
    refine br_dec (fun e4 => ⟨true, rfl, bnd ⟨fun _ => rfl, fun _ => .inl ⟨i, la, ha, hla, hha, e4⟩⟩, h.trans hw⟩) (fun e4 => ?_)
    refine z_i64 (by dsimp only; omega) ?_
    refine hag _ (by omega) ⟨hw, fun j hj a b c1 c2 => ?_⟩
    rcases Nat.lt_or_ge j i with q | q
    · exact hq j q a b c1 c2
    · have : j = i := by omega
      subst this
      rw [hla] at c1; cases c1
      rw [hha] at c2; cases c2
      exact e4
  dsimp only at e3
  have nok : ¬ ∃ (k : Nat) (a b : Int), ls[k]? = some a ∧ hs[k]? = some b ∧ b < a := by
    rintro ⟨k, a, b, c1, c2, c3⟩
    exact hq k (by have := (List.getElem?_eq_some_iff.1 c1).1; omega) a b c1 c2 c3
  clear hq hag again
  replace h := h.trans hw; replace X := X.up hw; replace H := H.up hw; replace HM := HM.up hw; replace HLo := HLo.up hw; replace HHi := HHi.up hw; clear hw hi' e3
  refine rd_boxN X (by kernel_rfl) rfl ?_
  refine call_mono (comb11 u r b m up T rt M w25 H HM hI) ?_
  rintro (x33 : BT) w34 ⟨⟨_, hR⟩, h'⟩
  obtain ⟨⟨ts, hS, hts, hB⟩, hBr⟩ := hR (preE_0 ce1 ce2 ce3)
  replace h := h.trans h'; replace X := X.up h'; replace H := H.up h'; replace HM := HM.up h'; replace HLo := HLo.up h'; replace HHi := HHi.up h'; clear h'
  refine var_mk (z := .agg #[.bool false, .slice none 0 0, .slice none 0 0]) (by kernel_rfl) (by kernel_rfl) rfl rfl fun x35 w37 V hv _ => ?_
  replace V : Box w37 x35 (boxc x33.2.1) := V
  refine call_mono (wholeX 0 w37 ⟨by omega, by omega⟩) ?_
  rintro (t0 : TE) w39 ⟨hA0, _, _, h'⟩
  have hv2 := hv.trans h'
  replace V := V.up h'
  refine call_mono (wholeX 0 w39 ⟨by omega, by omega⟩) ?_
  rintro (t1 : TE) w41 ⟨hB0, _, _, h'⟩
  replace hA0 := hA0.up h'
  have hv3 := hv2.trans h'
  replace V := V.up h'
  replace hS := hS.up hv3
  replace hB : ∀ (k : Nat) t, ts[k]? = some t → BX 1000 w41 t (colQ T M k) := fun k t q => (hB k t q).up hv3
  replace hBr := hBr.up hv3
  replace h := h.trans hv3; replace X := X.up hv3; replace H := H.up hv3; replace HM := HM.up hv3; replace HLo := HLo.up hv3; replace HHi := HHi.up hv3; clear hv3
  have hln : ts.length = x33.1.2.1 := by
    have := hS.len
    rw [flat_len boxc_len] at this
    omega
  refine var2_mk (z := .agg #[.bool false, .slice none 0 0, .slice none 0 0]) (by kernel_rfl) (by kernel_rfl) (by kernel_rfl) rfl rfl rfl rfl fun x42 x44 w47 V1 V2 h' n42 n44 n4244 => ?_
  replace V1 : Box w47 x42 (boxc t0) := V1
  replace V2 : Box w47 x44 (boxc t1) := V2
  have ne : some x42.block ≠ some x44.block := by intro e; injection e; omega
  refine loop_up x33.1.2.1 (fun i w' => bel w41 w' ∧ ∃ t s : TE, Box w' x42 (boxc t) ∧ Box w' x44 (boxc s) ∧ BX (3 + 1006 * i) w' t (lowN T M ls hs i) ∧ BX (3 + 1006 * i) w' s (lowN T M hs ls i))
    ⟨h', t0, t1, V1, V2, hA0.up h', hB0.up h'⟩ fun i w50 hi' ⟨hw, t, s, V1, V2, E1, E2⟩ again hag _ => ?_
  refine br_dec (fun e3 => ?_) (fun e3 => ?_)
  · dsimp only at e3
    obtain ⟨la, hla⟩ : ∃ la, ls[i]? = some la := ⟨_, List.getElem?_eq_getElem (by omega)⟩
    obtain ⟨ha, hha⟩ : ∃ ha, hs[i]? = some ha := ⟨_, List.getElem?_eq_getElem (by omega)⟩
    obtain ⟨tc, htc⟩ : ∃ tc, ts[i]? = some tc := ⟨_, List.getElem?_eq_getElem (by omega)⟩
    have wla := l2 la (mem_at hla)
    have wha := l4 ha (mem_at hha)
    have hBq := hB i tc htc
    obtain ⟨q, hq0⟩ : ∃ q, q = colQ T M i := ⟨_, rfl⟩
    rw [← hq0] at hBq
    have st1 : lowN T M ls hs (i + 1) = lowN T M ls hs i + q * ((if q < 0 then ha else la : Int) : Rat) := by
      show lowN T M ls hs i + colQ T M i * ((pickB (colQ T M i) ls hs i : Int) : Rat) = _
      rw [pick_at hla hha, hq0]
    have st2 : lowN T M hs ls (i + 1) = lowN T M hs ls i + q * ((if q < 0 then la else ha : Int) : Rat) := by
      show lowN T M hs ls i + colQ T M i * ((pickB (colQ T M i) hs ls i : Int) : Rat) = _
      rw [pick_at hha hla, hq0]
    refine join_mk (fun _ w' => bel w41 w' ∧ ∃ t s : TE, Box w' x42 (boxc t) ∧ Box w' x44 (boxc s) ∧ BX (3 + 1006 * (i + 1)) w' t (lowN T M ls hs (i + 1)) ∧ BX (3 + 1006 * (i + 1)) w' s (lowN T M hs ls (i + 1))) (fun K hK => ?_) (fun _ w' hh _ => z_i64 (by dsimp only; omega) (hag _ (by omega) hh))
    refine drw_mk fun w55 h' _ => ?_
    have hw1 := hw.trans h'
    replace V1 := V1.up h'; replace V2 := V2.up h'; replace E1 := E1.up h'; replace E2 := E2.up h'
    have l42 := V1.lt
    have l44 := V2.lt
    refine flEx_mk (fun i _ v w' => (i = 8 → ∃ t : TE, v = exV t ∧ BX 3 w' t (la : Rat)) ∧ (i = 9 → ∃ t : TE, v = exV t ∧ BX 1004 w' t (q * (la : Rat))) ∧ (i = 18 → ∃ t : TE, v = exV t ∧ BX 3 w' t (ha : Rat)) ∧ (i = 19 → ∃ t : TE, v = exV t ∧ BX 1004 w' t (q * (ha : Rat))) ∧
        (i = 20 ∨ i = 21 → ∃ a : Addr, v = .pointer (some a) ∧ Box w' a (boxc z0) ∧ w55.heap.size ≤ a.block))
      (fun _ _ _ _ _ h hb => ⟨fun e => by obtain ⟨t, q1, q2⟩ := h.1 e; exact ⟨t, q1, q2.up hb⟩, fun e => by obtain ⟨t, q1, q2⟩ := h.2.1 e; exact ⟨t, q1, q2.up hb⟩, fun e => by obtain ⟨t, q1, q2⟩ := h.2.2.1 e; exact ⟨t, q1, q2.up hb⟩, fun e => by obtain ⟨t, q1, q2⟩ := h.2.2.2.1 e; exact ⟨t, q1, q2.up hb⟩, fun e => by obtain ⟨a, q1, q2, q3⟩ := h.2.2.2.2 e; exact ⟨a, q1, q2.up hb, q3⟩⟩) ?_
    refine at_agg tyBigs agBig boxc_len (by omega) (hS.up hw1) rfl htc rfl ?_
    refine at_int tyI64 (by kernel_rfl) (HLo.up hw1) rfl (by omega) fun a' q' => ?_
    rw [hla] at q'; cases q'
    refine flc_mk (fun w61 hb _ => call_mono (wholeX la w61 ⟨by omega, by omega⟩) fun y w' ⟨hy, _, _, hb'⟩ => ⟨hb', fun _ => ⟨y, rfl, hy⟩, fun e => by omega, fun e => by omega, fun e => by omega, fun e => by omega⟩) (fun (x65 : TE) => ?_)
    refine flc_mk (fun w66 hb hf => ?_) (fun (x70 : TE) => ?_)
    · obtain ⟨t1, e1, B1⟩ := hf.1.1 rfl
      have e1' := exV_inj (t := x65) e1
      subst e1'
      exact call_mono (timesX tc x65 _ _ 1000 3 w66 (hBq.up (hw1.trans hb)) B1 (by omega) (by omega)) fun y w' ⟨hy, _, _, hb'⟩ => ⟨hb', fun e => by omega, fun _ => ⟨y, rfl, hy⟩, fun e => by omega, fun e => by omega, fun e => by omega⟩
    refine at_agg tyBigs agBig boxc_len (by omega) (hS.up hw1) rfl htc rfl ?_
    refine at_int tyI64 (by kernel_rfl) (HHi.up hw1) rfl (by omega) fun a' q' => ?_
    rw [hha] at q'; cases q'
    refine flc_mk (fun w75 hb _ => call_mono (wholeX ha w75 ⟨by omega, by omega⟩) fun y w' ⟨hy, _, _, hb'⟩ => ⟨hb', fun e => by omega, fun e => by omega, fun _ => ⟨y, rfl, hy⟩, fun e => by omega, fun e => by omega⟩) (fun (x79 : TE) => ?_)
    refine flc_mk (fun w80 hb hf => ?_) (fun (x84 : TE) => ?_)
    · obtain ⟨t1, e1, B1⟩ := hf.1.2.2.1 rfl
      have e1' := exV_inj (t := x79) e1
      subst e1'
      exact call_mono (timesX tc x79 _ _ 1000 3 w80 (hBq.up (hw1.trans hb)) B1 (by omega) (by omega)) fun y w' ⟨hy, _, _, hb'⟩ => ⟨hb', fun e => by omega, fun e => by omega, fun e => by omega, fun _ => ⟨y, rfl, hy⟩, fun e => by omega⟩
    refine flc_mk (fun w85 hb _ => wr_alloc (z := .agg #[.bool false, .slice none 0 0, .slice none 0 0]) (by kernel_rfl) fun a w' A hb' ha' _ => ⟨hb', fun e => by omega, fun e => by omega, fun e => by omega, fun e => by omega, fun _ => ⟨a, rfl, A, by have := hb.size; omega⟩⟩) (fun x89 => ?_)
    refine flc_mk (fun w90 hb _ => wr_alloc (z := .agg #[.bool false, .slice none 0 0, .slice none 0 0]) (by kernel_rfl) fun a w' A hb' ha' _ => ⟨hb', fun e => by omega, fun e => by omega, fun e => by omega, fun e => by omega, fun _ => ⟨a, rfl, A, by have := hb.size; omega⟩⟩) (fun x94 => ?_)
    refine flend_mk fun w95 hb hf => ?_
    obtain ⟨⟨f21, f20, f19, _, f9, _⟩, hpw⟩ := hf
    obtain ⟨a94, e94, B94, n94⟩ := f21.2.2.2.2 (.inr rfl)
    obtain ⟨a89, e89, B89, n89⟩ := f20.2.2.2.2 (.inl rfl)
    obtain ⟨t84, et84, P84⟩ := f19.2.2.2.1 rfl
    obtain ⟨t70, et70, P70⟩ := f9.2.1 rfl
    have e1 := exV_inj (t := x84) et84
    have e2 := exV_inj (t := x70) et70
    injection e94 with e94
    injection e94 with e94
    injection e89 with e89
    injection e89 with e89
    subst e1 e2 e94 e89
    have hd : some x89.block ≠ some x94.block := by
      intro e
      injection e with e
      have := (List.pairwise_cons.1 hpw).1 (.pointer (some x89)) (List.mem_cons_self ..)
      apply this
      rw [B94.eq, B89.eq, e]
    replace V1 := V1.up hb; replace V2 := V2.up hb; replace E1 := E1.up hb; replace E2 := E2.up hb
    have hw2 := hw1.trans hb
    have l41 : w41.heap.size ≤ w55.heap.size := hw1.size
    have nA : ∀ {x : Addr}, x.block < w55.heap.size → some x.block ≠ some x89.block := fun q e => by injection e; omega
    have nB : ∀ {x : Addr}, x.block < w55.heap.size → some x.block ≠ some x94.block := fun q e => by injection e; omega
    refine wu_box B89 (by kernel_rfl) (Nat.le_refl 3) rfl fun w97 C89 hg _ => ?_
    replace C89 : Box w97 x89 (boxc x70) := C89
    have C94 := B94.grown hg (fun e => hd e.symm)
    have R70 := P70.put B89 hg
    have R84 := P84.put B89 hg
    have W1 := V1.grown hg (nA l42)
    have W2 := V2.grown hg (nA l44)
    have F1 := E1.put B89 hg
    have F2 := E2.put B89 hg
    have hw3 := hw2.grownAt hg (by omega)
    refine wu_box C94 (by kernel_rfl) (Nat.le_refl 3) rfl fun w98 D94 hg2 _ => ?_
    replace D94 : Box w98 x94 (boxc x84) := D94
    have D89 := C89.grown hg2 hd
    replace R70 := R70.put C94 hg2
    replace R84 := R84.put C94 hg2
    replace W1 := W1.grown hg2 (nB l42)
    replace W2 := W2.grown hg2 (nB l44)
    replace F1 := F1.put C94 hg2
    replace F2 := F2.put C94 hg2
    have hw4 := hw3.grownAt hg2 (by omega)
    refine join_mk (fun _ w' => bel w41 w' ∧ Box w' x42 (boxc t) ∧ Box w' x44 (boxc s) ∧ BX (3 + 1006 * i) w' t (lowN T M ls hs i) ∧ BX (3 + 1006 * i) w' s (lowN T M hs ls i) ∧ ∃ ta tb : TE, Box w' x89 (boxc ta) ∧ Box w' x94 (boxc tb) ∧ BX 1004 w' ta (q * ((if q < 0 then ha else la : Int) : Rat)) ∧ BX 1004 w' tb (q * ((if q < 0 then la else ha : Int) : Rat))) (fun K' hK' => ?_) (fun _ w101 hh _ => ?_)
    · refine at_agg tyBigs agBig boxc_len (by omega) (hS.up hw4) rfl htc rfl ?_
      refine call_mono (signX tc q _ w98 (hBq.up hw4) (by omega)) ?_
      rintro _ w122 ⟨rfl, h'⟩
      replace hw4 := hw4.trans h'
      replace D94 := D94.up h'; replace D89 := D89.up h'; replace R70 := R70.up h'; replace R84 := R84.up h'; replace W1 := W1.up h'; replace W2 := W2.up h'; replace F1 := F1.up h'; replace F2 := F2.up h'
      refine br_dec (fun e5 => ?_) (fun e5 => ?_)
      · have qn := rsign_neg.1 e5
        refine rd_boxN D94 (by kernel_rfl) rfl ?_
        refine rd_boxN D89 (by kernel_rfl) rfl ?_
        refine wu_box D89 (by kernel_rfl) (Nat.le_refl 3) rfl fun w125 G89 hg3 _ => ?_
        replace G89 : Box w125 x89 (boxc x84) := G89
        have G94 := D94.grown hg3 (fun e => hd e.symm)
        replace R70 := R70.put D89 hg3
        replace R84 := R84.put D89 hg3
        replace W1 := W1.grown hg3 (nA l42)
        replace W2 := W2.grown hg3 (nA l44)
        replace F1 := F1.put D89 hg3
        replace F2 := F2.put D89 hg3
        have hw5 := hw4.grownAt hg3 (by omega)
        refine wu_box G94 (by kernel_rfl) (Nat.le_refl 3) rfl fun w126 I94 hg4 _ => ?_
        replace I94 : Box w126 x94 (boxc x70) := I94
        refine hK' _ _ ⟨hw5.grownAt hg4 (by omega), W1.grown hg4 (nB l42), W2.grown hg4 (nB l44), F1.put G94 hg4, F2.put G94 hg4, x84, x70, G89.grown hg4 hd, I94, ?_, ?_⟩
        · rw [if_pos qn]; exact R84.put G94 hg4
        · rw [if_pos qn]; exact R70.put G94 hg4
      · have qn : ¬ q < 0 := fun c => e5 (rsign_neg.2 c)
        refine hK' _ _ ⟨hw4, W1, W2, F1, F2, x70, x84, D89, D94, ?_, ?_⟩
        · rw [if_neg qn]; exact R70
        · rw [if_neg qn]; exact R84
    · obtain ⟨hw5, W1, W2, F1, F2, ta, tb, A1, A2, Q1, Q2⟩ := hh
      refine drw_mk fun w102 h' _ => ?_
      replace hw5 := hw5.trans h'
      replace W1 := W1.up h'; replace W2 := W2.up h'; replace F1 := F1.up h'; replace F2 := F2.up h'; replace A1 := A1.up h'; replace A2 := A2.up h'; replace Q1 := Q1.up h'; replace Q2 := Q2.up h'
      refine flEx_mk (fun _ _ v w' => ∃ y : TE, v = exV y ∧ BX (3 + 1006 * (i + 1)) w' y (lowN T M ls hs (i + 1))) (fun _ _ _ _ _ ⟨y, q1, q2⟩ hb => ⟨y, q1, q2.up hb⟩) ?_
      refine rd_boxN W1 (by kernel_rfl) rfl ?_
      refine rd_boxN A1 (by kernel_rfl) rfl ?_
      refine flc_mk (fun w106 hb _ => call_mono (plusX t ta _ _ (3 + 1006 * i) 1004 w106 (F1.up hb) (Q1.up hb) (by omega) (by omega)) fun y w' ⟨hy, _, _, hb'⟩ => ⟨hb', y, rfl, by rw [st1]; exact BX.le hy (by omega)⟩) (fun (x110 : TE) => ?_)
      refine rd_boxN W2 (by kernel_rfl) rfl ?_
      refine rd_boxN A2 (by kernel_rfl) rfl ?_
      refine flend_mk fun w113 hb hf => ?_
      obtain ⟨⟨y, ey, By⟩, _⟩ := hf
      have ey' := exV_inj (t := x110) ey
      subst ey'
      refine call_mono (plusX s tb _ _ (3 + 1006 * i) 1004 w113 (F2.up hb) (Q2.up hb) (by omega) (by omega)) ?_
      rintro (x115 : TE) w116 ⟨hy, _, _, h2'⟩
      have hy2 : BX (3 + 1006 * (i + 1)) w116 x115 (lowN T M hs ls (i + 1)) := by rw [st2]; exact BX.le hy (by omega)
      replace By := By.up h2'
      have hw6 := (hw5.trans hb).trans h2'
      replace W1 := (W1.up hb).up h2'; replace W2 := (W2.up hb).up h2'
      refine wu_box W1 (by kernel_rfl) (Nat.le_refl 3) rfl fun w117 U1 hg _ => ?_
      replace U1 : Box w117 x42 (boxc x110) := U1
      have U2 := W2.grown hg (fun e => ne e.symm)
      have By2 := By.put W1 hg
      have hy3 := hy2.put W1 hg
      have hw7 := hw6.grownAt hg n42
      refine wu_box U2 (by kernel_rfl) (Nat.le_refl 3) rfl fun w118 T2 hg2 _ => ?_
      exact hK _ _ ⟨hw7.grownAt hg2 n44, x110, x115, U1.grown hg2 ne, T2, By2.put U2 hg2, hy3.put U2 hg2⟩
  · dsimp only at e3
    have hi2 : i = up.length := by omega
    subst hi2
    refine rd_boxN (V.up hw) (by kernel_rfl) rfl ?_
    refine rd_boxN V1 (by kernel_rfl) rfl ?_
    refine call_mono (lessX x33.2.1 t _ _ 1000 (3 + 1006 * up.length) w50 (hBr.up hw) E1 (by omega) (by omega)) ?_
    rintro _ w130 ⟨rfl, h'⟩
    replace V1 := V1.up h'; replace V2 := V2.up h'; replace E1 := E1.up h'; replace E2 := E2.up h'
    have hw1 := hw.trans h'
    refine br_dec (fun e5 => ⟨true, rfl, bnd ⟨fun _ => rfl, fun _ => .inr (.inl (less_iff.1 e5))⟩, h.trans hw1⟩) (fun e5 => ?_)
    refine rd_boxN V2 (by kernel_rfl) rfl ?_
    refine rd_boxN (V.up hw1) (by kernel_rfl) rfl ?_
    refine call_mono (lessX s x33.2.1 _ _ (3 + 1006 * up.length) 1000 w130 E2 (hBr.up hw1) (by omega) (by omega)) ?_
    rintro _ w134 ⟨rfl, h'⟩
    refine ⟨_, rfl, bnd ⟨fun q => ?_, fun q => .inr (.inr (less_iff.1 (of_decide_eq_true q)))⟩, h.trans (hw1.trans h')⟩
    rcases q with q | q | q
    · exact absurd q nok
    · exact absurd (less_iff.2 q) e5
    · exact decide_eq_true (less_iff.2 q)
end Go.Proofs.Ytajpdnphamomjaa

/- The walk of LinearRaw. -/

namespace Go.Proofs.Ytajpdnphamomjaa
open Go.RowKit Go.Q Go.Q.Num Go.V

theorem CombR.same {up : List Int} {T : List (List Int)} {rt : List Int} {M : List (Int × Int)} {x y : CT} {w : World} (h : CombR up T rt M x w) (h' : CombR up T rt M y w) :
    x.2.1 = y.2.1 ∧ x.2.2.1 = y.2.2.1 ∧ ∃ L : List (Int × Int), Sl w x.1.1 x.1.2.1 x.1.2.2 2 (L.flatMap encF) ∧ Sl w y.1.1 y.1.2.1 y.1.2.2 2 (L.flatMap encF) := by
  obtain ⟨h1, h2, h3⟩ := h
  obtain ⟨g1, g2, g3⟩ := h'
  by_cases e : combE up T rt M = 0
  · obtain ⟨a, b⟩ := h2 e
    obtain ⟨c, d⟩ := g2 e
    exact ⟨by rw [b, d], by rw [h1, g1], _, a, c⟩
  · obtain ⟨a, b⟩ := h3 e
    obtain ⟨c, d⟩ := g3 e
    refine ⟨by rw [b, d], by rw [h1, g1], [], ?_, ?_⟩
    · rw [a]; exact Sl.nil _ _
    · rw [c]; exact Sl.nil _ _
theorem litF {n d : Int} {w : World} {k : Hdr → World → Prop} (hk : ∀ (x : Hdr) w', bel w w' → Sl w' x.1 x.2.1 x.2.2 2 (([(n, d)] : List (Int × Int)).flatMap encF) → k x w') : wr Try.prog (Instr.buildSlice 33 1 #[(0, .agg #[.int .i64 n, .int .i64 d])]) (.one .slice) w k :=
  wr_lit tyFracs #[.int .i64 n, .int .i64 d] (fill_one 2 (.agg #[.int .i64 n, .int .i64 d]) _ rfl (by simp)) (by omega) (by omega) rfl (by unfold maxLen; omega) fun ad w' O hb _ _ => hk (some ad, 1, 1) w' hb (O w.heap.size (Nat.le_refl _)).sl
theorem frac12 : IsFrac 1 2 := ⟨by omega, by omega, by omega, by omega, rfl⟩
theorem lat_ex : LatP [1] [[2]] [1] [(1, 2)] := by
  have c : colQ [[2]] [(1, 2)] 0 = 1 := by
    show (0 : Rat) + ratv 1 2 * ((2 : Int) : Rat) = 1
    kernel_rfl
  have d : rhsQ [[2]] [1] [(1, 2)] = mkRat 1 2 := by
    show (0 : Rat) + ratv 1 2 * ((1 : Int) : Rat) = mkRat 1 2
    kernel_rfl
  have e : sysE [1] [[2]] [1] = 0 := sysE_0 (by simp) (by simp) ⟨by simp, by simp, by simp⟩ ⟨rfl, by simp⟩
  refine ⟨combE_0 e rfl (fun p hp => ?_) ⟨fun k hk => ?_, ?_⟩, fun p hp => ?_, ?_⟩
  · simp at hp; subst hp; exact frac12
  · have : k = 0 := by simp at hk; omega
    subst this
    rw [c]; exact ⟨by decide, by decide, by decide⟩
  · rw [d]; exact ⟨by decide, by decide, by decide⟩
  · have : cols [1] [[2]] [(1, 2)] 1 = [fpair (colQ [[2]] [(1, 2)] 0)] := rfl
    have hp' : p ∈ cols [1] [[2]] [(1, 2)] 1 := hp
    rw [this, c] at hp'
    simp at hp'
    subst hp'
    rfl
  · rw [d]; decide

set_option maxHeartbeats 1600000 in
theorem linRaw (u r b m lo hi : Hdr) (up : List Int) (T : List (List Int)) (rt ls hs : List Int) (M : List (Int × Int)) (w : World) (H : Sys w u r b up T rt) (HM : Sl w m.1 m.2.1 m.2.2 2 (M.flatMap encF)) (hI : ∀ p ∈ M, I64 p.1 ∧ I64 p.2)
    (HLo : Sl w lo.1 lo.2.1 lo.2.2 1 (ints .i64 ls)) (HHi : Sl w hi.1 hi.2.1 hi.2.2 1 (ints .i64 hs)) :
    Calls Try.prog 9 #[sysv u r b, .slice m.1 m.2.1 m.2.2, .slice lo.1 lo.2.1 lo.2.2, .slice hi.1 hi.2.1 hi.2.2] w (fun e w' => e = .returned (.bool true) ∧ Below w.heap.size w w') := by
  refine Calls.mono (S9_calls u.1 u.2.1 u.2.2 r.1 r.2.1 r.2.2 b.1 b.2.1 b.2.2 m.1 m.2.1 m.2.2 lo.1 lo.2.1 lo.2.2 hi.1 hi.2.1 hi.2.2 w (fun v w' => v = .bool true ∧ bel w w') ?_) (by rintro e w' ⟨v, rfl, rfl, hb⟩; exact ⟨rfl, hb⟩)
  unfold S9
  refine wr_box fun x1 w2 X h _ _ => ?_
  replace X : Box w2 x1 (sysc u r b) := X
  replace H := H.up h; replace HM := HM.up h; replace HLo := HLo.up h; replace HHi := HHi.up h
  refine rd_boxN X (by kernel_rfl) rfl ?_
  refine call_mono (fewS u r b up T rt w2 H) ?_
  rintro x4 w5 ⟨_, h'⟩
  replace h := h.trans h'; replace X := X.up h'; replace H := H.up h'; replace HM := HM.up h'; replace HLo := HLo.up h'; replace HHi := HHi.up h'; clear h'
  refine br_not (fun _ => ⟨rfl, h⟩) (fun _ => ?_)
  refine br_dec (fun _ => ⟨rfl, h⟩) (fun _ => ?_)
  refine br_dec (fun _ => ⟨rfl, h⟩) (fun _ => ?_)
  refine br_dec (fun _ => ⟨rfl, h⟩) (fun _ => ?_)
  refine rd_boxN X (by kernel_rfl) rfl ?_
  refine call_mono (combL u r b m up T rt M w5 H HM hI) ?_
  rintro (x7 : CT) w8 ⟨C1, h'⟩
  replace h := h.trans h'; replace X := X.up h'; replace H := H.up h'; replace HM := HM.up h'; replace HLo := HLo.up h'; replace HHi := HHi.up h'; clear h'
  refine boxF fun x9 w11 h' Y _ => ?_
  replace C1 := C1.up h'
  replace h := h.trans h'; replace X := X.up h'; replace H := H.up h'; replace HM := HM.up h'; replace HLo := HLo.up h'; replace HHi := HHi.up h'; clear h'
  refine rd_boxN X (by kernel_rfl) rfl ?_
  refine call_mono (combR11 u r b m up T rt M w11 H HM hI) ?_
  rintro (x13 : CT) w14 ⟨C2, h'⟩
  replace C1 := C1.up h'
  replace h := h.trans h'; replace X := X.up h'; replace H := H.up h'; replace HM := HM.up h'; replace HLo := HLo.up h'; replace HHi := HHi.up h'; replace Y := Y.up h'; clear h'
  refine boxF fun x15 w17 h' Z _ => ?_
  replace C1 := C1.up h'; replace C2 := C2.up h'
  replace h := h.trans h'; replace X := X.up h'; replace H := H.up h'; replace HM := HM.up h'; replace HLo := HLo.up h'; replace HHi := HHi.up h'; replace Y := Y.up h'; clear h'
  refine drw_mk fun w18 h' _ => ?_
  replace C1 := C1.up h'; replace C2 := C2.up h'
  replace h := h.trans h'; replace X := X.up h'; replace H := H.up h'; replace HM := HM.up h'; replace HLo := HLo.up h'; replace HHi := HHi.up h'; replace Y := Y.up h'; replace Z := Z.up h'; clear h'
  obtain ⟨s1, s2, L, L1, L2⟩ := C1.same C2
  refine flEx_mk (fun i _ v w' => (i = 2 → v = .bool true) ∧ (i = 18 ∨ i = 23 → ∃ c, v = .bool c ∧ (c = true ↔ BndP up T rt ls hs M)) ∧ (i = 29 ∨ i = 32 → ∃ c, v = .bool c ∧ (c = true ↔ LatP up T rt M)) ∧ (i = 36 ∨ i = 39 → ∃ h : Hdr, v = hv h ∧ Sl w' h.1 h.2.1 h.2.2 1 (ints .i64 [1])) ∧ (i = 37 → ∃ h : Hdr, v = hv h ∧ Sl w' h.1 h.2.1 h.2.2 1 (ints .i64 [2])) ∧
      (i = 38 → ∃ h : Hdr, v = hv h ∧ TabI .i64 w' h [[2]]) ∧ (i = 42 → ∃ h : Hdr, v = hv h ∧ Sl w' h.1 h.2.1 h.2.2 2 (([(1, 2)] : List (Int × Int)).flatMap encF)))
    (fun _ _ _ _ _ h hb => ⟨h.1, h.2.1, h.2.2.1, fun e => by obtain ⟨t, q1, q2⟩ := h.2.2.2.1 e; exact ⟨t, q1, q2.kept hb⟩, fun e => by obtain ⟨t, q1, q2⟩ := h.2.2.2.2.1 e; exact ⟨t, q1, q2.kept hb⟩, fun e => by obtain ⟨t, q1, q2⟩ := h.2.2.2.2.2.1 e; exact ⟨t, q1, q2.up hb⟩, fun e => by obtain ⟨t, q1, q2⟩ := h.2.2.2.2.2.2 e; exact ⟨t, q1, q2.kept hb⟩⟩) ?_
  refine flc_mk (fun w20 hb _ => call_mono (sameF x7.1 x13.1 L w20 (L1.up hb) (L2.up hb)) fun y w' ⟨hy, hb'⟩ => ⟨hb', fun _ => by rw [hy], fun e => by omega, fun e => by omega, fun e => by omega, fun e => by omega, fun e => by omega, fun e => by omega⟩) (fun x24 => ?_)
  have tr : ∀ {c : Bool} {P : Prop}, Value.bool c = .bool true → c = false → P := fun a b => by injection a with a; rw [a] at b; cases b
  refine br_mk (fun e1 => ?_) (fun e1 => flend_mk fun w89 hb hf => tr (hf.1.1 rfl) e1)
  refine rd_boxN Y (by kernel_rfl) rfl ?_
  rw [s1] at *
  refine rd_boxN Z (by kernel_rfl) rfl ?_
  refine rd_eq_same ?_
  refine br_t rfl ?_
  refine br_t (by rw [s2]; simp) ?_
  refine rd_boxN X (by kernel_rfl) rfl ?_
  refine flc_mk (fun w29 hb _ => call_mono (bndL u r b lo hi m up T rt ls hs M w29 (H.up hb) (HM.up hb) hI (HLo.up hb) (HHi.up hb)) fun y w' ⟨hy, hb'⟩ => ⟨hb', fun e => by omega, fun _ => ⟨y, rfl, hy⟩, fun e => by omega, fun e => by omega, fun e => by omega, fun e => by omega, fun e => by omega⟩) (fun x33 => ?_)
  refine rd_boxN X (by kernel_rfl) rfl ?_
  refine flc_mk (fun w35 hb _ => call_mono (bnd11 u r b lo hi m up T rt ls hs M w35 (H.up hb) (HM.up hb) hI (HLo.up hb) (HHi.up hb)) fun y w' ⟨hy, hb'⟩ => ⟨hb', fun e => by omega, fun _ => ⟨y, rfl, hy⟩, fun e => by omega, fun e => by omega, fun e => by omega, fun e => by omega, fun e => by omega⟩) (fun x39 => ?_)
  have same : ∀ {P Q : Prop} {a c : Bool}, (∃ d, Value.bool a = .bool d ∧ (d = true ↔ P)) → (∃ d, Value.bool c = .bool d ∧ (d = true ↔ P)) → (a == c) = false → Q := by
    rintro P Q a c ⟨d, hd, hd2⟩ ⟨e, he, he2⟩ hne
    injection hd with hd; injection he with he
    subst hd he
    have := iff_eq hd2 he2
    subst this
    cases a <;> cases hne
  refine br_mk (fun e2 => ?_) (fun e2 => flend_mk fun w83 hb hf => same (hf.2.1.2.1 (.inl rfl)) (hf.1.2.1 (.inr rfl)) e2)
  refine rd_boxN X (by kernel_rfl) rfl ?_
  refine flc_mk (fun w41 hb _ => call_mono (latL u r b m up T rt M w41 (H.up hb) (HM.up hb) hI) fun y w' ⟨hy, hb'⟩ => ⟨hb', fun e => by omega, fun e => by omega, fun _ => ⟨y, rfl, hy⟩, fun e => by omega, fun e => by omega, fun e => by omega, fun e => by omega⟩) (fun x45 => ?_)
  refine rd_boxN X (by kernel_rfl) rfl ?_
  refine flc_mk (fun w47 hb _ => call_mono (lat11 u r b m up T rt M w47 (H.up hb) (HM.up hb) hI) fun y w' ⟨hy, hb'⟩ => ⟨hb', fun e => by omega, fun e => by omega, fun _ => ⟨y, rfl, hy⟩, fun e => by omega, fun e => by omega, fun e => by omega, fun e => by omega⟩) (fun x51 => ?_)
  refine br_mk (fun e3 => ?_) (fun e3 => flend_mk fun w81 hb hf => same (hf.2.1.2.2.1 (.inl rfl)) (hf.1.2.2.1 (.inr rfl)) e3)
  refine flc_mk (fun w52 hb _ => litI fun y w' hb' hS => ⟨hb', fun e => by omega, fun e => by omega, fun e => by omega, fun _ => ⟨y, rfl, hS⟩, fun e => by omega, fun e => by omega, fun e => by omega⟩) (fun (x56 : Hdr) => ?_)
  refine flc_mk (fun w57 hb _ => litI fun y w' hb' hS => ⟨hb', fun e => by omega, fun e => by omega, fun e => by omega, fun e => by omega, fun _ => ⟨y, rfl, hS⟩, fun e => by omega, fun e => by omega⟩) (fun (x61 : Hdr) => ?_)
  refine flc_mk (fun w62 hb hf => ?_) (fun (x66 : Hdr) => ?_)
  · obtain ⟨y, hy, hS⟩ := hf.1.2.2.2.2.1 rfl
    have := sl_inj hy
    subst this
    exact litT hS fun y w' hb' hT => ⟨hb', fun e => by omega, fun e => by omega, fun e => by omega, fun e => by omega, fun e => by omega, fun _ => ⟨y, rfl, hT⟩, fun e => by omega⟩
  refine flc_mk (fun w67 hb _ => litI fun y w' hb' hS => ⟨hb', fun e => by omega, fun e => by omega, fun e => by omega, fun _ => ⟨y, rfl, hS⟩, fun e => by omega, fun e => by omega, fun e => by omega⟩) (fun (x71 : Hdr) => ?_)
  refine flc_mk (fun w72 hb _ => litF fun y w' hb' hS => ⟨hb', fun e => by omega, fun e => by omega, fun e => by omega, fun e => by omega, fun e => by omega, fun e => by omega, fun _ => ⟨y, rfl, hS⟩⟩) (fun (x76 : Hdr) => ?_)
  refine flend_mk fun w77 hb hf => ?_
  obtain ⟨f42, f39, f38, _, f36, _⟩ := hf
  obtain ⟨a1, e1, S1⟩ := f42.2.2.2.2.2.2 rfl
  obtain ⟨a2, e2, S2⟩ := f39.2.2.2.1 (.inr rfl)
  obtain ⟨a3, e3, S3⟩ := f38.2.2.2.2.2.1 rfl
  obtain ⟨a4, e4, S4⟩ := f36.2.2.2.1 (.inl rfl)
  have q1 := sl_inj e1
  have q2 := sl_inj e2
  have q3 := sl_inj e3
  have q4 := sl_inj e4
  subst q1 q2 q3 q4
  refine call_mono (latL x56 x66 x71 x76 [1] [[2]] [1] [(1, 2)] w77 ⟨S4, S3, S2⟩ S1 (fun p hp => by simp at hp; subst hp; exact ⟨⟨by decide, by decide⟩, ⟨by decide, by decide⟩⟩)) ?_
  rintro x79 w80 ⟨hx, h'⟩
  exact ⟨by rw [hx.2 lat_ex], (h.trans hb).trans h'⟩
end Go.Proofs.Ytajpdnphamomjaa

/- The conditions of functions, printed by our tool; each is checked against the code by the kernel. -/



namespace Go.Proofs
open Go Go.V Go.RowKit
/-- (*querylab/querylabmade.Tape).Next -/
def S35 (t_ : (Option Addr)) (n_ : Int) (w0 : World) (R : Value → World → Prop) : Prop :=
 br (decide (n_ < 1)) (R (.int .i64 0) w0)
 (join (T := (Int × Unit)) (fun (s2 : (Int × Unit)) w3 => ∀ _ : Nat → Value,
 nn t_ fun (a4 : Addr) =>
 rd Try.prog (Instr.loadAt 3 (.pointer (some (Addr.add a4 1)))) (.one (.int .i64)) w3 fun (x5 : Int) =>
 z (IntKind.wrap .i64 (x5 + 1)) fun (z6 : Int) =>
 nn t_ fun (a7 : Addr) =>
 wu Try.prog (Instr.storeAt 3 (.pointer (some (Addr.add a7 1))) (.int .i64 z6)) w3 fun (w8 : World) =>
 R (.int .i64 s2.1) w8)
  fun (K1 : (Int × Unit) → World → Prop) =>
 drw w0 fun w9 =>
 nn t_ fun (a10 : Addr) =>
 rd Try.prog (Instr.loadAt 3 (.pointer (some (Addr.add a10 1)))) (.one (.int .i64)) w9 fun (x11 : Int) =>
 nn t_ fun (a12 : Addr) =>
 rd Try.prog (Instr.loadAt 47 (.pointer (some a12))) (.one .slice) w9 fun (x13 : (Option Addr × Nat × Nat)) =>
 br (decide (x11 < ((x13.2.1 : Nat) : Int))) (drw w9 fun w14 =>
 nn t_ fun (a15 : Addr) =>
 rd Try.prog (Instr.loadAt 47 (.pointer (some a15))) (.one .slice) w14 fun (x16 : (Option Addr × Nat × Nat)) =>
 nn t_ fun (a17 : Addr) =>
 rd Try.prog (Instr.loadAt 3 (.pointer (some (Addr.add a17 1)))) (.one (.int .i64)) w14 fun (x18 : Int) =>
 rdp Try.prog (Instr.indexAt 47 (.slice x16.1 x16.2.1 x16.2.2) (.int .i64 x18)) (.one .addr) fun (x19 : Addr) =>
 rd Try.prog (Instr.loadAt 3 (.pointer (some x19))) (.one (.int .i64)) w14 fun (x20 : Int) =>
 rdp Try.prog (cmpS .rem 3 (.tmp 27) (.tmp 28) (.int .i64 x20) (.int .i64 n_)) (.one (.int .i64)) fun (x21 : Int) =>
 br (decide (x21 < 0)) (z (IntKind.wrap .i64 (x21 + n_)) fun (z22 : Int) =>
 K1 (z22, ()) w14)
 (K1 (x21, ()) w14))
 (K1 (0, ()) w9))
def H35 : Hints := ⟨[(0, 17, [(5, (.one (.int .i64)))])], [(4, 9), (5, 11)], [], []⟩
set_option maxRecDepth 100000 in
theorem S35_eq (t_ : (Option Addr)) (n_ : Int) (w0 : World) (R : Value → World → Prop) : vcFn Try.prog H35 Try.f35 [(.pointer t_), (.int .i64 n_)] w0 R = S35 t_ n_ w0 R := by kernel_rfl
set_option maxRecDepth 100000 in
theorem S35_calls (t_ : (Option Addr)) (n_ : Int) (w0 : World) (R : Value → World → Prop) (h : S35 t_ n_ w0 R) : Calls Try.prog 35 #[(.pointer t_), (.int .i64 n_)] w0 (ret R) := by
  rw [← S35_eq] at h; exact vcFn_sound follows_ Try.func35 h

/-- querylab/querylabmade.System -/
def S34 (t_ : (Option Addr)) (vars_ : Int) (rows_ : Int) (most_ : Int) (w0 : World) (R : Value → World → Prop) : Prop :=
 wr Try.prog (Instr.alloc 43 true (.tuple #[])) (.one .addr) w0 fun (x1 : Addr) (w2 : World) =>
 wr Try.prog (Instr.alloc 43 true (.tuple #[])) (.one .addr) w2 fun (x3 : Addr) (w4 : World) =>
 call Try.prog 35 [(.pointer t_), (.int .i64 vars_)] (.one (.one (.int .i64))) w4 fun (x5 : Int) (w6 : World) =>
 z (IntKind.wrap .i64 (1 + x5)) fun (z7 : Int) =>
 loop (T := (Int × Unit)) (0, ()) w6 fun (again8 : (Int × Unit) → World → Prop) (s9 : (Int × Unit)) w10 => ∀ _ : Nat → Value,
 br (decide (s9.1 < z7)) (drw w10 fun w11 => flExC w11 fun E14 G13 Y12 F15 =>
 rdE Try.prog E14 (Instr.loadAt 40 (.pointer (some x3))) (.one .slice) w11 fun (x16 : (Option Addr × Nat × Nat)) =>
 z (IntKind.wrap .i64 (most_ + 1)) fun (z17 : Int) =>
 flcC Y12 5 E14 w11 (fun _w19 => True) (fun (D20 : Nat → Bool) (w18 : World) =>
   call Try.prog 35 [(.pointer t_), (.int .i64 z17)] (.one (.one (.int .i64))) w18 fun (x21 : Int) (w22 : World) =>
 (E14 w18 w22 ∧ G13 5 w18 w22 ∧ Y12 (setD D20 5) w22 ∧ F15 5 [(.pointer t_), (.int .i64 z17)] (.int .i64 x21) w22))
  fun (x23 : Int) =>
 flcC Y12 6 E14 w11 (fun w25 => F15 5 [(.pointer t_), (.int .i64 z17)] (.int .i64 x23) w25 ∧ True) (fun (D26 : Nat → Bool) (w24 : World) =>
   wr Try.prog (Instr.buildSlice 40 1 #[(0, (.int .i64 x23))]) (.one .slice) w24 fun (x27 : (Option Addr × Nat × Nat)) (w28 : World) =>
 (E14 w24 w28 ∧ G13 6 w24 w28 ∧ Y12 (setD D26 6) w28 ∧ F15 6 [] (.slice x27.1 x27.2.1 x27.2.2) w28))
  fun (x29 : (Option Addr × Nat × Nat)) =>
 flendC Y12 [6, 5] E14 w11 (fun w31 => F15 6 [] (.slice x29.1 x29.2.1 x29.2.2) w31 ∧ F15 5 [(.pointer t_), (.int .i64 z17)] (.int .i64 x23) w31 ∧ True) fun w30 =>
 wr Try.prog (Builtin.append_ #[40, 40] 40 #[(.slice x16.1 x16.2.1 x16.2.2), (.slice x29.1 x29.2.1 x29.2.2)]) (.one .slice) w30 fun (x32 : (Option Addr × Nat × Nat)) (w33 : World) =>
 wu Try.prog (Instr.storeAt 40 (.pointer (some x3)) (.slice x32.1 x32.2.1 x32.2.2)) w33 fun (w34 : World) =>
 z (IntKind.wrap .i64 (s9.1 + 1)) fun (z35 : Int) =>
 again8 (z35, ()) w34)
 (wr Try.prog (Instr.makeSlice 40 (.int .i64 z7) (.int .i64 z7)) (.one .slice) w10 fun (x36 : (Option Addr × Nat × Nat)) (w37 : World) =>
 loop (T := (Int × Unit)) (0, ()) w37 fun (again38 : (Int × Unit) → World → Prop) (s39 : (Int × Unit)) w40 => ∀ _ : Nat → Value,
 br (decide (s39.1 < z7)) (rd Try.prog (Instr.loadAt 40 (.pointer (some x3))) (.one .slice) w40 fun (x41 : (Option Addr × Nat × Nat)) =>
 rdp Try.prog (Instr.indexAt 40 (.slice x41.1 x41.2.1 x41.2.2) (.int .i64 s39.1)) (.one .addr) fun (x42 : Addr) =>
 rd Try.prog (Instr.loadAt 2 (.pointer (some x42))) (.one (.int .i64)) w40 fun (x43 : Int) =>
 z (IntKind.wrap .i64 (x43 + 1)) fun (z44 : Int) =>
 call Try.prog 35 [(.pointer t_), (.int .i64 z44)] (.one (.one (.int .i64))) w40 fun (x45 : Int) (w46 : World) =>
 rdp Try.prog (Instr.indexAt 40 (.slice x36.1 x36.2.1 x36.2.2) (.int .i64 s39.1)) (.one .addr) fun (x47 : Addr) =>
 wu Try.prog (Instr.storeAt 2 (.pointer (some x47)) (.int .i64 x45)) w46 fun (w48 : World) =>
 z (IntKind.wrap .i64 (s39.1 + 1)) fun (z49 : Int) =>
 again38 (z49, ()) w48)
 (call Try.prog 35 [(.pointer t_), (.int .i64 2)] (.one (.one (.int .i64))) w40 fun (x50 : Int) (w51 : World) =>
 z (IntKind.wrap .i64 (rows_ + 1)) fun (z52 : Int) =>
 call Try.prog 35 [(.pointer t_), (.int .i64 z52)] (.one (.one (.int .i64))) w51 fun (x53 : Int) (w54 : World) =>
 loop (T := (Int × Unit)) (x53, ()) w54 fun (again55 : (Int × Unit) → World → Prop) (s56 : (Int × Unit)) w57 => ∀ _ : Nat → Value,
 br (decide (s56.1 > 0)) (join (T := (Unit)) (fun (_s59 : (Unit)) w60 => ∀ _ : Nat → Value,
 z (IntKind.wrap .i64 (s56.1 - 1)) fun (z61 : Int) =>
 again55 (z61, ()) w60)
  fun (K58 : (Unit) → World → Prop) =>
 loop (T := ((Option Addr × Nat × Nat) × Int × Int × Unit)) ((none, 0, 0), 0, 0, ()) w57 fun (again62 : ((Option Addr × Nat × Nat) × Int × Int × Unit) → World → Prop) (s63 : ((Option Addr × Nat × Nat) × Int × Int × Unit)) w64 => ∀ _ : Nat → Value,
 br (decide (s63.2.2.1 < z7)) (call Try.prog 35 [(.pointer t_), (.int .i64 11)] (.one (.one (.int .i64))) w64 fun (x65 : Int) (w66 : World) =>
 z (IntKind.wrap .i64 (x65 - 5)) fun (z67 : Int) =>
 wr Try.prog (Instr.buildSlice 40 1 #[(0, (.int .i64 z67))]) (.one .slice) w66 fun (x68 : (Option Addr × Nat × Nat)) (w69 : World) =>
 wr Try.prog (Builtin.append_ #[40, 40] 40 #[(.slice s63.1.1 s63.1.2.1 s63.1.2.2), (.slice x68.1 x68.2.1 x68.2.2)]) (.one .slice) w69 fun (x70 : (Option Addr × Nat × Nat)) (w71 : World) =>
 rdp Try.prog (Instr.indexAt 40 (.slice x36.1 x36.2.1 x36.2.2) (.int .i64 s63.2.2.1)) (.one .addr) fun (x72 : Addr) =>
 rd Try.prog (Instr.loadAt 2 (.pointer (some x72))) (.one (.int .i64)) w71 fun (x73 : Int) =>
 z (IntKind.wrap .i64 (z67 * x73)) fun (z74 : Int) =>
 z (IntKind.wrap .i64 (s63.2.1 + z74)) fun (z75 : Int) =>
 z (IntKind.wrap .i64 (s63.2.2.1 + 1)) fun (z76 : Int) =>
 again62 ((x70.1, x70.2.1, x70.2.2), z75, z76, ()) w71)
 (join (T := (Int × Unit)) (fun (s78 : (Int × Unit)) w79 => ∀ _ : Nat → Value,
 drw w79 fun w80 => flExC w80 fun E83 G82 Y81 F84 =>
 rdE Try.prog E83 (Instr.loadAt 41 (.pointer (some (Addr.add x3 1)))) (.one .slice) w80 fun (x85 : (Option Addr × Nat × Nat)) =>
 flcC Y81 3 E83 w80 (fun _w87 => True) (fun (D88 : Nat → Bool) (w86 : World) =>
   wr Try.prog (Instr.buildSlice 41 1 #[(0, (.slice s63.1.1 s63.1.2.1 s63.1.2.2))]) (.one .slice) w86 fun (x89 : (Option Addr × Nat × Nat)) (w90 : World) =>
 (E83 w86 w90 ∧ G82 3 w86 w90 ∧ Y81 (setD D88 3) w90 ∧ F84 3 [] (.slice x89.1 x89.2.1 x89.2.2) w90))
  fun (x91 : (Option Addr × Nat × Nat)) =>
 flcC Y81 4 E83 w80 (fun w93 => F84 3 [] (.slice x91.1 x91.2.1 x91.2.2) w93 ∧ True) (fun (D94 : Nat → Bool) (w92 : World) =>
   wr Try.prog (Builtin.append_ #[41, 41] 41 #[(.slice x85.1 x85.2.1 x85.2.2), (.slice x91.1 x91.2.1 x91.2.2)]) (.one .slice) w92 fun (x95 : (Option Addr × Nat × Nat)) (w96 : World) =>
 (E83 w92 w96 ∧ G82 4 w92 w96 ∧ Y81 (setD D94 4) w96 ∧ F84 4 [(.slice x85.1 x85.2.1 x85.2.2), (.slice x91.1 x91.2.1 x91.2.2)] (.slice x95.1 x95.2.1 x95.2.2) w96))
  fun (x97 : (Option Addr × Nat × Nat)) =>
 rdE Try.prog E83 (Instr.loadAt 40 (.pointer (some (Addr.add x3 2)))) (.one .slice) w80 fun (x98 : (Option Addr × Nat × Nat)) =>
 flcC Y81 8 E83 w80 (fun _w100 => True) (fun (D101 : Nat → Bool) (w99 : World) =>
   wr Try.prog (Instr.buildSlice 40 1 #[(0, (.int .i64 s78.1))]) (.one .slice) w99 fun (x102 : (Option Addr × Nat × Nat)) (w103 : World) =>
 (E83 w99 w103 ∧ G82 8 w99 w103 ∧ Y81 (setD D101 8) w103 ∧ F84 8 [] (.slice x102.1 x102.2.1 x102.2.2) w103))
  fun (x104 : (Option Addr × Nat × Nat)) =>
 flcC Y81 9 E83 w80 (fun w106 => F84 8 [] (.slice x104.1 x104.2.1 x104.2.2) w106 ∧ F84 4 [(.slice x85.1 x85.2.1 x85.2.2), (.slice x91.1 x91.2.1 x91.2.2)] (.slice x97.1 x97.2.1 x97.2.2) w106 ∧ F84 3 [] (.slice x91.1 x91.2.1 x91.2.2) w106 ∧ True) (fun (D107 : Nat → Bool) (w105 : World) =>
   wr Try.prog (Builtin.append_ #[40, 40] 40 #[(.slice x98.1 x98.2.1 x98.2.2), (.slice x104.1 x104.2.1 x104.2.2)]) (.one .slice) w105 fun (x108 : (Option Addr × Nat × Nat)) (w109 : World) =>
 (E83 w105 w109 ∧ G82 9 w105 w109 ∧ Y81 (setD D107 9) w109 ∧ F84 9 [(.slice x98.1 x98.2.1 x98.2.2), (.slice x104.1 x104.2.1 x104.2.2)] (.slice x108.1 x108.2.1 x108.2.2) w109))
  fun (x110 : (Option Addr × Nat × Nat)) =>
 flendC Y81 [9, 8, 4, 3] E83 w80 (fun w112 => F84 9 [(.slice x98.1 x98.2.1 x98.2.2), (.slice x104.1 x104.2.1 x104.2.2)] (.slice x110.1 x110.2.1 x110.2.2) w112 ∧ F84 8 [] (.slice x104.1 x104.2.1 x104.2.2) w112 ∧ F84 4 [(.slice x85.1 x85.2.1 x85.2.2), (.slice x91.1 x91.2.1 x91.2.2)] (.slice x97.1 x97.2.1 x97.2.2) w112 ∧ F84 3 [] (.slice x91.1 x91.2.1 x91.2.2) w112 ∧ True) fun w111 =>
 wu Try.prog (Instr.storeAt 41 (.pointer (some (Addr.add x3 1))) (.slice x97.1 x97.2.1 x97.2.2)) w111 fun (w113 : World) =>
 wu Try.prog (Instr.storeAt 40 (.pointer (some (Addr.add x3 2))) (.slice x110.1 x110.2.1 x110.2.2)) w113 fun (w114 : World) =>
 K58 (()) w114)
  fun (K77 : (Int × Unit) → World → Prop) =>
 br (!(x50 == 0)) (call Try.prog 35 [(.pointer t_), (.int .i64 7)] (.one (.one (.int .i64))) w64 fun (x115 : Int) (w116 : World) =>
 z (IntKind.wrap .i64 (x115 - 3)) fun (z117 : Int) =>
 z (IntKind.wrap .i64 (s63.2.1 + z117)) fun (z118 : Int) =>
 K77 (z118, ()) w116)
 (K77 (s63.2.1, ()) w64)))
 (rd Try.prog (Instr.loadAt 43 (.pointer (some x3))) (.agg [.slice, .slice, .slice]) w57 fun (x119 : ((Option Addr × Nat × Nat) × (Option Addr × Nat × Nat) × (Option Addr × Nat × Nat) × Unit)) =>
 wu Try.prog (Instr.storeAt 43 (.pointer (some x1)) (.agg #[(.slice x119.1.1 x119.1.2.1 x119.1.2.2), (.slice x119.2.1.1 x119.2.1.2.1 x119.2.1.2.2), (.slice x119.2.2.1.1 x119.2.2.1.2.1 x119.2.2.1.2.2)])) w57 fun (w120 : World) =>
 rd Try.prog (loadVar 43 x1) (.agg [.slice, .slice, .slice]) w120 fun (x121 : ((Option Addr × Nat × Nat) × (Option Addr × Nat × Nat) × (Option Addr × Nat × Nat) × Unit)) =>
 R (.agg #[(.slice x121.1.1 x121.1.2.1 x121.1.2.2), (.slice x121.2.1.1 x121.2.1.2.1 x121.2.1.2.2), (.slice x121.2.2.1.1 x121.2.2.1.2.1 x121.2.2.1.2.2)]) w120)))
def H34 : Hints := ⟨[(2, 0, [(11, (.one (.int .i64)))]), (2, 2, [(13, (.one (.int .i64)))]), (2, 4, [(15, (.one (.int .i64)))]), (2, 6, [(16, (.one .slice)), (17, (.one (.int .i64))), (18, (.one (.int .i64)))]), (0, 88, [(17, (.one (.int .i64)))]), (1, 5, [])], [(6, 7), (26, 11)], [], [1000026, 1000006]⟩
set_option maxRecDepth 100000 in
theorem S34_eq (t_ : (Option Addr)) (vars_ : Int) (rows_ : Int) (most_ : Int) (w0 : World) (R : Value → World → Prop) : vcFn Try.prog H34 Try.f34 [(.pointer t_), (.int .i64 vars_), (.int .i64 rows_), (.int .i64 most_)] w0 R = S34 t_ vars_ rows_ most_ w0 R := by kernel_rfl
set_option maxRecDepth 100000 in
theorem S34_calls (t_ : (Option Addr)) (vars_ : Int) (rows_ : Int) (most_ : Int) (w0 : World) (R : Value → World → Prop) (h : S34 t_ vars_ rows_ most_ w0 R) : Calls Try.prog 34 #[(.pointer t_), (.int .i64 vars_), (.int .i64 rows_), (.int .i64 most_)] w0 (ret R) := by
  rw [← S34_eq] at h; exact vcFn_sound follows_ Try.func34 h

/-- querylab/querylablaw11.LinearCombines -/
def S8 (l_a : Option Addr) (l_n : Nat) (l_c : Nat) (m_a : Option Addr) (m_n : Nat) (m_c : Nat) (low_a : Option Addr) (low_n : Nat) (low_c : Nat) (w0 : World) (R : Value → World → Prop) : Prop :=
 br (decide (((m_n : Nat) : Int) > 12)) (R (.bool true) w0)
 (br (decide (((low_n : Nat) : Int) > 12)) (R (.bool true) w0)
 (wr Try.prog (Instr.box 50 (.agg #[(.slice l_a l_n l_c), (.int .i64 0)])) (.one .addr) w0 fun (x1 : Addr) (w2 : World) =>
 call Try.prog 34 [(.pointer (some x1)), (.int .i64 5), (.int .i64 3), (.int .i64 9)] (.one (.agg [.slice, .slice, .slice])) w2 fun (x3 : ((Option Addr × Nat × Nat) × (Option Addr × Nat × Nat) × (Option Addr × Nat × Nat) × Unit)) (w4 : World) =>
 wr Try.prog (Instr.alloc 43 true (.tuple #[])) (.one .addr) w4 fun (x5 : Addr) (w6 : World) =>
 wu Try.prog (Instr.storeAt 43 (.pointer (some x5)) (.agg #[(.slice x3.1.1 x3.1.2.1 x3.1.2.2), (.slice x3.2.1.1 x3.2.1.2.1 x3.2.1.2.2), (.slice x3.2.2.1.1 x3.2.2.1.2.1 x3.2.2.1.2.2)])) w6 fun (w7 : World) =>
 wr Try.prog (Instr.buildSlice 33 0 #[]) (.one .slice) w7 fun (x8 : (Option Addr × Nat × Nat)) (w9 : World) =>
 loop (T := ((Option Addr × Nat × Nat) × Int × Unit)) ((x8.1, x8.2.1, x8.2.2), 0, ()) w9 fun (again10 : ((Option Addr × Nat × Nat) × Int × Unit) → World → Prop) (s11 : ((Option Addr × Nat × Nat) × Int × Unit)) w12 => ∀ _ : Nat → Value,
 rd Try.prog (Instr.loadAt 41 (.pointer (some (Addr.add x5 1)))) (.one .slice) w12 fun (x13 : (Option Addr × Nat × Nat)) =>
 br (decide (s11.2.1 < ((x13.2.1 : Nat) : Int))) (join (T := ((Option Addr × Nat × Nat) × Unit)) (fun (s15 : ((Option Addr × Nat × Nat) × Unit)) w16 => ∀ _ : Nat → Value,
 z (IntKind.wrap .i64 (s11.2.1 + 1)) fun (z17 : Int) =>
 again10 ((s15.1.1, s15.1.2.1, s15.1.2.2), z17, ()) w16)
  fun (K14 : ((Option Addr × Nat × Nat) × Unit) → World → Prop) =>
 call Try.prog 35 [(.pointer (some x1)), (.int .i64 9)] (.one (.one (.int .i64))) w12 fun (x18 : Int) (w19 : World) =>
 z (IntKind.wrap .i64 (x18 - 4)) fun (z20 : Int) =>
 wr Try.prog (Instr.alloc 23 true (.tuple #[])) (.one .addr) w19 fun (x21 : Addr) (w22 : World) =>
 wu Try.prog (Instr.storeAt 23 (.pointer (some x21)) (.agg #[(.int .i64 z20), (.int .i64 1)])) w22 fun (w23 : World) =>
 join (T := (Unit)) (fun (_s25 : (Unit)) w26 => ∀ _ : Nat → Value,
 rd Try.prog (Instr.loadAt 23 (.pointer (some x21))) (.agg [(.int .i64), (.int .i64)]) w26 fun (x27 : (Int × Int × Unit)) =>
 wr Try.prog (Instr.buildSlice 33 1 #[(0, (.agg #[(.int .i64 x27.1), (.int .i64 x27.2.1)]))]) (.one .slice) w26 fun (x28 : (Option Addr × Nat × Nat)) (w29 : World) =>
 wr Try.prog (Builtin.append_ #[33, 33] 33 #[(.slice s11.1.1 s11.1.2.1 s11.1.2.2), (.slice x28.1 x28.2.1 x28.2.2)]) (.one .slice) w29 fun (x30 : (Option Addr × Nat × Nat)) (w31 : World) =>
 K14 ((x30.1, x30.2.1, x30.2.2), ()) w31)
  fun (K24 : (Unit) → World → Prop) =>
 call Try.prog 35 [(.pointer (some x1)), (.int .i64 3)] (.one (.one (.int .i64))) w23 fun (x32 : Int) (w33 : World) =>
 br (x32 == 0) (rd Try.prog (Instr.loadAt 2 (.pointer (some x21))) (.one (.int .i64)) w33 fun (x34 : Int) =>
 rdp Try.prog (cmpS .rem 2 (.tmp 51) (.const (.int .i64 2)) (.int .i64 x34) (.int .i64 2)) (.one (.int .i64)) fun (x35 : Int) =>
 br (x35 != 0) (wu Try.prog (Instr.storeAt 2 (.pointer (some (Addr.add x21 1))) (.int .i64 2)) w33 fun (w36 : World) =>
 K24 (()) w36)
 (K24 (()) w33))
 (K24 (()) w33))
 (wr Try.prog (Instr.buildSlice 53 2 #[(0, (.slice m_a m_n m_c)), (1, (.slice s11.1.1 s11.1.2.1 s11.1.2.2))]) (.one .slice) w12 fun (x37 : (Option Addr × Nat × Nat)) (w38 : World) =>
 loop (T := (Int × Unit)) (0, ()) w38 fun (again39 : (Int × Unit) → World → Prop) (s40 : (Int × Unit)) w41 => ∀ _ : Nat → Value,
 br (decide (s40.1 < ((x37.2.1 : Nat) : Int))) (drw w41 fun w42 => flEx fun F43 =>
 rd Try.prog (Instr.loadAt 43 (.pointer (some x5))) (.agg [.slice, .slice, .slice]) w42 fun (x44 : ((Option Addr × Nat × Nat) × (Option Addr × Nat × Nat) × (Option Addr × Nat × Nat) × Unit)) =>
 rdp Try.prog (Instr.indexAt 53 (.slice x37.1 x37.2.1 x37.2.2) (.int .i64 s40.1)) (.one .addr) fun (x45 : Addr) =>
 rd Try.prog (Instr.loadAt 33 (.pointer (some x45))) (.one .slice) w42 fun (x46 : (Option Addr × Nat × Nat)) =>
 flc bel w42 (fun _w48 => True) (fun (w47 : World) =>
   call Try.prog 36 [(.agg #[(.slice x44.1.1 x44.1.2.1 x44.1.2.2), (.slice x44.2.1.1 x44.2.1.2.1 x44.2.1.2.2), (.slice x44.2.2.1.1 x44.2.2.1.2.1 x44.2.2.1.2.2)]), (.slice x46.1 x46.2.1 x46.2.2)] (.many [(.one .slice), (.agg [(.int .i64), (.int .i64)]), (.one (.int .i64))]) w47 fun (x49 : ((Option Addr × Nat × Nat) × (Int × Int × Unit) × Int × Unit)) (w50 : World) =>
 (bel w47 w50 ∧ F43 5 [(.agg #[(.slice x44.1.1 x44.1.2.1 x44.1.2.2), (.slice x44.2.1.1 x44.2.1.2.1 x44.2.1.2.2), (.slice x44.2.2.1.1 x44.2.2.1.2.1 x44.2.2.1.2.2)]), (.slice x46.1 x46.2.1 x46.2.2)] (.tuple #[(.slice x49.1.1 x49.1.2.1 x49.1.2.2), (.agg #[(.int .i64 x49.2.1.1), (.int .i64 x49.2.1.2.1)]), (.int .i64 x49.2.2.1)]) w50))
  fun (x51 : ((Option Addr × Nat × Nat) × (Int × Int × Unit) × Int × Unit)) =>
 flc bel w42 (fun _w53 => True) (fun (w52 : World) =>
   wr Try.prog (Instr.alloc 23 true (.tuple #[])) (.one .addr) w52 fun (x54 : Addr) (w55 : World) =>
 (bel w52 w55 ∧ F43 10 [] (.pointer (some x54)) w55))
  fun (x56 : Addr) =>
 flend bel w42 (fun w58 => F43 10 [] (.pointer (some x56)) w58 ∧ F43 5 [(.agg #[(.slice x44.1.1 x44.1.2.1 x44.1.2.2), (.slice x44.2.1.1 x44.2.1.2.1 x44.2.1.2.2), (.slice x44.2.2.1.1 x44.2.2.1.2.1 x44.2.2.1.2.2)]), (.slice x46.1 x46.2.1 x46.2.2)] (.tuple #[(.slice x51.1.1 x51.1.2.1 x51.1.2.2), (.agg #[(.int .i64 x51.2.1.1), (.int .i64 x51.2.1.2.1)]), (.int .i64 x51.2.2.1)]) w58 ∧ True) fun w57 =>
 wu Try.prog (Instr.storeAt 23 (.pointer (some x56)) (.agg #[(.int .i64 x51.2.1.1), (.int .i64 x51.2.1.2.1)])) w57 fun (w59 : World) =>
 drw w59 fun w60 => flEx fun F61 =>
 rd Try.prog (Instr.loadAt 43 (.pointer (some x5))) (.agg [.slice, .slice, .slice]) w60 fun (x62 : ((Option Addr × Nat × Nat) × (Option Addr × Nat × Nat) × (Option Addr × Nat × Nat) × Unit)) =>
 rdp Try.prog (Instr.indexAt 53 (.slice x37.1 x37.2.1 x37.2.2) (.int .i64 s40.1)) (.one .addr) fun (x63 : Addr) =>
 rd Try.prog (Instr.loadAt 33 (.pointer (some x63))) (.one .slice) w60 fun (x64 : (Option Addr × Nat × Nat)) =>
 flc bel w60 (fun _w66 => True) (fun (w65 : World) =>
   call Try.prog 37 [(.agg #[(.slice x62.1.1 x62.1.2.1 x62.1.2.2), (.slice x62.2.1.1 x62.2.1.2.1 x62.2.1.2.2), (.slice x62.2.2.1.1 x62.2.2.1.2.1 x62.2.2.1.2.2)]), (.slice x64.1 x64.2.1 x64.2.2)] (.many [(.one .slice), (.agg [(.int .i64), (.int .i64)]), (.one (.int .i64))]) w65 fun (x67 : ((Option Addr × Nat × Nat) × (Int × Int × Unit) × Int × Unit)) (w68 : World) =>
 (bel w65 w68 ∧ F61 5 [(.agg #[(.slice x62.1.1 x62.1.2.1 x62.1.2.2), (.slice x62.2.1.1 x62.2.1.2.1 x62.2.1.2.2), (.slice x62.2.2.1.1 x62.2.2.1.2.1 x62.2.2.1.2.2)]), (.slice x64.1 x64.2.1 x64.2.2)] (.tuple #[(.slice x67.1.1 x67.1.2.1 x67.1.2.2), (.agg #[(.int .i64 x67.2.1.1), (.int .i64 x67.2.1.2.1)]), (.int .i64 x67.2.2.1)]) w68))
  fun (x69 : ((Option Addr × Nat × Nat) × (Int × Int × Unit) × Int × Unit)) =>
 flc bel w60 (fun _w71 => True) (fun (w70 : World) =>
   wr Try.prog (Instr.alloc 23 true (.tuple #[])) (.one .addr) w70 fun (x72 : Addr) (w73 : World) =>
 (bel w70 w73 ∧ F61 10 [] (.pointer (some x72)) w73))
  fun (x74 : Addr) =>
 flend bel w60 (fun w76 => F61 10 [] (.pointer (some x74)) w76 ∧ F61 5 [(.agg #[(.slice x62.1.1 x62.1.2.1 x62.1.2.2), (.slice x62.2.1.1 x62.2.1.2.1 x62.2.1.2.2), (.slice x62.2.2.1.1 x62.2.2.1.2.1 x62.2.2.1.2.2)]), (.slice x64.1 x64.2.1 x64.2.2)] (.tuple #[(.slice x69.1.1 x69.1.2.1 x69.1.2.2), (.agg #[(.int .i64 x69.2.1.1), (.int .i64 x69.2.1.2.1)]), (.int .i64 x69.2.2.1)]) w76 ∧ True) fun w75 =>
 wu Try.prog (Instr.storeAt 23 (.pointer (some x74)) (.agg #[(.int .i64 x69.2.1.1), (.int .i64 x69.2.1.2.1)])) w75 fun (w77 : World) =>
 drw w77 fun w78 => flEx fun F79 =>
 flc bel w78 (fun _w81 => True) (fun (w80 : World) =>
   call Try.prog 38 [(.slice x51.1.1 x51.1.2.1 x51.1.2.2), (.slice x69.1.1 x69.1.2.1 x69.1.2.2)] (.one (.one .bool)) w80 fun (x82 : Bool) (w83 : World) =>
 (bel w80 w83 ∧ F79 2 [(.slice x51.1.1 x51.1.2.1 x51.1.2.2), (.slice x69.1.1 x69.1.2.1 x69.1.2.2)] (.bool x82) w83))
  fun (x84 : Bool) =>
 br (!x84) (flend bel w78 (fun w86 => F79 2 [(.slice x51.1.1 x51.1.2.1 x51.1.2.2), (.slice x69.1.1 x69.1.2.1 x69.1.2.2)] (.bool x84) w86 ∧ True) fun w85 =>
 R (.bool false) w85)
 (rd Try.prog (Instr.loadAt 23 (.pointer (some x56))) (.agg [(.int .i64), (.int .i64)]) w78 fun (x87 : (Int × Int × Unit)) =>
 rd Try.prog (Instr.loadAt 23 (.pointer (some x74))) (.agg [(.int .i64), (.int .i64)]) w78 fun (x88 : (Int × Int × Unit)) =>
 rd Try.prog (cmpS .neq 23 (.tmp 94) (.tmp 95) (.agg #[(.int .i64 x87.1), (.int .i64 x87.2.1)]) (.agg #[(.int .i64 x88.1), (.int .i64 x88.2.1)])) (.one .bool) w78 fun (x89 : Bool) =>
 br x89 (flend bel w78 (fun w91 => F79 2 [(.slice x51.1.1 x51.1.2.1 x51.1.2.2), (.slice x69.1.1 x69.1.2.1 x69.1.2.2)] (.bool x84) w91 ∧ True) fun w90 =>
 R (.bool false) w90)
 (br (x51.2.2.1 != x69.2.2.1) (flend bel w78 (fun w93 => F79 2 [(.slice x51.1.1 x51.1.2.1 x51.1.2.2), (.slice x69.1.1 x69.1.2.1 x69.1.2.2)] (.bool x84) w93 ∧ True) fun w92 =>
 R (.bool false) w92)
 (rd Try.prog (Instr.loadAt 43 (.pointer (some x5))) (.agg [.slice, .slice, .slice]) w78 fun (x94 : ((Option Addr × Nat × Nat) × (Option Addr × Nat × Nat) × (Option Addr × Nat × Nat) × Unit)) =>
 rdp Try.prog (Instr.indexAt 53 (.slice x37.1 x37.2.1 x37.2.2) (.int .i64 s40.1)) (.one .addr) fun (x95 : Addr) =>
 rd Try.prog (Instr.loadAt 33 (.pointer (some x95))) (.one .slice) w78 fun (x96 : (Option Addr × Nat × Nat)) =>
 flc bel w78 (fun w98 => F79 2 [(.slice x51.1.1 x51.1.2.1 x51.1.2.2), (.slice x69.1.1 x69.1.2.1 x69.1.2.2)] (.bool x84) w98 ∧ True) (fun (w97 : World) =>
   call Try.prog 39 [(.agg #[(.slice x94.1.1 x94.1.2.1 x94.1.2.2), (.slice x94.2.1.1 x94.2.1.2.1 x94.2.1.2.2), (.slice x94.2.2.1.1 x94.2.2.1.2.1 x94.2.2.1.2.2)]), (.slice x96.1 x96.2.1 x96.2.2)] (.one (.one .bool)) w97 fun (x99 : Bool) (w100 : World) =>
 (bel w97 w100 ∧ F79 20 [(.agg #[(.slice x94.1.1 x94.1.2.1 x94.1.2.2), (.slice x94.2.1.1 x94.2.1.2.1 x94.2.1.2.2), (.slice x94.2.2.1.1 x94.2.2.1.2.1 x94.2.2.1.2.2)]), (.slice x96.1 x96.2.1 x96.2.2)] (.bool x99) w100))
  fun (x101 : Bool) =>
 rd Try.prog (Instr.loadAt 43 (.pointer (some x5))) (.agg [.slice, .slice, .slice]) w78 fun (x102 : ((Option Addr × Nat × Nat) × (Option Addr × Nat × Nat) × (Option Addr × Nat × Nat) × Unit)) =>
 rdp Try.prog (Instr.indexAt 53 (.slice x37.1 x37.2.1 x37.2.2) (.int .i64 s40.1)) (.one .addr) fun (x103 : Addr) =>
 rd Try.prog (Instr.loadAt 33 (.pointer (some x103))) (.one .slice) w78 fun (x104 : (Option Addr × Nat × Nat)) =>
 flend bel w78 (fun w106 => F79 20 [(.agg #[(.slice x94.1.1 x94.1.2.1 x94.1.2.2), (.slice x94.2.1.1 x94.2.1.2.1 x94.2.1.2.2), (.slice x94.2.2.1.1 x94.2.2.1.2.1 x94.2.2.1.2.2)]), (.slice x96.1 x96.2.1 x96.2.2)] (.bool x101) w106 ∧ F79 2 [(.slice x51.1.1 x51.1.2.1 x51.1.2.2), (.slice x69.1.1 x69.1.2.1 x69.1.2.2)] (.bool x84) w106 ∧ True) fun w105 =>
 call Try.prog 40 [(.agg #[(.slice x102.1.1 x102.1.2.1 x102.1.2.2), (.slice x102.2.1.1 x102.2.1.2.1 x102.2.1.2.2), (.slice x102.2.2.1.1 x102.2.2.1.2.1 x102.2.2.1.2.2)]), (.slice x104.1 x104.2.1 x104.2.2)] (.one (.one .bool)) w105 fun (x107 : Bool) (w108 : World) =>
 br (!(x101 == x107)) (R (.bool false) w108)
 (rd Try.prog (Instr.loadAt 40 (.pointer (some x5))) (.one .slice) w108 fun (x109 : (Option Addr × Nat × Nat)) =>
 wr Try.prog (Instr.makeSlice 40 (.int .i64 ((x109.2.1 : Nat) : Int)) (.int .i64 ((x109.2.1 : Nat) : Int))) (.one .slice) w108 fun (x110 : (Option Addr × Nat × Nat)) (w111 : World) =>
 drw w111 fun w112 => flEx fun F113 =>
 rd Try.prog (Instr.loadAt 43 (.pointer (some x5))) (.agg [.slice, .slice, .slice]) w112 fun (x114 : ((Option Addr × Nat × Nat) × (Option Addr × Nat × Nat) × (Option Addr × Nat × Nat) × Unit)) =>
 rd Try.prog (Instr.loadAt 40 (.pointer (some x5))) (.one .slice) w112 fun (x115 : (Option Addr × Nat × Nat)) =>
 rdp Try.prog (Instr.indexAt 53 (.slice x37.1 x37.2.1 x37.2.2) (.int .i64 s40.1)) (.one .addr) fun (x116 : Addr) =>
 rd Try.prog (Instr.loadAt 33 (.pointer (some x116))) (.one .slice) w112 fun (x117 : (Option Addr × Nat × Nat)) =>
 flc bel w112 (fun _w119 => True) (fun (w118 : World) =>
   call Try.prog 41 [(.agg #[(.slice x114.1.1 x114.1.2.1 x114.1.2.2), (.slice x114.2.1.1 x114.2.1.2.1 x114.2.1.2.2), (.slice x114.2.2.1.1 x114.2.2.1.2.1 x114.2.2.1.2.2)]), (.slice x110.1 x110.2.1 x110.2.2), (.slice x115.1 x115.2.1 x115.2.2), (.slice x117.1 x117.2.1 x117.2.2)] (.one (.one .bool)) w118 fun (x120 : Bool) (w121 : World) =>
 (bel w118 w121 ∧ F113 8 [(.agg #[(.slice x114.1.1 x114.1.2.1 x114.1.2.2), (.slice x114.2.1.1 x114.2.1.2.1 x114.2.1.2.2), (.slice x114.2.2.1.1 x114.2.2.1.2.1 x114.2.2.1.2.2)]), (.slice x110.1 x110.2.1 x110.2.2), (.slice x115.1 x115.2.1 x115.2.2), (.slice x117.1 x117.2.1 x117.2.2)] (.bool x120) w121))
  fun (x122 : Bool) =>
 rd Try.prog (Instr.loadAt 43 (.pointer (some x5))) (.agg [.slice, .slice, .slice]) w112 fun (x123 : ((Option Addr × Nat × Nat) × (Option Addr × Nat × Nat) × (Option Addr × Nat × Nat) × Unit)) =>
 rd Try.prog (Instr.loadAt 40 (.pointer (some x5))) (.one .slice) w112 fun (x124 : (Option Addr × Nat × Nat)) =>
 rdp Try.prog (Instr.indexAt 53 (.slice x37.1 x37.2.1 x37.2.2) (.int .i64 s40.1)) (.one .addr) fun (x125 : Addr) =>
 rd Try.prog (Instr.loadAt 33 (.pointer (some x125))) (.one .slice) w112 fun (x126 : (Option Addr × Nat × Nat)) =>
 flc bel w112 (fun w128 => F113 8 [(.agg #[(.slice x114.1.1 x114.1.2.1 x114.1.2.2), (.slice x114.2.1.1 x114.2.1.2.1 x114.2.1.2.2), (.slice x114.2.2.1.1 x114.2.2.1.2.1 x114.2.2.1.2.2)]), (.slice x110.1 x110.2.1 x110.2.2), (.slice x115.1 x115.2.1 x115.2.2), (.slice x117.1 x117.2.1 x117.2.2)] (.bool x122) w128 ∧ True) (fun (w127 : World) =>
   call Try.prog 42 [(.agg #[(.slice x123.1.1 x123.1.2.1 x123.1.2.2), (.slice x123.2.1.1 x123.2.1.2.1 x123.2.1.2.2), (.slice x123.2.2.1.1 x123.2.2.1.2.1 x123.2.2.1.2.2)]), (.slice x110.1 x110.2.1 x110.2.2), (.slice x124.1 x124.2.1 x124.2.2), (.slice x126.1 x126.2.1 x126.2.2)] (.one (.one .bool)) w127 fun (x129 : Bool) (w130 : World) =>
 (bel w127 w130 ∧ F113 17 [(.agg #[(.slice x123.1.1 x123.1.2.1 x123.1.2.2), (.slice x123.2.1.1 x123.2.1.2.1 x123.2.1.2.2), (.slice x123.2.2.1.1 x123.2.2.1.2.1 x123.2.2.1.2.2)]), (.slice x110.1 x110.2.1 x110.2.2), (.slice x124.1 x124.2.1 x124.2.2), (.slice x126.1 x126.2.1 x126.2.2)] (.bool x129) w130))
  fun (x131 : Bool) =>
 br (!(x122 == x131)) (flend bel w112 (fun w133 => F113 17 [(.agg #[(.slice x123.1.1 x123.1.2.1 x123.1.2.2), (.slice x123.2.1.1 x123.2.1.2.1 x123.2.1.2.2), (.slice x123.2.2.1.1 x123.2.2.1.2.1 x123.2.2.1.2.2)]), (.slice x110.1 x110.2.1 x110.2.2), (.slice x124.1 x124.2.1 x124.2.2), (.slice x126.1 x126.2.1 x126.2.2)] (.bool x131) w133 ∧ F113 8 [(.agg #[(.slice x114.1.1 x114.1.2.1 x114.1.2.2), (.slice x114.2.1.1 x114.2.1.2.1 x114.2.1.2.2), (.slice x114.2.2.1.1 x114.2.2.1.2.1 x114.2.2.1.2.2)]), (.slice x110.1 x110.2.1 x110.2.2), (.slice x115.1 x115.2.1 x115.2.2), (.slice x117.1 x117.2.1 x117.2.2)] (.bool x122) w133 ∧ True) fun w132 =>
 R (.bool false) w132)
 (rd Try.prog (Instr.loadAt 43 (.pointer (some x5))) (.agg [.slice, .slice, .slice]) w112 fun (x134 : ((Option Addr × Nat × Nat) × (Option Addr × Nat × Nat) × (Option Addr × Nat × Nat) × Unit)) =>
 rd Try.prog (Instr.loadAt 40 (.pointer (some x5))) (.one .slice) w112 fun (x135 : (Option Addr × Nat × Nat)) =>
 rdp Try.prog (Instr.indexAt 53 (.slice x37.1 x37.2.1 x37.2.2) (.int .i64 s40.1)) (.one .addr) fun (x136 : Addr) =>
 rd Try.prog (Instr.loadAt 33 (.pointer (some x136))) (.one .slice) w112 fun (x137 : (Option Addr × Nat × Nat)) =>
 flc bel w112 (fun w139 => F113 17 [(.agg #[(.slice x123.1.1 x123.1.2.1 x123.1.2.2), (.slice x123.2.1.1 x123.2.1.2.1 x123.2.1.2.2), (.slice x123.2.2.1.1 x123.2.2.1.2.1 x123.2.2.1.2.2)]), (.slice x110.1 x110.2.1 x110.2.2), (.slice x124.1 x124.2.1 x124.2.2), (.slice x126.1 x126.2.1 x126.2.2)] (.bool x131) w139 ∧ F113 8 [(.agg #[(.slice x114.1.1 x114.1.2.1 x114.1.2.2), (.slice x114.2.1.1 x114.2.1.2.1 x114.2.1.2.2), (.slice x114.2.2.1.1 x114.2.2.1.2.1 x114.2.2.1.2.2)]), (.slice x110.1 x110.2.1 x110.2.2), (.slice x115.1 x115.2.1 x115.2.2), (.slice x117.1 x117.2.1 x117.2.2)] (.bool x122) w139 ∧ True) (fun (w138 : World) =>
   call Try.prog 41 [(.agg #[(.slice x134.1.1 x134.1.2.1 x134.1.2.2), (.slice x134.2.1.1 x134.2.1.2.1 x134.2.1.2.2), (.slice x134.2.2.1.1 x134.2.2.1.2.1 x134.2.2.1.2.2)]), (.slice low_a low_n low_c), (.slice x135.1 x135.2.1 x135.2.2), (.slice x137.1 x137.2.1 x137.2.2)] (.one (.one .bool)) w138 fun (x140 : Bool) (w141 : World) =>
 (bel w138 w141 ∧ F113 28 [(.agg #[(.slice x134.1.1 x134.1.2.1 x134.1.2.2), (.slice x134.2.1.1 x134.2.1.2.1 x134.2.1.2.2), (.slice x134.2.2.1.1 x134.2.2.1.2.1 x134.2.2.1.2.2)]), (.slice low_a low_n low_c), (.slice x135.1 x135.2.1 x135.2.2), (.slice x137.1 x137.2.1 x137.2.2)] (.bool x140) w141))
  fun (x142 : Bool) =>
 rd Try.prog (Instr.loadAt 43 (.pointer (some x5))) (.agg [.slice, .slice, .slice]) w112 fun (x143 : ((Option Addr × Nat × Nat) × (Option Addr × Nat × Nat) × (Option Addr × Nat × Nat) × Unit)) =>
 rd Try.prog (Instr.loadAt 40 (.pointer (some x5))) (.one .slice) w112 fun (x144 : (Option Addr × Nat × Nat)) =>
 rdp Try.prog (Instr.indexAt 53 (.slice x37.1 x37.2.1 x37.2.2) (.int .i64 s40.1)) (.one .addr) fun (x145 : Addr) =>
 rd Try.prog (Instr.loadAt 33 (.pointer (some x145))) (.one .slice) w112 fun (x146 : (Option Addr × Nat × Nat)) =>
 flend bel w112 (fun w148 => F113 28 [(.agg #[(.slice x134.1.1 x134.1.2.1 x134.1.2.2), (.slice x134.2.1.1 x134.2.1.2.1 x134.2.1.2.2), (.slice x134.2.2.1.1 x134.2.2.1.2.1 x134.2.2.1.2.2)]), (.slice low_a low_n low_c), (.slice x135.1 x135.2.1 x135.2.2), (.slice x137.1 x137.2.1 x137.2.2)] (.bool x142) w148 ∧ F113 17 [(.agg #[(.slice x123.1.1 x123.1.2.1 x123.1.2.2), (.slice x123.2.1.1 x123.2.1.2.1 x123.2.1.2.2), (.slice x123.2.2.1.1 x123.2.2.1.2.1 x123.2.2.1.2.2)]), (.slice x110.1 x110.2.1 x110.2.2), (.slice x124.1 x124.2.1 x124.2.2), (.slice x126.1 x126.2.1 x126.2.2)] (.bool x131) w148 ∧ F113 8 [(.agg #[(.slice x114.1.1 x114.1.2.1 x114.1.2.2), (.slice x114.2.1.1 x114.2.1.2.1 x114.2.1.2.2), (.slice x114.2.2.1.1 x114.2.2.1.2.1 x114.2.2.1.2.2)]), (.slice x110.1 x110.2.1 x110.2.2), (.slice x115.1 x115.2.1 x115.2.2), (.slice x117.1 x117.2.1 x117.2.2)] (.bool x122) w148 ∧ True) fun w147 =>
 call Try.prog 42 [(.agg #[(.slice x143.1.1 x143.1.2.1 x143.1.2.2), (.slice x143.2.1.1 x143.2.1.2.1 x143.2.1.2.2), (.slice x143.2.2.1.1 x143.2.2.1.2.1 x143.2.2.1.2.2)]), (.slice low_a low_n low_c), (.slice x144.1 x144.2.1 x144.2.2), (.slice x146.1 x146.2.1 x146.2.2)] (.one (.one .bool)) w147 fun (x149 : Bool) (w150 : World) =>
 br (!(x142 == x149)) (R (.bool false) w150)
 (z (IntKind.wrap .i64 (s40.1 + 1)) fun (z151 : Int) =>
 again39 (z151, ()) w150)))))))
 (R (.bool true) w41))))
def H8 : Hints := ⟨[(2, 0, [(9, (.one .slice)), (10, (.one (.int .i64)))]), (0, 54, []), (1, 1, [(9, (.one .slice))]), (2, 2, [(13, (.one (.int .i64)))])], [(17, 11), (18, 11), (19, 26), (22, 37)], [], []⟩
set_option maxRecDepth 100000 in
theorem S8_eq (l_a : Option Addr) (l_n : Nat) (l_c : Nat) (m_a : Option Addr) (m_n : Nat) (m_c : Nat) (low_a : Option Addr) (low_n : Nat) (low_c : Nat) (w0 : World) (R : Value → World → Prop) : vcFn Try.prog H8 Try.f8 [(.slice l_a l_n l_c), (.slice m_a m_n m_c), (.slice low_a low_n low_c)] w0 R = S8 l_a l_n l_c m_a m_n m_c low_a low_n low_c w0 R := by kernel_rfl
set_option maxRecDepth 100000 in
theorem S8_calls (l_a : Option Addr) (l_n : Nat) (l_c : Nat) (m_a : Option Addr) (m_n : Nat) (m_c : Nat) (low_a : Option Addr) (low_n : Nat) (low_c : Nat) (w0 : World) (R : Value → World → Prop) (h : S8 l_a l_n l_c m_a m_n m_c low_a low_n low_c w0 R) : Calls Try.prog 8 #[(.slice l_a l_n l_c), (.slice m_a m_n m_c), (.slice low_a low_n low_c)] w0 (ret R) := by
  rw [← S8_eq] at h; exact vcFn_sound follows_ Try.func8 h

end Go.Proofs

/- A block of one's own that others may write: relations for regions that tell their states. -/

namespace Go.V
open Go Go.RowKit Go.Q

/-- only one block that was there may have turned -/
abbrev Xg (b : Nat) : Rel := fun w w' => w.grownBy w' (some b)
theorem bel.xg {w w' : World} (h : bel w w') (b : Nat) : Xg b w w' := grown_of_bel h _
theorem Box.xg {w w' : World} {a : Addr} {cs : List Value} {b : Nat} (X : Box w a cs) (h : Xg b w w') (hne : a.block ≠ b) : Box w' a cs := X.grown h (by intro e; injection e; omega)
theorem _root_.Go.Q.Sl.xg {w w' : World} {a : Option Addr} {n c sz : Nat} {xs : List Value} {b : Nat} (S : Sl w a n c sz xs) (h : Xg b w w') (hne : ∀ ad, a = some ad → xs ≠ [] → ad.block ≠ b) : Sl w' a n c sz xs :=
  S.grown h fun ad ha hx e => hne ad ha hx (by injection e)
theorem Own.xg {w w' : World} {B : Nat} {e : TypeId} {sz : Nat} {a : Option Addr} {n c : Nat} {xs : List Value} {b : Nat} (O : Own w B e sz a n c xs) (h : Xg b w w') (hb : b < B) : Own w' B e sz a n c xs := by
  refine O.keptBy h ?_
  cases hk : blk a with
  | none => exact .inl rfl
  | some k => exact .inr fun q => by have := (O.lt k hk).1; injection q; omega
theorem rdE_box0 {P : Program} {E : Rel} {t : TypeId} {s : Sh} {w : World} {a : Addr} {cs : List Value} {v : Value} {x : s.T} {k : s.T → Prop} (ht : scal P t = true) (h : ∀ w', E w w' → Box w' a cs) (hi : cs[0]? = some v) (hx : s.get v = some x) (hk : k x) :
    rdE P E (Instr.loadAt t (.pointer (some a))) (.one s) w k := ⟨x, fun w' hw => by rw [run_loadAt, run_loadVar1 ht ((h w' hw).cell0 hi), Sh.get_spec hx]; rfl, hk⟩
theorem rdE_box {P : Program} {E : Rel} {t : TypeId} {s : Sh} {w : World} {a : Addr} {cs : List Value} {i : Nat} {v : Value} {x : s.T} {k : s.T → Prop} (ht : scal P t = true) (h : ∀ w', E w w' → Box w' a cs) (hi : cs[i]? = some v) (hx : s.get v = some x) (hk : k x) :
    rdE P E (Instr.loadAt t (.pointer (some (a.add i)))) (.one s) w k := ⟨x, fun w' hw => by rw [run_loadAt, run_loadVar1 ht ((h w' hw).cell hi), Sh.get_spec hx]; rfl, hk⟩
theorem flExC_mk {w0 : World} {B : Rel → (Nat → Rel) → ((Nat → Bool) → World → Prop) → Facts → Prop} (E : Rel) (G : Nat → Rel) (St : (Nat → Bool) → World → Prop) (Φ : Facts) (h1 : ∀ w, E w w) (h2 : ∀ a b c, E a b → E b c → E a c)
    (h3 : ∀ i j ags v w w', i ≠ j → Φ i ags v w → E w w' → G j w w' → Φ i ags v w') (h4 : St (fun _ => false) w0) (h5 : B E G St Φ) : flExC w0 B := ⟨E, G, St, Φ, h1, h2, h3, h4, h5⟩
theorem flcC_mk {St : (Nat → Bool) → World → Prop} {j : Nat} {E : Rel} {w0 : World} {pre : World → Prop} {ob : (Nat → Bool) → World → Prop} {T : Type} {nxt : T → Prop} (h1 : ∀ D w, D j = false → E w0 w → St D w → pre w → ob D w) (h2 : ∀ x, nxt x) : flcC St j E w0 pre ob nxt := ⟨h1, h2⟩
theorem flendC_mk {St : (Nat → Bool) → World → Prop} {L : List Nat} {E : Rel} {w0 : World} {pre k : World → Prop} (h : ∀ w, E w0 w → St (fun i => L.contains i) w → pre w → k w) : flendC St L E w0 pre k := h
theorem setD_self (D : Nat → Bool) (j : Nat) : setD D j j = true := by simp [setD]
theorem setD_ne {D : Nat → Bool} {i j : Nat} (h : i ≠ j) : setD D j i = D i := by simp [setD, h]
/-- frames over several blocks -/
structure Xb (S : Nat → Prop) (w w' : World) : Prop where
  os : w'.os = w.os
  tape : w'.tape = w.tape
  output : w'.output = w.output
  size : w.heap.size ≤ w'.heap.size
  block : ∀ k, k < w.heap.size → ¬ S k → w'.heap[k]? = w.heap[k]?
theorem Xb.refl (S : Nat → Prop) (w : World) : Xb S w w := ⟨rfl, rfl, rfl, Nat.le_refl _, fun _ _ _ => rfl⟩
theorem Xb.trans {S : Nat → Prop} {a b c : World} (h : Xb S a b) (h' : Xb S b c) : Xb S a c :=
  ⟨h'.os.trans h.os, h'.tape.trans h.tape, h'.output.trans h.output, Nat.le_trans h.size h'.size, fun k hk hs => by rw [h'.block k (by have := h.size; omega) hs, h.block k hk hs]⟩
theorem Xb.of {S : Nat → Prop} {w w' : World} {o : Option Nat} (h : w.grownBy w' o) (ho : ∀ k, o = some k → S k) : Xb S w w' :=
  ⟨h.os, h.tape, h.output, h.size, fun k hk hs => h.block k hk (fun e => hs (ho k e.symm))⟩
theorem Xb.bel {S : Nat → Prop} {a w w' : World} (h : bel a w) (h' : Xb S w w') (hs : ∀ k, S k → a.heap.size ≤ k) : bel a w' :=
  ⟨h'.os.trans h.os, h'.tape.trans h.tape, h'.output.trans h.output, Nat.le_trans h.size h'.size, fun k hk => by rw [h'.block k (by have := h.size; omega) (fun q => by have := hs k q; omega), h.block k hk]⟩
theorem Xb.grown {S : Nat → Prop} {w w' : World} (h : Xb S w w') {o : Option Nat} (hs : ∀ k, S k → k < w.heap.size → o = some k) : w.grownBy w' o :=
  ⟨h.os, h.tape, h.output, h.size, fun k hk hne => h.block k hk fun q => hne (hs k q hk).symm⟩
theorem Xb.more {S S' : Nat → Prop} {a w w' : World} (h : Xb S a w) (h' : Xb S' w w') (hs : ∀ k, S' k → S k ∨ a.heap.size ≤ k) : Xb S a w' :=
  ⟨h'.os.trans h.os, h'.tape.trans h.tape, h'.output.trans h.output, Nat.le_trans h.size h'.size, fun k hk hn => by
    rw [h'.block k (by have := h.size; omega) (fun q => by
      rcases hs k q with q | q
      · exact hn q
      · omega), h.block k hk hn]⟩
theorem _root_.Go.Q.Sl.xb {S : Nat → Prop} {w w' : World} {a : Option Addr} {n c sz : Nat} {xs : List Value} (H : Sl w a n c sz xs) (hX : Xb S w w') (hne : ∀ ad, a = some ad → xs ≠ [] → ¬ S ad.block) : Sl w' a n c sz xs := by
  refine ⟨H.len, H.cap, H.most, H.nil', fun k u hu => ?_⟩
  obtain ⟨ad, q1, q2, q3⟩ := H.at' k u hu
  have hx : xs ≠ [] := by rintro rfl; simp at hu
  refine ⟨ad, q1, ?_, by have := hX.size; omega⟩
  have := hX.block ad.block q3 (hne ad q1 hx)
  unfold World.cell? at q2 ⊢
  rw [add_block] at q2 ⊢
  rw [this]; exact q2
theorem Box.xb {S : Nat → Prop} {w w' : World} {a : Addr} {cs : List Value} (X : Box w a cs) (hX : Xb S w w') (hne : ¬ S a.block) : Box w' a cs :=
  ⟨X.off, X.spot, by obtain ⟨T, hT⟩ := X.blk; exact ⟨T, by rw [hX.block _ X.lt hne]; exact hT⟩⟩
/-- slices of different kinds of elements do not lie in one block -/
theorem Own.apart {w : World} {B B' : Nat} {e e' : TypeId} {sz sz' : Nat} {a a' : Option Addr} {n c n' c' : Nat} {xs ys : List Value} (h : Own w B e sz a n c xs) (h' : Own w B' e' sz' a' n' c' ys) (hne : e ≠ e') : ∀ k, blk a = some k → blk a' = some k → False := by
  intro k hk hk'
  obtain ⟨_, h2⟩ := h
  obtain ⟨_, h2'⟩ := h'
  rcases h2 with ⟨hv, _⟩ | ⟨g, cap, cur, hv, _, hh, _⟩
  · injection hv with ha; rw [ha] at hk; cases hk
  · rcases h2' with ⟨hv', _⟩ | ⟨g', cap', cur', hv', _, hh', _⟩
    · injection hv' with ha'; rw [ha'] at hk'; cases hk'
    · injection hv with ha
      injection hv' with ha'
      subst ha ha'
      have q1 : g = k := by simpa [blk] using hk
      have q2 : g' = k := by simpa [blk] using hk'
      subst q1
      subst q2
      rw [hh] at hh'
      injection hh' with hh'
      injection hh' with _ he _
      exact hne he
theorem xg_put {w w' w'' : World} {t : Nat} {o : Option Nat} (h : w.grownBy w' (some t)) (hg : w'.grownBy w'' o) (ho : ∀ k, o = some k → w.heap.size ≤ k ∨ k = t) : w.grownBy w'' (some t) :=
  ⟨hg.os.trans h.os, hg.tape.trans h.tape, hg.output.trans h.output, Nat.le_trans h.size hg.size, fun k hk hne => by
    rw [hg.block k (by have := h.size; omega) (fun e => by
      rcases ho k e.symm with q | q
      · omega
      · exact hne (by rw [q])), h.block k hk hne]⟩
end Go.V

/- The tape of numbers that made worlds are read from. -/



namespace Go.Proofs.Ytajpdnphamomjaa
open Go.RowKit Go.Q Go.Q.Num Go.V

theorem tyInts : TyS Try.prog 47 3 (.int .i64 0) 1 8 := ⟨by kernel_rfl, by kernel_rfl⟩
structure Tape (w : World) (tb : Addr) (l : Hdr) (L : List Int) (p : Nat) : Prop where
  box : Box w tb [.slice l.1 l.2.1 l.2.2, .int .i64 (p : Int)]
  sl : Sl w l.1 l.2.1 l.2.2 1 (ints .i64 L)
  old : ∀ ad, l.1 = some ad → L ≠ [] → ad.block < tb.block
  i64 : ∀ x ∈ L, I64 x
theorem Tape.up {w w' : World} {tb : Addr} {l : Hdr} {L : List Int} {p : Nat} (h : Tape w tb l L p) (hb : bel w w') : Tape w' tb l L p := ⟨h.box.up hb, h.sl.up hb, h.old, h.i64⟩
theorem Tape.grown {w w' : World} {tb : Addr} {l : Hdr} {L : List Int} {p b : Nat} (h : Tape w tb l L p) (hg : w.grownBy w' (some b)) (hb : tb.block < b) : Tape w' tb l L p :=
  ⟨h.box.xg hg (by omega), Sl.xg h.sl hg (fun ad ha hx => by have := h.old ad ha (by rintro rfl; exact hx rfl); omega), h.old, h.i64⟩
theorem Tape.xb {S : Nat → Prop} {w w' : World} {tb : Addr} {l : Hdr} {L : List Int} {p : Nat} (h : Tape w tb l L p) (hX : Xb S w w') (hs : ∀ k, S k → tb.block < k) : Tape w' tb l L p :=
  ⟨h.box.xb hX (fun q => by have := hs _ q; omega), h.sl.xb hX (fun ad ha hx q => by have := h.old ad ha (by rintro rfl; exact hx rfl); have := hs _ q; omega), h.old, h.i64⟩
set_option maxHeartbeats 400000 in
theorem nextF {w : World} {tb : Addr} {l : Hdr} {L : List Int} {p : Nat} (n : Int) (h : Tape w tb l L p) (hp : p ≤ 1000000) (hn : 1 ≤ n ∧ n ≤ 9223372036854775807) :
    call Try.prog 35 [.pointer (some tb), .int .i64 n] (.one (.one (.int .i64))) w (fun (x : Int) w' => (0 ≤ x ∧ x < n) ∧ Tape w' tb l L (p + 1) ∧ w.grownBy w' (some tb.block)) := by
  refine call_of (S35_calls (some tb) n w _ ?_)
  unfold S35
  have hl := h.sl.int
  refine br_dec (fun e => by omega) (fun _ => ?_)
  refine join_mk (fun s w' => (0 ≤ s.1 ∧ s.1 < n) ∧ bel w w') (fun K hK => ?_) (fun s w3 hh _ => ?_)
  · refine drw_mk fun w9 h9 _ => ?_
    refine nn_mk rfl ?_
    refine rd_box (by kernel_rfl) (h.box.up h9) (i := 1) rfl rfl ?_
    refine nn_mk rfl ?_
    refine rd_box0 (by kernel_rfl) (h.box.up h9) rfl rfl ?_
    refine br_dec (fun e => ?_) (fun e => hK _ _ ⟨⟨by dsimp only; omega, by dsimp only; omega⟩, h9⟩)
    dsimp only at e
    refine drw_mk fun w14 h14 _ => ?_
    have h14' := h9.trans h14
    refine nn_mk rfl ?_
    refine rd_box0 (by kernel_rfl) (h.box.up h14') rfl rfl ?_
    refine nn_mk rfl ?_
    refine rd_box (by kernel_rfl) (h.box.up h14') (i := 1) rfl rfl ?_
    refine at_int tyInts (by kernel_rfl) (h.sl.up h14') rfl (by omega) fun x hx => ?_
    refine rdp_rem (by omega) ?_
    have b1 := Int.tmod_lt_of_pos x (show 0 < n by omega)
    have b2 := Int.lt_tmod_of_pos x (show 0 < n by omega)
    refine br_dec (fun e2 => ?_) (fun e2 => hK _ _ ⟨⟨by dsimp only; omega, by dsimp only; omega⟩, h14'⟩)
    refine z_i64 (by omega) ?_
    exact hK _ _ ⟨⟨by dsimp only; omega, by dsimp only; omega⟩, h14'⟩
  · obtain ⟨x, _⟩ := s
    obtain ⟨hx, hb⟩ := hh
    refine nn_mk rfl ?_
    refine rd_box (by kernel_rfl) (h.box.up hb) (i := 1) rfl rfl ?_
    refine z_i64 (by omega) ?_
    refine nn_mk rfl ?_
    refine wu_boxi (h.box.up hb) (by kernel_rfl) (by simp) rfl fun w8 X hg _ => ?_
    have X' : Box w8 tb [.slice l.1 l.2.1 l.2.2, .int .i64 ((p + 1 : Nat) : Int)] := X
    exact ⟨x, rfl, hx, ⟨X', Sl.xg (h.sl.up hb) hg (fun ad ha hx => by have := h.old ad ha (by rintro rfl; exact hx rfl); omega), h.old, h.i64⟩, (grown_of_bel hb _).trans hg⟩
end Go.Proofs.Ytajpdnphamomjaa

/- Made systems. -/

namespace Go.Proofs.Ytajpdnphamomjaa
open Go.RowKit Go.Q Go.Q.Num Go.V

structure MadeS (up : List Int) (T : List (List Int)) (rt : List Int) (vars rows most : Nat) : Prop where
  n1 : 1 ≤ up.length
  n2 : up.length ≤ vars
  t : T.length ≤ rows
  r : rt.length = T.length
  row : ∀ q ∈ T, q.length = up.length ∧ ∀ x ∈ q, -5 ≤ x ∧ x ≤ 5
  up : ∀ x ∈ up, 0 ≤ x ∧ x ≤ (most : Int)
  rt : ∀ x ∈ rt, x.natAbs ≤ vars * 50000 + 3
abbrev nil3 : List Value := [.slice none 0 0, .slice none 0 0, .slice none 0 0]
/-- rows of a table in memory, apart from some blocks -/
def RowsAt (w : World) (hs : List Hdr) (T : List (List Int)) (B : Nat) (o1 o2 : Option Nat) : Prop :=
  hs.length = T.length ∧ ∀ (i : Nat) (x : Hdr) (q : List Int), hs[i]? = some x → T[i]? = some q → Sl w x.1 x.2.1 x.2.2 1 (ints .i64 q) ∧ ∀ ad, x.1 = some ad → B ≤ ad.block ∧ ad.block < w.heap.size ∧ some ad.block ≠ o1 ∧ some ad.block ≠ o2
theorem RowsAt.grown {w w' : World} {hs : List Hdr} {T : List (List Int)} {B : Nat} {o1 o2 o : Option Nat} (h : RowsAt w hs T B o1 o2) (hg : w.grownBy w' o) (ho : (∀ k, o = some k → k < B) ∨ o = o1 ∨ o = o2) : RowsAt w' hs T B o1 o2 := by
  refine ⟨h.1, fun i x q h1 h2 => ?_⟩
  obtain ⟨s, f⟩ := h.2 i x q h1 h2
  refine ⟨s.grown hg fun ad ha _ e => ?_, fun ad ha => ?_⟩
  · obtain ⟨a1, a2, a3, a4⟩ := f ad ha
    rcases ho with ho | ho | ho
    · have := ho _ e.symm; omega
    · exact a3 (e.trans ho)
    · exact a4 (e.trans ho)
  · obtain ⟨a1, a2, a3, a4⟩ := f ad ha
    exact ⟨a1, by have := hg.size; omega, a3, a4⟩
theorem RowsAt.up {w w' : World} {hs : List Hdr} {T : List (List Int)} {B : Nat} {o1 o2 : Option Nat} (h : RowsAt w hs T B o1 o2) (hb : bel w w') : RowsAt w' hs T B o1 o2 := h.grown (grown_of_bel hb none) (.inl fun k q => by cases q)
abbrev TabH (w : World) (B : Nat) (rh : Hdr) (hs : List Hdr) : Prop := Own w B 40 1 rh.1 rh.2.1 rh.2.2 (hs.map hv)
abbrev OwnI (w : World) (B : Nat) (h : Hdr) (xs : List Int) : Prop := Own w B 2 1 h.1 h.2.1 h.2.2 (ints .i64 xs)
theorem OwnI.len {w : World} {B : Nat} {h : Hdr} {xs : List Int} (H : OwnI w B h xs) : xs.length = h.2.1 := H.sl.int
theorem TabH.len {w : World} {B : Nat} {h : Hdr} {xs : List Hdr} (H : TabH w B h xs) : xs.length = h.2.1 := by have := H.sl.len; simpa using this

theorem TabH.apart {w : World} {B B' : Nat} {rh bh : Hdr} {hs : List Hdr} {rt : List Int} (OR : TabH w B rh hs) (OB : OwnI w B' bh rt) : ∀ k, blk rh.1 = some k → blk bh.1 = some k → False := Own.apart OR OB (by decide)

theorem RowsAt.xb {S : Nat → Prop} {w w' : World} {hs : List Hdr} {T : List (List Int)} {B : Nat} {o1 o2 : Option Nat} (h : RowsAt w hs T B o1 o2) (hX : Xb S w w') (ho : ∀ k, S k → o1 = some k ∨ o2 = some k) : RowsAt w' hs T B o1 o2 := by
  refine ⟨h.1, fun i x q h1 h2 => ?_⟩
  obtain ⟨s, f⟩ := h.2 i x q h1 h2
  refine ⟨s.xb hX fun ad ha _ e => ?_, fun ad ha => ?_⟩
  · obtain ⟨a1, a2, a3, a4⟩ := f ad ha
    rcases ho _ e with q | q
    · exact a3 q.symm
    · exact a4 q.symm
  · obtain ⟨a1, a2, a3, a4⟩ := f ad ha
    exact ⟨a1, by have := hX.size; omega, a3, a4⟩
theorem dotI_snoc {row xs : List Int} {c : Int} : ∀ {k : Nat}, k ≤ row.length → dotI (row ++ [c]) xs k = dotI row xs k
  | 0, _ => rfl
  | k + 1, h => by
    show dotI (row ++ [c]) xs k + dotJ (row ++ [c]) xs k = dotI row xs k + dotJ row xs k
    rw [dotI_snoc (by omega)]
    unfold dotJ
    rw [List.getElem?_append_left (by omega)]
set_option maxHeartbeats 4000000 in
theorem systemF {w : World} {tb : Addr} {l : Hdr} {L : List Int} {p : Nat} (vars rows most : Nat) (h : Tape w tb l L p) (hp : p ≤ 100000) (hv1 : 1 ≤ vars) (hv2 : vars ≤ 20) (hr : rows ≤ 20) (hm : most ≤ 10000) :
    call Try.prog 34 [.pointer (some tb), .int .i64 (vars : Int), .int .i64 (rows : Int), .int .i64 (most : Int)] (.one (.agg [.slice, .slice, .slice])) w (fun (x : Hdr × Hdr × Hdr × Unit) w' =>
      ∃ up T rt p', MadeS up T rt vars rows most ∧ (∀ w2, w'.grownBy w2 (some tb.block) → Sys w2 x.1 x.2.1 x.2.2.1 up T rt) ∧ Tape w' tb l L p' ∧ p' ≤ p + 1000 ∧ w.grownBy w' (some tb.block)) := by
  refine call_of (S34_calls (some tb) vars rows most w _ ?_)
  unfold S34
  have htb := h.box.lt
  refine wr_alloc (z := .agg #[.slice none 0 0, .slice none 0 0, .slice none 0 0]) (by kernel_rfl) fun x1 w2 A h1 hx1 _ => ?_
  refine wr_alloc (z := .agg #[.slice none 0 0, .slice none 0 0, .slice none 0 0]) (by kernel_rfl) fun x3 w4 V h2 hx3 _ => ?_
  replace A : Box w4 x1 nil3 := A.up h2
  replace V : Box w4 x3 nil3 := V
  have l1 := A.lt
  have l3 := V.lt
  have hb4 := h1.trans h2
  have hsz4 : w.heap.size ≤ w4.heap.size := hb4.size
  have n13 : x1.block < x3.block := by have := h1.size; omega
  have hw1 : w.heap.size ≤ x1.block := by omega
  have hw3 : w.heap.size ≤ x3.block := by omega
  refine call_mono (nextF (vars : Int) (h.up hb4) (by omega) ⟨by omega, by omega⟩) ?_
  rintro (x5 : Int) w6 ⟨hx5, ht, hg⟩
  obtain ⟨n, hn⟩ : ∃ n : Nat, 1 + x5 = (n : Int) := ⟨(1 + x5).toNat, by have := hx5.1; omega⟩
  have hn1 : 1 ≤ n := by have := hx5.1; omega
  have hn2 : n ≤ vars := by have := hx5.2; omega
  refine z_eq (m := (n : Int)) (by rw [IntWalk.i64_in _ ⟨by omega, by omega⟩]; exact hn) ?_
  have hf6 : w.grownBy w6 (some tb.block) := (grown_of_bel hb4 _).trans hg
  replace A := A.xg hg (by omega)
  replace V := V.xg hg (by omega)
  -- the bounds
  refine loop_up n (fun i w' => w.grownBy w' (some tb.block) ∧ Box w' x1 nil3 ∧ w4.heap.size ≤ w'.heap.size ∧ ∃ p' uh up, Tape w' tb l L p' ∧ p' ≤ p + 1 + i ∧ Box w' x3 [.slice (uh : Hdr).1 uh.2.1 uh.2.2, .slice none 0 0, .slice none 0 0] ∧ OwnI w' w4.heap.size uh up ∧ up.length = i ∧ ∀ x ∈ up, 0 ≤ x ∧ x ≤ (most : Int))
    ⟨hf6, A, hg.size, p + 1, (none, 0, 0), [], ht, by omega, V, Own.nil _ _ _ _, rfl, by simp⟩ fun i w10 hi ⟨hf, A, hs4, p', uh, up, ht, hp', V, O, hul, hub⟩ again hag _ => ?_
  have hol := O.len
  refine br_dec (fun e => ?_) (fun e => ?_)
  · dsimp only at e
    refine drw_mk fun w11 h11 _ => ?_
    replace A := A.up h11; replace V := V.up h11; replace ht := ht.up h11
    have O : OwnI w11 w4.heap.size uh up := O.kept h11
    replace hf := hf.trans (grown_of_bel h11 _)
    have hs11 : w4.heap.size ≤ w11.heap.size := by have := h11.size; omega
    refine flExC_mk (Xg tb.block) (fun _ _ _ => True) (fun D w' => ∃ q, Tape w' tb l L q ∧ q ≤ p' + (if D 5 = true then 1 else 0)) (fun i _ v w' => (i = 5 → ∃ x, v = .int .i64 x ∧ 0 ≤ x ∧ x ≤ (most : Int)) ∧ (i = 6 → ∃ ad x, v = .slice (some ad) 1 1 ∧ (0 ≤ x ∧ x ≤ (most : Int)) ∧ Sl w' (some ad) 1 1 1 (ints .i64 [x]) ∧ w11.heap.size ≤ ad.block))
      (fun w => grown_refl w _) (fun _ _ _ a b => grown_trans a b) (fun i j ags v w w' _ hΦ hE _ => ⟨hΦ.1, fun e => by
        obtain ⟨ad, x, q1, q2, q3, q4⟩ := hΦ.2 e
        exact ⟨ad, x, q1, q2, q3.xg hE (fun ad' ha _ => by cases ha; omega), q4⟩⟩) ⟨p', ht, by simp⟩ ?_
    refine rdE_box0 (by kernel_rfl) (fun w' hE => V.xg hE (by omega)) rfl rfl ?_
    refine z_i64 (by omega) ?_
    refine flcC_mk (fun D w' hD hE hS _ => ?_) (fun x23 => ?_)
    · obtain ⟨q, hq1, hq2⟩ := hS
      rw [hD] at hq2
      refine call_mono (nextF ((most : Int) + 1) hq1 (by simp at hq2; omega) ⟨by omega, by omega⟩) ?_
      rintro (x : Int) w'' ⟨hx, ht', hg⟩
      exact ⟨hg, trivial, ⟨q + 1, ht', by rw [setD_self]; simp at hq2 ⊢; omega⟩, ⟨fun _ => ⟨x, rfl, hx.1, by have := hx.2; omega⟩, fun e => by omega⟩⟩
    refine flcC_mk (fun D w' hD hE hS hf => ?_) (fun x29 => ?_)
    · obtain ⟨q, hq1, hq2⟩ := hS
      obtain ⟨x', hx', hx2⟩ := hf.1.1 rfl
      injection hx' with _ hx'
      rw [← hx'] at hx2
      refine wr_lit tyI64 #[.int .i64 x23] (fill_one 1 (.int .i64 x23) _ rfl (by simp)) (by omega) (by omega) rfl (by unfold maxLen; omega) fun ad w'' O' hb hbl _ => ?_
      exact ⟨hb.xg _, trivial, ⟨q, hq1.up hb, by rw [setD_ne (by decide)]; exact hq2⟩, ⟨fun e => by omega, fun _ => ⟨ad, x23, rfl, hx2, (O' w'.heap.size (Nat.le_refl _)).sl, by have := hE.size; omega⟩⟩⟩
    refine flendC_mk fun w30 hE hS hfa => ?_
    obtain ⟨q, hq1, hq2⟩ := hS
    obtain ⟨ad, xv, ev, hxv, S, hS11⟩ := hfa.1.2 rfl
    have hq3 : q ≤ p' + 1 := hq2
    simp only [Value.slice.injEq] at ev
    obtain ⟨ev1, ev2, ev3⟩ := ev
    rw [ev1, ev2, ev3]
    have O30 : OwnI w30 w4.heap.size uh up := Own.xg O hE (by omega)
    replace A := A.xg hE (by omega); replace V := V.xg hE (by omega)
    replace hf := hf.trans hE
    refine wr_app tyI64 O30 S (by have := hE.size; omega) rfl (by omega) rfl (by omega) (by unfold maxLen; omega) fun a' c' w33 O33 hg33 _ _ => ?_
    have ho : ∀ k, blk uh.1 = some k → w4.heap.size ≤ k := fun k hk => (O30.lt k hk).1
    have hne1 : some x1.block ≠ blk uh.1 := fun e => by have := ho _ e.symm; omega
    have hne3 : some x3.block ≠ blk uh.1 := fun e => by have := ho _ e.symm; omega
    have htt : Tape w33 tb l L q := ⟨hq1.box.grown hg33 (fun e => by have := ho _ e.symm; omega), hq1.sl.grown hg33 (fun ad ha hx e => by have := hq1.old ad ha (by rintro rfl; exact hx rfl); have := ho _ e.symm; omega), hq1.old, hq1.i64⟩
    refine wu_box (V.grown hg33 hne3) (by kernel_rfl) (show 1 ≤ 3 by omega) rfl fun w34 V' hg34 _ => ?_
    refine z_i64 (by dsimp only; omega) ?_
    refine hag _ (by omega) ⟨xg_put (xg_put hf hg33 fun k hk => .inl (by have := ho k hk; have := hb4.size; omega)) hg34 (fun k hk => .inl (by injection hk; omega)), (A.grown hg33 hne1).xg hg34 (by omega), by have := hg33.size; have := hg34.size; have := hE.size; omega, q, (a', uh.2.1 + 1, c'), up ++ [xv], htt.grown hg34 (by omega), by omega, V', ?_, by simp [hul], ?_⟩
    · have : OwnI w33 w4.heap.size (a', uh.2.1 + 1, c') (up ++ [xv]) := by
        show Own w33 _ _ 1 a' (uh.2.1 + 1) c' (ints .i64 (up ++ [xv]))
        rw [ints_app]; exact O33
      exact Own.xg this hg34 l3
    · intro x hx
      rcases List.mem_append.1 hx with hx | hx
      · exact hub x hx
      · simp at hx; subst hx; exact hxv
  -- all bounds are there
  dsimp only at e
  have hin : i = n := by omega
  subst hin
  clear hag again
  have hol' := O.len
  have SU := O.sl
  have lu : ∀ ad, uh.1 = some ad → ints .i64 up ≠ [] → w4.heap.size ≤ ad.block ∧ ad.block < w10.heap.size := fun ad ha hx => ⟨(O.lt ad.block (by rw [ha]; rfl)).1, SU.lt ad ha hx⟩
  have l10 : w4.heap.size ≤ w10.heap.size := hs4
  refine wr_make tyI64 i rfl rfl (by omega) (by unfold maxLen; omega) fun xd w37 OX h37 hxd _ => ?_
  have OX' : OwnI w37 w10.heap.size (some xd, i, i) (List.replicate i 0) := by
    have := OX w10.heap.size (Nat.le_refl _)
    have hq : (madeCells (Value.int .i64 0).cells (i * 1)).toList = ints .i64 (List.replicate i 0) := by rw [Nat.mul_one]; exact made_int .i64 i
    rw [hq] at this
    exact this
  -- frames from here on: the tape, the system's variable, and what is new
  refine loop_up i (fun j w' => w10.grownBy w' (some tb.block) ∧ ∃ p' xs, Tape w' tb l L p' ∧ p' ≤ p + 1 + i + j ∧ OwnI w' w10.heap.size (some xd, i, i) xs ∧ ∀ x ∈ xs, 0 ≤ x ∧ x ≤ (most : Int))
    ⟨h37.xg _, p', List.replicate i 0, ht.up h37, by omega, OX', fun x hx => by rw [List.eq_of_mem_replicate hx]; omega⟩ fun j w40 hj ⟨hf40, p2, xs, ht, hp2, OX, hxb⟩ again hag _ => ?_
  have hxl := OX.len
  have V40 := V.xg hf40 (by omega)
  have SU40 := SU.xg hf40 (fun ad ha hx => by have := lu ad ha hx; omega)
  refine br_dec (fun e2 => ?_) (fun e2 => ?_)
  · dsimp only at e2
    refine rd_box0 (by kernel_rfl) V40 rfl rfl ?_
    refine at_int tyI64 (by kernel_rfl) SU40 rfl (by omega) fun u hu => ?_
    have hub' := hub u (mem_at hu)
    refine z_i64 (by omega) ?_
    refine call_mono (nextF (u + 1) ht (by omega) ⟨by omega, by omega⟩) ?_
    rintro (x45 : Int) w46 ⟨hx45, ht2, hg46⟩
    have OX46 : OwnI w46 w10.heap.size (some xd, i, i) xs := Own.xg OX hg46 (by omega)
    refine set_mk tyI64 OX46 rfl (show j < i by omega) rfl fun w48 OX48 hg48 _ => ?_
    rw [ints_set] at OX48
    refine z_i64 (by dsimp only; omega) ?_
    have hxd' : w10.heap.size ≤ xd.block := by omega
    refine hag _ (by omega) ⟨xg_put (hf40.trans hg46) hg48 (fun k hk => .inl (by simp [blk] at hk; omega)), p2 + 1, xs.set j x45, Tape.grown (b := xd.block) ht2 hg48 (by omega), by omega, OX48, fun x hx => ?_⟩
    rcases List.mem_or_eq_of_mem_set hx with hx | rfl
    · exact hxb x hx
    · exact ⟨hx45.1, by have := hx45.2; omega⟩
  dsimp only at e2
  clear hag again
  have hji : j = i := by omega
  subst hji
  have SX := OX.sl
  have lx : w10.heap.size ≤ xd.block ∧ xd.block < w40.heap.size := ⟨by omega, (OX.lt xd.block rfl).2⟩
  refine call_mono (nextF 2 ht (by omega) ⟨by omega, by omega⟩) ?_
  rintro (x50 : Int) w51 ⟨_, ht, hg51⟩
  refine z_i64 (by omega) ?_
  refine call_mono (nextF ((rows : Int) + 1) ht (by omega) ⟨by omega, by omega⟩) ?_
  rintro (x53 : Int) w54 ⟨hx53, ht, hg54⟩
  have hf54 := hg51.trans hg54
  have hsz54 := hf54.size
  have hsz40 := hf40.size
  obtain ⟨K, hK⟩ : ∃ K : Nat, x53 = (K : Int) := ⟨x53.toNat, by have := hx53.1; omega⟩
  subst hK
  have hKr : K ≤ rows := by have := hx53.2; omega
  have V54 := V40.xg hf54 (by omega)
  have A54 := (A.xg hf40 (by omega)).xg hf54 (by omega)
  have SU54 := SU40.xg hf54 (fun ad ha hx => by have := lu ad ha hx; omega)
  have SX54 := Sl.xg SX hf54 (fun ad ha _ => by cases ha; omega)
  have hfw54 : w.grownBy w54 (some tb.block) := (hf.trans hf40).trans hf54
  have hA1 : x1.block ≠ tb.block ∧ x1.block ≠ x3.block := ⟨by omega, by omega⟩
  -- what stays while rows are made
  have Kx : ∀ {w' : World}, Xb (fun k => k = tb.block ∨ k = x3.block) w54 w' → Sl w' (some xd) j j 1 (ints .i64 xs) := fun hX => by
    refine ⟨SX54.len, SX54.cap, SX54.most, SX54.nil', fun k u hu => ?_⟩
    obtain ⟨ad, q1, q2, q3⟩ := SX54.at' k u hu
    cases q1
    refine ⟨xd, rfl, ?_, by have := hX.size; omega⟩
    have := hX.block xd.block q3 (by omega)
    unfold World.cell? at q2 ⊢
    rw [add_block] at q2 ⊢
    rw [this]; exact q2
  have Ku : ∀ {w' : World}, Xb (fun k => k = tb.block ∨ k = x3.block) w54 w' → Sl w' uh.1 uh.2.1 uh.2.2 1 (ints .i64 up) := fun hX => by
    refine ⟨SU54.len, SU54.cap, SU54.most, SU54.nil', fun k u hu => ?_⟩
    obtain ⟨ad, q1, q2, q3⟩ := SU54.at' k u hu
    have hne : ints .i64 up ≠ [] := by rintro h0; rw [h0] at hu; simp at hu
    have := lu ad q1 hne
    refine ⟨ad, q1, ?_, by have := hX.size; omega⟩
    have := hX.block ad.block q3 (by omega)
    unfold World.cell? at q2 ⊢
    rw [add_block] at q2 ⊢
    rw [this]; exact q2
  refine loop_gh (G := Nat) (fun m s w' => s = (((K - m : Nat) : Int), ()) ∧ m ≤ K ∧ Xb (fun k => k = tb.block ∨ k = x3.block) w54 w' ∧ Box w' x1 nil3 ∧ ∃ p' rh bh hs T rt, Tape w' tb l L p' ∧ p' ≤ p + 3 + 2 * j + m * (j + 1) ∧
      Box w' x3 [.slice uh.1 uh.2.1 uh.2.2, .slice (rh : Hdr).1 rh.2.1 rh.2.2, .slice (bh : Hdr).1 bh.2.1 bh.2.2] ∧ TabH w' w54.heap.size rh hs ∧ OwnI w' w54.heap.size bh rt ∧ RowsAt w' hs T w54.heap.size (blk rh.1) (blk bh.1) ∧ T.length = m ∧ rt.length = m ∧
      (∀ q ∈ T, q.length = up.length ∧ ∀ x ∈ q, -5 ≤ x ∧ x ≤ 5) ∧ (∀ x ∈ rt, x.natAbs ≤ vars * 50000 + 3)) (fun m => K - m) 0
    ⟨rfl, Nat.zero_le _, Xb.refl _ _, A54, p2 + 1 + 1, (none, 0, 0), (none, 0, 0), [], [], [], ht, by omega, V54, Own.nil _ _ _ _, Own.nil _ _ _ _, ⟨rfl, fun i x q h1 _ => by simp at h1⟩, rfl, rfl, by simp, by simp⟩ ?_
  rintro m s w57 ⟨rfl, hmK, hX, A57, p3, rh, bh, hs, T, rt, ht, hp3, V57, OR, OB, RA, hTl, hrl, hTp, hrp⟩ again hag _
  have hX57 := hX.size
  refine br_dec (fun e3 => ?_) (fun e3 => ?_)
  · dsimp only at e3
    have SX57 := Kx hX
    have hrl0 := OR.len
    have hbl0 := OB.len
    have hhs := RA.1
    have apt : ∀ k, blk rh.1 = some k → blk bh.1 = some k → False := TabH.apart OR OB
    have lR : ∀ k, blk rh.1 = some k → w54.heap.size ≤ k ∧ k < w57.heap.size := fun k hk => OR.lt k hk
    have lB : ∀ k, blk bh.1 = some k → w54.heap.size ≤ k ∧ k < w57.heap.size := fun k hk => OB.lt k hk
    refine join_mk (fun _ w' => Xb (fun k => k = tb.block ∨ k = x3.block) w54 w' ∧ Box w' x1 nil3 ∧ ∃ p' rh bh hs T rt, Tape w' tb l L p' ∧ p' ≤ p + 3 + 2 * j + (m + 1) * (j + 1) ∧
      Box w' x3 [.slice uh.1 uh.2.1 uh.2.2, .slice (rh : Hdr).1 rh.2.1 rh.2.2, .slice (bh : Hdr).1 bh.2.1 bh.2.2] ∧ TabH w' w54.heap.size rh hs ∧ OwnI w' w54.heap.size bh rt ∧ RowsAt w' hs T w54.heap.size (blk rh.1) (blk bh.1) ∧ T.length = m + 1 ∧ rt.length = m + 1 ∧
      (∀ q ∈ T, q.length = up.length ∧ ∀ x ∈ q, -5 ≤ x ∧ x ≤ 5) ∧ (∀ x ∈ rt, x.natAbs ≤ vars * 50000 + 3)) (fun K' hK' => ?_) (fun _ w60 hJ _ => ?_)
    · refine loop_gh (G := Nat) (fun i s w' => ∃ (a : Hdr) (row : List Int) (p' : Nat), s = (a, dotI row xs i, ((i : Nat) : Int), ()) ∧ i ≤ j ∧ w57.grownBy w' (some tb.block) ∧ Tape w' tb l L p' ∧ p' ≤ p3 + i ∧ OwnI w' w57.heap.size a row ∧ row.length = i ∧ (∀ x ∈ row, -5 ≤ x ∧ x ≤ 5) ∧ (dotI row xs i).natAbs ≤ i * 50000) (fun i => j - i) 0
        ⟨(none, 0, 0), [], p3, rfl, Nat.zero_le _, grown_refl _ _, ht, by omega, Own.nil _ _ _ _, rfl, by simp, by simp [dotI]⟩ ?_
      rintro i s w64 ⟨a, row, p4, rfl, hij, hf57, ht, hp4, OA, hrow, hrb, hsum⟩ again2 hag2 _
      have hal := OA.len
      have hs64 := hf57.size
      refine br_dec (fun e4 => ?_) (fun e4 => ?_)
      · dsimp only at e4
        refine call_mono (nextF 11 ht (by have : m * (j + 1) ≤ 20 * 21 := Nat.mul_le_mul (by omega) (by omega); omega) ⟨by omega, by omega⟩) ?_
        rintro (x65 : Int) w66 ⟨hx65, ht, hg66⟩
        refine z_i64 (by omega) ?_
        have OA66 : OwnI w66 w57.heap.size a row := Own.xg OA hg66 (by omega)
        refine wr_app1 tyI64 OA66 (by have := hg66.size; omega) rfl (by omega) (by omega) rfl rfl (by omega) (by unfold maxLen; omega) fun a' c' w71 O71 hg71 _ _ => ?_
        have hoA : ∀ k, blk a.1 = some k → w57.heap.size ≤ k := fun k hk => (OA66.lt k hk).1
        have SX66 := Sl.xg (Sl.xg SX57 hf57 (fun ad ha _ => by cases ha; omega)) hg66 (fun ad ha _ => by cases ha; omega)
        have SX71 := Sl.grown SX66 hg71 (fun ad ha _ e => by cases ha; have := hoA _ e.symm; omega)
        refine at_int tyI64 (by kernel_rfl) SX71 rfl (by omega) fun xv hxv => ?_
        have bx := hxb xv (mem_at hxv)
        have hc : (row ++ [x65 - 5])[i]? = some (x65 - 5) := by rw [List.getElem?_append_right (by omega), hrow, Nat.sub_self]; rfl
        have st : dotI (row ++ [x65 - 5]) xs (i + 1) = dotI row xs i + (x65 - 5) * xv := by rw [dotI_step hc hxv, dotI_snoc (by omega)]
        have bp : ((x65 - 5) * xv).natAbs ≤ 50000 := by
          rw [Int.natAbs_mul]
          exact Nat.le_trans (Nat.mul_le_mul (show (x65 - 5).natAbs ≤ 5 by omega) (show xv.natAbs ≤ 10000 by omega)) (by omega)
        have bs : (dotI (row ++ [x65 - 5]) xs (i + 1)).natAbs ≤ (i + 1) * 50000 := by rw [st]; omega
        refine z_i64 (by omega) ?_
        refine z_i64 (by dsimp only; omega) ?_
        refine z_i64 (by dsimp only; omega) ?_
        have htt : Tape w71 tb l L (p4 + 1) := ⟨ht.box.grown hg71 (fun e => by have := hoA _ e.symm; omega), ht.sl.grown hg71 (fun ad ha hx e => by have := ht.old ad ha (by rintro rfl; exact hx rfl); have := hoA _ e.symm; omega), ht.old, ht.i64⟩
        refine hag2 (i + 1) _ _ ⟨(a', i + 1, c'), row ++ [x65 - 5], p4 + 1, ?_, by omega, xg_put (hf57.trans hg66) hg71 (fun k hk => .inl (hoA k hk)), htt, by omega, ?_, by simp [hrow], fun x hx => ?_, bs⟩ (by omega)
        · rw [st]
          have : a.2.1 = i := by omega
          rw [this]; rfl
        · show Own w71 _ _ 1 a' (i + 1) c' (ints .i64 (row ++ [x65 - 5]))
          have : a.2.1 = i := by omega
          rw [ints_app, ← this]; exact O71
        · rcases List.mem_append.1 hx with hx | hx
          · exact hrb x hx
          · simp at hx; subst hx; omega
      dsimp only at e4
      have hij' : i = j := by omega
      subst hij'
      have bmul : m * (i + 1) ≤ 20 * 21 := Nat.mul_le_mul (by omega) (by omega)
      have bi : i * 50000 ≤ vars * 50000 := Nat.mul_le_mul (by omega) (Nat.le_refl _)
      refine join_mk (fun s w' => s.1.natAbs ≤ vars * 50000 + 3 ∧ w57.grownBy w' (some tb.block) ∧ OwnI w' w57.heap.size a row ∧ ∃ p', Tape w' tb l L p' ∧ p' ≤ p3 + i + 1) (fun K'' hK'' => ?_) (fun s w79 hh _ => ?_)
      · refine br_not (fun _ => ?_) (fun _ => hK'' _ _ ⟨Nat.le_trans hsum (Nat.le_trans bi (Nat.le_add_right _ _)), hf57, OA, p4, ht, by omega⟩)
        refine call_mono (nextF 7 ht (by omega) ⟨by omega, by omega⟩) ?_
        rintro (x115 : Int) w116 ⟨hx115, ht, hg116⟩
        refine z_i64 (by omega) ?_
        refine z_i64 (by dsimp only; omega) ?_
        exact hK'' _ _ ⟨by dsimp only; omega, hf57.trans hg116, Own.xg OA hg116 (by omega), p4 + 1, ht, by omega⟩
      obtain ⟨sv, _⟩ := s
      obtain ⟨hsv, hf79, OA, p5, ht, hp5⟩ := hh
      dsimp only at hsv
      have hs79 := hf79.size
      refine drw_mk fun w80 h80 _ => ?_
      replace ht := ht.up h80
      have hf80 : w57.grownBy w80 (some tb.block) := hf79.trans (grown_of_bel h80 _)
      have hs80 := hf80.size
      have OR80 : TabH w80 w54.heap.size rh hs := Own.xg OR hf80 (by omega)
      have OB80 : OwnI w80 w54.heap.size bh rt := Own.xg OB hf80 (by omega)
      have OA80 : OwnI w80 w57.heap.size a row := Own.kept OA h80
      have V80 := V57.xg hf80 (by omega)
      have nx3 : ¬ (blk rh.1 = some x3.block ∨ blk bh.1 = some x3.block) := by rintro (q | q); have := lR _ q; omega; have := lB _ q; omega
      have blB : ∀ {k w'}, blk rh.1 = some k ∨ blk bh.1 = some k → w80.heap.size ≤ w'.heap.size → k < (w' : World).heap.size := by
        rintro k w' (q | q) h
        · have := lR _ q; omega
        · have := lB _ q; omega
      refine flExC_mk (Xb (fun k => blk rh.1 = some k ∨ blk bh.1 = some k)) (fun jj w w' => (jj = 4 → w.grownBy w' (blk rh.1)) ∧ (jj = 9 → w.grownBy w' (blk bh.1)) ∧ (jj ≠ 4 → jj ≠ 9 → bel w w'))
        (fun D w' => (D 4 = false → TabH w' w54.heap.size rh hs) ∧ (D 9 = false → OwnI w' w54.heap.size bh rt))
        (fun i _ v w' => (i = 3 → ∃ ad, v = .slice (some ad) 1 1 ∧ Sl w' (some ad) 1 1 1 [hv a] ∧ w80.heap.size ≤ ad.block) ∧ (i = 8 → ∃ ad, v = .slice (some ad) 1 1 ∧ Sl w' (some ad) 1 1 1 (ints .i64 [sv]) ∧ w80.heap.size ≤ ad.block) ∧
          (i = 4 → ∃ a' c', v = .slice a' (rh.2.1 + 1) c' ∧ TabH w' w54.heap.size (a', rh.2.1 + 1, c') (hs ++ [a]) ∧ (blk a' = blk rh.1 ∨ ∀ k, blk a' = some k → w80.heap.size ≤ k)) ∧
          (i = 9 → ∃ a' c', v = .slice a' (bh.2.1 + 1) c' ∧ OwnI w' w54.heap.size (a', bh.2.1 + 1, c') (rt ++ [sv]) ∧ (blk a' = blk bh.1 ∨ ∀ k, blk a' = some k → w80.heap.size ≤ k)))
        (fun w => Xb.refl _ w) (fun _ _ _ x y => Xb.trans x y) (fun i jj ags v w w' hne hΦ hE hG => ⟨fun e => ?_, fun e => ?_, fun e => ?_, fun e => ?_⟩) ⟨fun _ => OR80, fun _ => OB80⟩ ?_
      · obtain ⟨ad, q1, q2, q3⟩ := hΦ.1 e
        exact ⟨ad, q1, q2.xb hE (fun ad' ha _ q => by cases ha; have := blB q (Nat.le_refl _); omega), q3⟩
      · obtain ⟨ad, q1, q2, q3⟩ := hΦ.2.1 e
        exact ⟨ad, q1, q2.xb hE (fun ad' ha _ q => by cases ha; have := blB q (Nat.le_refl _); omega), q3⟩
      · obtain ⟨a', c', q1, q2, q3⟩ := hΦ.2.2.1 e
        refine ⟨a', c', q1, ?_, q3⟩
        by_cases hj9 : jj = 9
        · refine Own.keptBy q2 (hG.2.1 hj9) ?_
          cases hk : blk a' with
          | none => exact .inl rfl
          | some k =>
            refine .inr fun q => ?_
            rcases q3 with q3 | q3
            · exact apt k (by rw [← q3, hk]) q.symm
            · have := q3 k hk; have := lB k q.symm; omega
        · exact Own.kept q2 (hG.2.2 (fun q => hne (e.trans q.symm)) hj9)
      · obtain ⟨a', c', q1, q2, q3⟩ := hΦ.2.2.2 e
        refine ⟨a', c', q1, ?_, q3⟩
        by_cases hj4 : jj = 4
        · refine Own.keptBy q2 (hG.1 hj4) ?_
          cases hk : blk a' with
          | none => exact .inl rfl
          | some k =>
            refine .inr fun q => ?_
            rcases q3 with q3 | q3
            · exact apt k q.symm (by rw [← q3, hk])
            · have := q3 k hk; have := lR k q.symm; omega
        · exact Own.kept q2 (hG.2.2 hj4 (fun q => hne (e.trans q.symm)))
      have xbel : ∀ {w w' : World}, bel w w' → Xb (fun k => blk rh.1 = some k ∨ blk bh.1 = some k) w w' := fun hb => Xb.of (grown_of_bel hb none) (fun k hk => by cases hk)
      refine rdE_box (by kernel_rfl) (fun w' hE => V80.xb hE nx3) (i := 1) rfl rfl ?_
      refine flcC_mk (fun D w' hD hE hS _ => ?_) (fun (x91 : Hdr) => ?_)
      · refine wr_lit tyTab #[.slice a.1 a.2.1 a.2.2] (fill_one 1 (.slice a.1 a.2.1 a.2.2) _ rfl (by simp)) (by omega) (by omega) rfl (by unfold maxLen; omega) fun ad w'' O' hb hbl _ => ?_
        exact ⟨xbel hb, ⟨fun e => by omega, fun e => by omega, fun _ _ => hb⟩, ⟨fun q => Own.kept (hS.1 (by rw [setD_ne (by decide)] at q; exact q)) hb, fun q => Own.kept (hS.2 (by rw [setD_ne (by decide)] at q; exact q)) hb⟩, ⟨fun _ => ⟨ad, rfl, (O' w'.heap.size (Nat.le_refl _)).sl, by have := hE.size; omega⟩, fun e => by omega, fun e => by omega, fun e => by omega⟩⟩
      refine flcC_mk (fun D w' hD hE hS hf => ?_) (fun (x97 : Hdr) => ?_)
      · obtain ⟨ad, ev, S, hS80⟩ := hf.1.1 rfl
        simp only [Value.slice.injEq] at ev
        obtain ⟨ev1, ev2, ev3⟩ := ev
        rw [ev1, ev2, ev3]
        have OR' := hS.1 hD
        refine wr_app tyTab OR' S (by have := hE.size; omega) rfl (by omega) rfl (by omega) (by unfold maxLen; omega) fun a' c' w'' O' hg hnew _ => ?_
        refine ⟨Xb.of hg (fun k hk => .inl hk), ⟨fun _ => hg, fun e => by omega, fun e => absurd rfl e⟩, ⟨(fun q => by rw [setD_self] at q; cases q), fun q => Own.keptBy (hS.2 (by rw [setD_ne (by decide)] at q; exact q)) hg ?_⟩, ⟨fun e => by omega, fun e => by omega, fun _ => ⟨a', c', rfl, ?_, ?_⟩, fun e => by omega⟩⟩
        · cases hk : blk bh.1 with
          | none => exact .inl rfl
          | some k => exact .inr fun q => apt k q.symm hk
        · show Own w'' _ _ 1 a' (rh.2.1 + 1) c' ((hs ++ [a]).map hv)
          rw [List.map_append]; exact O'
        · rcases hnew with q | q
          · exact .inl q
          · exact .inr fun k hk => by have := q k hk; have := hE.size; omega
      refine rdE_box (by kernel_rfl) (fun w' hE => V80.xb hE nx3) (i := 2) rfl rfl ?_
      refine flcC_mk (fun D w' hD hE hS _ => ?_) (fun (x104 : Hdr) => ?_)
      · refine wr_lit tyI64 #[.int .i64 sv] (fill_one 1 (.int .i64 sv) _ rfl (by simp)) (by omega) (by omega) rfl (by unfold maxLen; omega) fun ad w'' O' hb hbl _ => ?_
        exact ⟨xbel hb, ⟨fun e => by omega, fun e => by omega, fun _ _ => hb⟩, ⟨fun q => Own.kept (hS.1 (by rw [setD_ne (by decide)] at q; exact q)) hb, fun q => Own.kept (hS.2 (by rw [setD_ne (by decide)] at q; exact q)) hb⟩, ⟨fun e => by omega, fun _ => ⟨ad, rfl, (O' w'.heap.size (Nat.le_refl _)).sl, by have := hE.size; omega⟩, fun e => by omega, fun e => by omega⟩⟩
      refine flcC_mk (fun D w' hD hE hS hf => ?_) (fun (x110 : Hdr) => ?_)
      · obtain ⟨ad, ev, S, hS80⟩ := hf.1.2.1 rfl
        simp only [Value.slice.injEq] at ev
        obtain ⟨ev1, ev2, ev3⟩ := ev
        rw [ev1, ev2, ev3]
        have OB' := hS.2 hD
        refine wr_app tyI64 OB' S (by have := hE.size; omega) rfl (by omega) rfl (by omega) (by unfold maxLen; omega) fun a' c' w'' O' hg hnew _ => ?_
        refine ⟨Xb.of hg (fun k hk => .inr hk), ⟨fun e => by omega, fun _ => hg, fun _ e => absurd rfl e⟩, ⟨fun q => Own.keptBy (hS.1 (by rw [setD_ne (by decide)] at q; exact q)) hg ?_, (fun q => by rw [setD_self] at q; cases q)⟩, ⟨fun e => by omega, fun e => by omega, fun e => by omega, fun _ => ⟨a', c', rfl, ?_, ?_⟩⟩⟩
        · cases hk : blk rh.1 with
          | none => exact .inl rfl
          | some k => exact .inr fun q => apt k hk q.symm
        · show Own w'' _ _ 1 a' (bh.2.1 + 1) c' (ints .i64 (rt ++ [sv]))
          rw [ints_app]; exact O'
        · rcases hnew with q | q
          · exact .inl q
          · exact .inr fun k hk => by have := q k hk; have := hE.size; omega
      refine flendC_mk fun w111 hE hS hfa => ?_
      obtain ⟨f9, _, f4, _⟩ := hfa
      obtain ⟨b1, d1, ev, OB1, hb1⟩ := f9.2.2.2 rfl
      have e9 : x110 = (b1, bh.2.1 + 1, d1) := sl_inj ev
      obtain ⟨a1, c1, ev, OR1, ha1⟩ := f4.2.2.1 rfl
      have e4' : x97 = (a1, rh.2.1 + 1, c1) := sl_inj ev
      subst e9 e4'
      have hs111 := hE.size
      have V111 := V80.xb hE nx3
      have ht111 := ht.xb hE (by rintro k (q | q); have := lR _ q; omega; have := lB _ q; omega)
      have A111 := (A57.xg hf80 (by omega)).xb hE (by rintro (q | q); have := lR _ q; omega; have := lB _ q; omega)
      have RA80 := RA.grown hf80 (.inl fun k hk => by injection hk; omega)
      have RA111 := RA80.xb hE (fun k q => q)
      have SA := OA80.sl
      have lA : ∀ ad, a.1 = some ad → w57.heap.size ≤ ad.block ∧ ad.block < w80.heap.size := fun ad ha => OA80.lt ad.block (by rw [ha]; rfl)
      have SA111 := SA.xb hE (fun ad ha _ q => by
        rcases q with q | q
        · have := lR _ q; have := lA ad ha; omega
        · have := lB _ q; have := lA ad ha; omega)
      have RA2 : RowsAt w111 (hs ++ [a]) (T ++ [row]) w54.heap.size (blk a1) (blk b1) := by
        refine ⟨by simp [hhs], fun k x q g1 g2 => ?_⟩
        have off : ∀ ad : Addr, w54.heap.size ≤ ad.block → ad.block < w80.heap.size → some ad.block ≠ blk rh.1 → some ad.block ≠ blk bh.1 → some ad.block ≠ blk a1 ∧ some ad.block ≠ blk b1 := by
          intro ad q1 q2 q3 q4
          constructor
          · intro e
            rcases ha1 with r | r
            · exact q3 (e.trans r)
            · have := r _ e.symm; omega
          · intro e
            rcases hb1 with r | r
            · exact q4 (e.trans r)
            · have := r _ e.symm; omega
        rcases Nat.lt_or_ge k hs.length with r | r
        · rw [List.getElem?_append_left r] at g1
          rw [List.getElem?_append_left (by omega)] at g2
          obtain ⟨s1, s2⟩ := RA111.2 k x q g1 g2
          obtain ⟨_, s3⟩ := RA80.2 k x q g1 g2
          refine ⟨s1, fun ad ha => ?_⟩
          obtain ⟨r1, r2, r3, r4⟩ := s3 ad ha
          obtain ⟨o1, o2⟩ := off ad r1 r2 r3 r4
          exact ⟨r1, by omega, o1, o2⟩
        · rw [List.getElem?_append_right r] at g1
          rw [List.getElem?_append_right (by omega)] at g2
          have hk0 : k - hs.length = 0 := by
            rcases Nat.eq_zero_or_pos (k - hs.length) with z | z
            · exact z
            · rw [List.getElem?_eq_none (by simp; omega)] at g1; cases g1
          rw [hk0] at g1
          rw [show k - T.length = 0 by omega] at g2
          cases g1; cases g2
          refine ⟨SA111, fun ad ha => ?_⟩
          have := lA ad ha
          obtain ⟨o1, o2⟩ := off ad (by omega) (by omega) (fun e => by have := lR _ e.symm; omega) (fun e => by have := lB _ e.symm; omega)
          exact ⟨by omega, by omega, o1, o2⟩
      refine wu_boxi V111 (by kernel_rfl) (show 1 < 3 by omega) rfl fun w113 V113 hg113 _ => ?_
      refine wu_boxi V113 (by kernel_rfl) (show 2 < 3 by omega) rfl fun w114 V114 hg114 _ => ?_
      have hg2 : w111.grownBy w114 (some x3.block) := hg113.trans hg114
      refine hK' _ _ ⟨?_, A111.xg hg2 (by omega), p5, (a1, rh.2.1 + 1, c1), (b1, bh.2.1 + 1, d1), hs ++ [a], T ++ [row], rt ++ [sv], ht111.grown hg2 (by omega), ?_, V114, Own.xg OR1 hg2 (by omega), Own.xg OB1 hg2 (by omega), RA2.grown hg2 (.inl fun k hk => by injection hk; omega), by simp [hTl], by simp [hrl], ?_, ?_⟩
      · refine ((hX.more (Xb.of (S := fun k => k = tb.block) hf80 (fun k hk => by injection hk with hk; exact hk.symm)) (fun k q => .inl (.inl q))).more hE (fun k q => .inr ?_)).more (Xb.of (S := fun k => k = x3.block) hg2 (fun k hk => by injection hk with hk; exact hk.symm)) (fun k q => .inl (.inr q))
        rcases q with q | q
        · exact (lR k q).1
        · exact (lB k q).1
      · have : (m + 1) * (i + 1) = m * (i + 1) + (i + 1) := by rw [Nat.add_mul, Nat.one_mul]
        omega
      · intro q hq
        rcases List.mem_append.1 hq with hq | hq
        · exact hTp q hq
        · simp at hq; subst hq; exact ⟨by omega, hrb⟩
      · intro x hx
        rcases List.mem_append.1 hx with hx | hx
        · exact hrp x hx
        · simp at hx; subst hx; exact hsv
    · obtain ⟨g1, g2, g3⟩ := hJ
      refine z_i64 (by dsimp only; omega) ?_
      refine hag (m + 1) _ _ ⟨?_, by omega, g1, g2, g3⟩ (by omega)
      have : (((K - m : Nat) : Int) - 1) = ((K - (m + 1) : Nat) : Int) := by omega
      rw [this]
  · dsimp only at e3
    have hmK' : m = K := by omega
    subst hmK'
    refine rd_boxN V57 (by kernel_rfl) rfl ?_
    refine wu_box A57 (by kernel_rfl) (Nat.le_refl 3) rfl fun w108 A108 hg108 _ => ?_
    have hhl := OR.len
    refine rd_boxV A108 (by kernel_rfl) rfl ⟨((uh, rh, bh, ()) : Hdr × Hdr × Hdr × Unit), rfl, up, T, rt, p3, ⟨by omega, by omega, by omega, by omega, hTp, hub, hrp⟩, fun w2 hg2 => ⟨?_, ?_, ?_⟩, ht.grown hg108 (by omega), ?_, ?_⟩
    · exact Sl.xg (Sl.xg (Ku hX) hg108 (fun ad ha hx => by have := lu ad ha hx; omega)) hg2 (fun ad ha hx => by have := lu ad ha hx; omega)
    · have OR2 := Own.xg (Own.xg OR hg108 (by omega)) hg2 (by omega)
      have RA2 := (RA.grown hg108 (.inl fun k hk => by injection hk; omega)).grown hg2 (.inl fun k hk => by injection hk; omega)
      exact ⟨hs, OR2.sl, RA2.1, fun i x q h1 h2 => (RA2.2 i x q h1 h2).1⟩
    · exact Own.sl (Own.xg (Own.xg OB hg108 (by omega)) hg2 (by omega))
    · have : m * (j + 1) ≤ 20 * 21 := Nat.mul_le_mul (by omega) (by omega)
      omega
    · refine xg_put (o := some x1.block) ?_ hg108 (fun k hk => .inl (by injection hk; omega))
      exact ⟨hX.os.trans hfw54.os, hX.tape.trans hfw54.tape, hX.output.trans hfw54.output, by have := hfw54.size; omega, fun k hk hne => by
        rw [hX.block k (by have := hfw54.size; omega) (by rintro (q | q); exact hne (by rw [q]); omega), hfw54.block k hk hne]⟩
end Go.Proofs.Ytajpdnphamomjaa

/- The walk of LinearCombines. -/

namespace Go.Proofs.Ytajpdnphamomjaa
open Go.RowKit Go.Q Go.Q.Num Go.V

theorem tyFracTab : TyS Try.prog 53 33 (.slice none 0 0) 1 24 := ⟨by kernel_rfl, by kernel_rfl⟩
theorem fill_two (a b : Hdr) : Instr.fill (fun i => some (i * 1, 1)) ((Array.range (2 * 1)).map ((Value.slice none 0 0).cells[· % (Value.slice none 0 0).cells.size]!)) (#[(0, .slice a.1 a.2.1 a.2.2), (1, .slice b.1 b.2.1 b.2.2)] : Array (Nat × Value)).toList = some #[.slice a.1 a.2.1 a.2.2, .slice b.1 b.2.1 b.2.2] := by kernel_rfl
theorem tape_new {w w' : World} {tb : Addr} {l : Hdr} {L : List Int} (S : Sl w l.1 l.2.1 l.2.2 1 (ints .i64 L)) (hI : ∀ x ∈ L, I64 x) (X : Box w' tb [.slice l.1 l.2.1 l.2.2, .int .i64 0]) (hb : bel w w') (hn : tb.block = w.heap.size) : Tape w' tb l L 0 :=
  ⟨X, S.up hb, fun ad ha hx => by have := S.lt ad ha (by intro e; cases L with | nil => exact hx rfl | cons x L => cases e); omega, hI⟩
theorem Tape.put {w w' : World} {tb : Addr} {l : Hdr} {L : List Int} {p : Nat} {o : Option Nat} (h : Tape w tb l L p) (hg : w.grownBy w' o) (ho : ∀ k, o = some k → tb.block < k) : Tape w' tb l L p :=
  ⟨h.box.grown hg (fun e => by have := ho _ e.symm; omega), h.sl.grown hg (fun ad ha hx e => by have := h.old ad ha (by rintro rfl; exact hx rfl); have := ho _ e.symm; omega), h.old, h.i64⟩
abbrev OwnF (w : World) (B : Nat) (h : Hdr) (M : List (Int × Int)) : Prop := Own w B 23 2 h.1 h.2.1 h.2.2 (M.flatMap encF)
theorem Own.putNew {w w' : World} {B : Nat} {e : TypeId} {sz : Nat} {a : Option Addr} {n c : Nat} {xs : List Value} {k : Nat} (O : Own w B e sz a n c xs) (h : w.grownBy w' (some k)) (hk : ∀ j, blk a = some j → j ≠ k) : Own w' B e sz a n c xs := by
  refine O.keptBy h ?_
  cases hj : blk a with
  | none => exact .inl rfl
  | some j => exact .inr fun q => hk j hj (by injection q)
theorem fr_put {C : List (Int × Int)} {h : Hdr} {w w' : World} {X : Addr} (hC : ∀ p ∈ C, p.2 ≠ 0) (S : Sl w h.1 h.2.1 h.2.2 2 (C.flatMap encF)) (B : Box w X [.int .i64 0, .int .i64 0]) (hg : w.grownBy w' (some X.block)) : Sl w' h.1 h.2.1 h.2.2 2 (C.flatMap encF) := by
  refine S.grown hg fun ad ha hx e => ?_
  injection e with e
  cases C with
  | nil => exact hx rfl
  | cons q C =>
    have hq := hC q (List.mem_cons_self ..)
    obtain ⟨ad', h1, h2, _⟩ := S.at' 1 (.int .i64 q.2) rfl
    rw [ha] at h1; cases h1
    obtain ⟨T, hT⟩ := B.blk
    unfold World.cell? at h2
    rw [add_block, e, hT] at h2
    simp only at h2
    split at h2
    · cases h2
    · generalize (ad.add 1).off = o at h2
      match o, h2 with
      | 0, h2 => simp at h2; exact hq h2.symm
      | 1, h2 => simp at h2; exact hq h2.symm
      | o + 2, h2 => simp at h2
theorem CombR.put {up : List Int} {T : List (List Int)} {rt : List Int} {M : List (Int × Int)} {x : CT} {w w' : World} {X : Addr} (h : CombR up T rt M x w) (B : Box w X [.int .i64 0, .int .i64 0]) (hg : w.grownBy w' (some X.block)) : CombR up T rt M x w' :=
  ⟨h.1, fun e => ⟨fr_put (fun p hp => by
    simp only [cols, List.mem_map] at hp
    obtain ⟨k, _, rfl⟩ := hp
    have := (colQ T M k).den_pos
    show (((colQ T M k).den : Nat) : Int) ≠ 0
    omega) (h.2.1 e).1 B hg, (h.2.1 e).2⟩, h.2.2⟩
set_option maxHeartbeats 4000000 in
theorem linCombines (l m lo : Hdr) (L : List Int) (M : List (Int × Int)) (ls : List Int) (w : World) (HL : Sl w l.1 l.2.1 l.2.2 1 (ints .i64 L)) (hL : ∀ x ∈ L, I64 x) (HM : Sl w m.1 m.2.1 m.2.2 2 (M.flatMap encF)) (hI : ∀ p ∈ M, I64 p.1 ∧ I64 p.2)
    (HLo : Sl w lo.1 lo.2.1 lo.2.2 1 (ints .i64 ls)) :
    Calls Try.prog 8 #[.slice l.1 l.2.1 l.2.2, .slice m.1 m.2.1 m.2.2, .slice lo.1 lo.2.1 lo.2.2] w (fun e w' => e = .returned (.bool true) ∧ Below w.heap.size w w') := by
  refine Calls.mono (S8_calls l.1 l.2.1 l.2.2 m.1 m.2.1 m.2.2 lo.1 lo.2.1 lo.2.2 w (fun v w' => v = .bool true ∧ bel w w') ?_) (by rintro e w' ⟨v, rfl, rfl, hb⟩; exact ⟨rfl, hb⟩)
  unfold S8
  refine br_dec (fun _ => ⟨rfl, Below.refl _ _⟩) (fun _ => ?_)
  refine br_dec (fun _ => ⟨rfl, Below.refl _ _⟩) (fun _ => ?_)
  refine wr_box fun x1 w2 TB h2 hx1 _ => ?_
  have ht := tape_new HL hL TB h2 hx1
  refine call_mono (systemF 5 3 9 ht (by omega) (by omega) (by omega) (by omega) (by omega)) ?_
  rintro ((x3 : Hdr × Hdr × Hdr × Unit)) w4 ⟨up, T, rt, p, MS, HS, ht, hp, hg4⟩
  obtain ⟨u, r, b, _⟩ := x3
  dsimp only at HS
  have hs4 : w.heap.size < w4.heap.size := by have := hg4.size; have := TB.lt; omega
  refine var_mk (v := sysv u r b) (z := .agg #[.slice none 0 0, .slice none 0 0, .slice none 0 0]) (by kernel_rfl) (by kernel_rfl) rfl rfl fun x5 w7 X h7 hx5 => ?_
  replace X : Box w7 x5 (sysc u r b) := X
  refine wr_lit0 tyFracs fun ad w9 O h9 _ _ => ?_
  replace O : OwnF w9 w7.heap.size (some ad, 0, 0) [] := O w7.heap.size (Nat.le_refl _)
  have hs7 := h7.size
  have hs9 := h9.size
  have hl7 := X.lt
  have hB : w4.grownBy w7 (some x1.block) := grown_of_bel h7 _
  have hB2 := hB.size
  refine loop_upA r.2.1 (fun i a w' => w7.grownBy w' (some x1.block) ∧ ∃ M p', Tape w' x1 l L p' ∧ p' ≤ p + 2 * i ∧ OwnF w' w7.heap.size a M ∧ M.length = i ∧ ∀ p ∈ M, I64 p.1 ∧ I64 p.2)
    ⟨grown_of_bel h9 _, [], p, (ht.up h7).up h9, by omega, O, rfl, by simp⟩ fun i a w12 hi ⟨hf, N, q, ht, hq, O, hNl, hNI⟩ again hag _ => ?_
  have X9 := X.xg hf (by omega)
  have hr3 : r.2.1 ≤ 3 := by have := (HS w7 hB).r.len; have := MS.t; omega
  have hsz12 := hf.size
  have hOl := fr_len O.sl
  refine rd_box (by kernel_rfl) X9 (i := 1) rfl rfl ?_
  refine br_dec (fun e => ?_) (fun e => ?_)
  · dsimp only at e
    refine join_mk (fun s w' => w7.grownBy w' (some x1.block) ∧ ∃ M p', Tape w' x1 l L p' ∧ p' ≤ p + 2 * (i + 1) ∧ OwnF w' w7.heap.size s.1 M ∧ M.length = i + 1 ∧ ∀ p ∈ M, I64 p.1 ∧ I64 p.2) (fun K hK => ?_) (fun s w16 hJ _ => ?_)
    · refine call_mono (nextF 9 ht (by omega) ⟨by omega, by omega⟩) ?_
      rintro (x18 : Int) w19 ⟨hx18, ht, hg19⟩
      have O19 : OwnF w19 w7.heap.size a N := Own.xg O hg19 (by omega)
      have hs19 := hg19.size
      refine z_i64 (by omega) ?_
      refine var_mk (v := .agg #[.int .i64 (x18 - 4), .int .i64 1]) (z := .agg #[.int .i64 0, .int .i64 0]) (by kernel_rfl) (by kernel_rfl) rfl rfl fun x21 w23 Y h23 hx21 => ?_
      replace Y : Box w23 x21 [.int .i64 (x18 - 4), .int .i64 1] := Y
      have hl21 := Y.lt
      have lO : ∀ j, blk a.1 = some j → w7.heap.size ≤ j ∧ j < w12.heap.size := fun j hj => O.lt j hj
      replace hf := (hf.trans hg19).trans (grown_of_bel h23 _)
      have O23 : OwnF w23 w7.heap.size a N := Own.kept O19 h23
      have lO2 : ∀ j, blk a.1 = some j → j ≠ x21.block := fun j hj => by have := lO j hj; omega
      refine join_mk (fun _ w' => w7.grownBy w' (some x1.block) ∧ ∃ p' d, Tape w' x1 l L p' ∧ p' ≤ q + 2 ∧ OwnF w' w7.heap.size a N ∧ Box w' x21 [.int .i64 (x18 - 4), .int .i64 d] ∧ I64 d) (fun K2 hK2 => ?_) (fun _ w26 hJ2 _ => ?_)
      · refine call_mono (nextF 3 (ht.up h23) (by omega) ⟨by omega, by omega⟩) ?_
        rintro (x32 : Int) w33 ⟨hx32, ht, hg33⟩
        have hs33 := hg33.size
        have O33 : OwnF w33 w7.heap.size a N := Own.xg O23 hg33 (by omega)
        have Y33 := Y.xg hg33 (by omega)
        replace hf := hf.trans hg33
        refine br_eq (fun _ => ?_) (fun _ => hK2 _ _ ⟨hf, _, 1, ht, by omega, O33, Y33, by omega, by omega⟩)
        refine rd_box0 (by kernel_rfl) Y33 rfl rfl ?_
        refine rdp_rem (by omega) ?_
        refine br_ne (fun _ => ?_) (fun _ => hK2 _ _ ⟨hf, _, 1, ht, by omega, O33, Y33, by omega, by omega⟩)
        refine wu_boxi Y33 (by kernel_rfl) (show 1 < 2 by omega) rfl fun w36 Y36 hg36 _ => ?_
        exact hK2 _ _ ⟨xg_put hf hg36 (fun k hk => .inl (by injection hk; omega)), _, 2, ht.grown hg36 (by omega), by omega, Own.putNew O33 hg36 lO2, Y36, by omega, by omega⟩
      · obtain ⟨hf, q2, d, ht, hq2, O, Y, hd⟩ := hJ2
        refine rd_boxN Y (by kernel_rfl) rfl ?_
        refine wr_app1 tyFracs O (by have := hf.size; omega) rfl (by omega) (by omega) rfl rfl (by omega) (by unfold maxLen; omega) fun a' c' w31 O' hg _ _ => ?_
        have lO3 : ∀ j, blk a.1 = some j → w7.heap.size ≤ j := fun j hj => (lO j hj).1
        refine hK _ _ ⟨xg_put hf hg (fun k hk => .inl (lO3 k hk)), N ++ [(x18 - 4, d)], q2, ht.put hg (fun k hk => by have := lO3 k hk; omega), by omega, ?_, by simp [hNl], ?_⟩
        · show Own w31 _ _ 2 a' (a.2.1 + 1) c' ((N ++ [(x18 - 4, d)]).flatMap encF)
          rw [List.flatMap_append]; exact O'
        · intro p hp
          rcases List.mem_append.1 hp with hp | hp
          · exact hNI p hp
          · simp at hp; subst hp; exact ⟨⟨by omega, by omega⟩, hd⟩
    · obtain ⟨⟨a1, a2, a3⟩, _⟩ := s
      refine z_i64 (by dsimp only; omega) ?_
      exact hag _ _ (by omega) hJ
  dsimp only at e
  clear hag again
  -- both are there
  have hO : bel w w12 := (h2.grownAt hg4 (by omega)).grownAt (hB.trans hf) (by omega)
  replace H := HS w12 (hB.trans hf)
  refine wr_lit tyFracTab #[hv m, hv a] (fill_two m a) (by omega) (by omega) rfl (by unfold maxLen; omega) fun ad2 w38 O2 h38 _ _ => ?_
  have TT := (O2 w12.heap.size (Nat.le_refl _)).sl
  have FA : ∀ (k : Nat) (x : Hdr), [m, a][k]? = some x → ∃ M : List (Int × Int), Sl w38 x.1 x.2.1 x.2.2 2 (M.flatMap encF) ∧ ∀ p ∈ M, I64 p.1 ∧ I64 p.2 := by
    intro k x hx
    match k, hx with
    | 0, hx => cases hx; exact ⟨M, HM.up (hO.trans h38), hI⟩
    | 1, hx => cases hx; exact ⟨N, O.sl.up h38, hNI⟩
  replace H := H.up h38; replace X := X9.up h38
  have HLo := HLo.up (hO.trans h38)
  replace hO := hO.trans h38
  refine loop_up 2 (fun j w' => bel w38 w') (Below.refl _ _) fun j w41 hj hw again hag _ => ?_
  refine br_dec (fun e => ?_) (fun _ => ⟨rfl, hO.trans hw⟩)
  dsimp only at e
  have hj2 : j < 2 := by omega
  clear e
  have hO := hO.trans hw; have H := H.up hw; have X := X.up hw; have HLo := HLo.up hw; have TT := TT.up hw
  have FA : ∀ (k : Nat) (x : Hdr), [m, a][k]? = some x → ∃ M : List (Int × Int), Sl w41 x.1 x.2.1 x.2.2 2 (M.flatMap encF) ∧ ∀ p ∈ M, I64 p.1 ∧ I64 p.2 := fun k x hx => by
    obtain ⟨M, h1, h2⟩ := FA k x hx
    exact ⟨M, h1.up hw, h2⟩
  obtain ⟨mm, hmm⟩ : ∃ mm, [m, a][j]? = some mm := ⟨_, List.getElem?_eq_getElem (by simpa using hj2)⟩
  obtain ⟨M', HM', hI'⟩ := FA j mm hmm
  have at2 : ∀ {w : World} {K : Hdr → Prop}, bel w41 w → K mm → rdp Try.prog (Instr.indexAt 53 (.slice (some ad2) 2 2) (.int .i64 (j : Int))) (.one .addr) fun ad => rd Try.prog (Instr.loadAt 33 (.pointer (some ad))) (.one .slice) w K := fun hb hk =>
    at_hdr tyFracTab (by kernel_rfl) (TT.up hb) rfl hj2 fun x hx => by rw [hmm] at hx; cases hx; exact hk
  -- both combinations
  have hu5 : up.length ≤ 5 := MS.n2
  have hul := H.u.int
  refine drw_mk fun w42 h42 _ => ?_
  refine flEx_mk (fun i _ v w' => (i = 5 → ∃ x : CT, v = .tuple #[.slice x.1.1 x.1.2.1 x.1.2.2, .agg #[.int .i64 x.2.1.1, .int .i64 x.2.1.2.1], .int .i64 x.2.2.1] ∧ CombR up T rt M' x w') ∧ (i = 10 → ∃ ad, v = .pointer (some ad) ∧ Box w' ad [.int .i64 0, .int .i64 0] ∧ w42.heap.size ≤ ad.block))
    (fun _ _ _ _ _ h hb => ⟨fun e => by obtain ⟨t, q1, q2⟩ := h.1 e; exact ⟨t, q1, q2.up hb⟩, fun e => by obtain ⟨t, q1, q2, q3⟩ := h.2 e; exact ⟨t, q1, q2.up hb, q3⟩⟩) ?_
  refine rd_boxN (X.up h42) (by kernel_rfl) rfl ?_
  refine at2 h42 ?_
  refine flc_mk (fun w47 hb _ => call_mono (combL u r b mm up T rt M' w47 (H.up (h42.trans hb)) (HM'.up (h42.trans hb)) hI') fun y w' ⟨hy, hb'⟩ => ⟨hb', fun _ => ⟨y, rfl, hy⟩, fun e => by omega⟩) (fun (x51 : CT) => ?_)
  refine flc_mk (fun w52 hb _ => wr_alloc (z := .agg #[.int .i64 0, .int .i64 0]) (by kernel_rfl) fun ad w' Y hb' hbl _ => ⟨hb', fun e => by omega, fun _ => ⟨ad, rfl, Y, by have := Below.size hb; omega⟩⟩) (fun x56 => ?_)
  refine flend_mk fun w57 h57 hf => ?_
  obtain ⟨f10, f5, _⟩ := hf
  obtain ⟨ad56, e1, Y, hY⟩ := f10.2 rfl
  obtain ⟨c51, e2, C1⟩ := f5.1 rfl
  obtain ⟨⟨c1a, c1n, c1c⟩, ⟨n1, d1, _⟩, er1, _⟩ := x51
  obtain ⟨⟨c2a, c2n, c2c⟩, ⟨n2, d2, _⟩, er2, _⟩ := c51
  simp only [Value.tuple.injEq, Array.mk.injEq, List.cons.injEq, Value.slice.injEq, Value.agg.injEq, Value.int.injEq, and_true, true_and] at e2
  obtain ⟨⟨q1, q2, q3⟩, ⟨q4, q5⟩, q6⟩ := e2
  subst q1 q2 q3 q4 q5 q6
  cases e1
  refine wu_box Y (by kernel_rfl) (Nat.le_refl 2) rfl fun w59 Y59 hg59 _ => ?_
  replace C1 := C1.put Y hg59
  replace Y59 : Box w59 x56 [.int .i64 n1, .int .i64 d1] := Y59
  have b59 : bel w41 w59 := h42.trans (h57.grownAt hg59 hY)
  refine drw_mk fun w60 h60 _ => ?_
  replace C1 := C1.up h60
  replace Y59 := Y59.up h60
  have b60 := b59.trans h60
  have l60 := Y59.lt
  refine flEx_mk (fun i _ v w' => (i = 5 → ∃ x : CT, v = .tuple #[.slice x.1.1 x.1.2.1 x.1.2.2, .agg #[.int .i64 x.2.1.1, .int .i64 x.2.1.2.1], .int .i64 x.2.2.1] ∧ CombR up T rt M' x w') ∧ (i = 10 → ∃ ad, v = .pointer (some ad) ∧ Box w' ad [.int .i64 0, .int .i64 0] ∧ w60.heap.size ≤ ad.block))
    (fun _ _ _ _ _ h hb => ⟨fun e => by obtain ⟨t, q1, q2⟩ := h.1 e; exact ⟨t, q1, q2.up hb⟩, fun e => by obtain ⟨t, q1, q2, q3⟩ := h.2 e; exact ⟨t, q1, q2.up hb, q3⟩⟩) ?_
  refine rd_boxN (X.up b60) (by kernel_rfl) rfl ?_
  refine at2 b60 ?_
  refine flc_mk (fun w47 hb _ => call_mono (combR11 u r b mm up T rt M' w47 (H.up (b60.trans hb)) (HM'.up (b60.trans hb)) hI') fun y w' ⟨hy, hb'⟩ => ⟨hb', fun _ => ⟨y, rfl, hy⟩, fun e => by omega⟩) (fun (x69 : CT) => ?_)
  refine flc_mk (fun w52 hb _ => wr_alloc (z := .agg #[.int .i64 0, .int .i64 0]) (by kernel_rfl) fun ad w' Y hb' hbl _ => ⟨hb', fun e => by omega, fun _ => ⟨ad, rfl, Y, by have := Below.size hb; omega⟩⟩) (fun x74 => ?_)
  refine flend_mk fun w75 h75 hf => ?_
  obtain ⟨f10, f5, _⟩ := hf
  obtain ⟨ad74, e1, Z, hZ⟩ := f10.2 rfl
  obtain ⟨c69, e2, C2⟩ := f5.1 rfl
  obtain ⟨⟨c3a, c3n, c3c⟩, ⟨n3, d3, _⟩, er3, _⟩ := x69
  obtain ⟨⟨c4a, c4n, c4c⟩, ⟨n4, d4, _⟩, er4, _⟩ := c69
  simp only [Value.tuple.injEq, Array.mk.injEq, List.cons.injEq, Value.slice.injEq, Value.agg.injEq, Value.int.injEq, and_true, true_and] at e2
  obtain ⟨⟨q1, q2, q3⟩, ⟨q4, q5⟩, q6⟩ := e2
  subst q1 q2 q3 q4 q5 q6
  cases e1
  refine wu_box Z (by kernel_rfl) (Nat.le_refl 2) rfl fun w77 Z77 hg77 _ => ?_
  replace C1 := (C1.up h75).put Z hg77
  replace C2 := C2.put Z hg77
  replace Z77 : Box w77 x74 [.int .i64 n3, .int .i64 d3] := Z77
  replace Y59 := (Y59.up h75).grown hg77 (by intro q; injection q; omega)
  have b77 : bel w41 w77 := b60.trans (h75.grownAt hg77 hZ)
  obtain ⟨s1, s2, LL, L1, L2⟩ := C1.same C2
  dsimp only at s1 s2 L1 L2
  injection s1 with s1 s3
  injection s3 with s3 _
  subst s1 s3 s2
  -- the same
  refine drw_mk fun w78 h78 _ => ?_
  have b78 := b77.trans h78
  refine flEx_mk (fun i _ v _ => (i = 2 → v = .bool true) ∧ (i = 20 → ∃ c, v = .bool c ∧ (c = true ↔ LatP up T rt M'))) (fun _ _ _ _ _ h _ => h) ?_
  refine flc_mk (fun w80 hb _ => call_mono (sameF (c1a, c1n, c1c) (c3a, c3n, c3c) LL w80 (L1.up (h78.trans hb)) (L2.up (h78.trans hb))) fun y w' ⟨hy, hb'⟩ => ⟨hb', fun _ => by rw [hy], fun e => by omega⟩) (fun x84 => ?_)
  have tr : ∀ {c : Bool} {P : Prop}, Value.bool c = .bool true → c = false → P := fun a b => by injection a with a; rw [a] at b; cases b
  refine br_not (fun e => flend_mk fun w85 hb hf => tr (hf.1.1 rfl) e) (fun _ => ?_)
  refine rd_boxN (Y59.up h78) (by kernel_rfl) rfl ?_
  refine rd_boxN (Z77.up h78) (by kernel_rfl) rfl ?_
  refine rd_ne_same ?_
  refine br_f rfl ?_
  refine br_no ?_
  refine rd_boxN (X.up b78) (by kernel_rfl) rfl ?_
  refine at2 b78 ?_
  refine flc_mk (fun w97 hb _ => call_mono (latL u r b mm up T rt M' w97 (H.up (b78.trans hb)) (HM'.up (b78.trans hb)) hI') fun y w' ⟨hy, hb'⟩ => ⟨hb', fun e => by omega, fun _ => ⟨y, rfl, hy⟩⟩) (fun x101 => ?_)
  refine rd_boxN (X.up b78) (by kernel_rfl) rfl ?_
  refine at2 b78 ?_
  refine flend_mk fun w105 h105 hf => ?_
  have b105 := b78.trans h105
  obtain ⟨y20, e20, hy20⟩ := hf.1.2 rfl
  injection e20 with e20
  subst e20
  refine call_mono (lat11 u r b mm up T rt M' w105 (H.up b105) (HM'.up b105) hI') ?_
  rintro x107 w108 ⟨hx, h108⟩
  have e := iff_eq hy20 hx
  subst e
  refine br_f (by simp) ?_
  have b108 := b105.trans h108
  refine rd_box0 (by kernel_rfl) (X.up b108) rfl rfl ?_
  refine wr_make tyI64 u.2.1 rfl rfl (by omega) (by unfold maxLen; omega) fun zd w111 OX h111 _ _ => ?_
  have SZ := (OX w108.heap.size (Nat.le_refl _)).sl
  rw [Nat.mul_one, show (madeCells (Value.int .i64 0).cells u.2.1).toList = ints .i64 (List.replicate u.2.1 0) from made_int .i64 u.2.1] at SZ
  have b111 := b108.trans h111
  refine drw_mk fun w112 h112 _ => ?_
  have b112 := b111.trans h112
  refine flEx_mk (fun i _ v _ => (i = 8 ∨ i = 17 → ∃ c, v = .bool c ∧ (c = true ↔ BndP up T rt (List.replicate u.2.1 0) up M')) ∧ (i = 28 → ∃ c, v = .bool c ∧ (c = true ↔ BndP up T rt ls up M'))) (fun _ _ _ _ _ h _ => h) ?_
  refine rd_boxN (X.up b112) (by kernel_rfl) rfl ?_
  refine rd_box0 (by kernel_rfl) (X.up b112) rfl rfl ?_
  refine at2 b112 ?_
  refine flc_mk (fun w118 hb _ => call_mono (bndL u r b (some zd, u.2.1, u.2.1) u mm up T rt _ up M' w118 (H.up (b112.trans hb)) (HM'.up (b112.trans hb)) hI' (SZ.up (h112.trans hb)) ((H.up (b112.trans hb)).u)) fun y w' ⟨hy, hb'⟩ => ⟨hb', fun _ => ⟨y, rfl, hy⟩, fun e => by omega⟩) (fun x122 => ?_)
  refine rd_boxN (X.up b112) (by kernel_rfl) rfl ?_
  refine rd_box0 (by kernel_rfl) (X.up b112) rfl rfl ?_
  refine at2 b112 ?_
  refine flc_mk (fun w118 hb _ => call_mono (bnd11 u r b (some zd, u.2.1, u.2.1) u mm up T rt _ up M' w118 (H.up (b112.trans hb)) (HM'.up (b112.trans hb)) hI' (SZ.up (h112.trans hb)) ((H.up (b112.trans hb)).u)) fun y w' ⟨hy, hb'⟩ => ⟨hb', fun _ => ⟨y, rfl, hy⟩, fun e => by omega⟩) (fun x131 => ?_)
  have same : ∀ {P Q : Prop} {a c : Bool}, (∃ d, Value.bool a = .bool d ∧ (d = true ↔ P)) → (∃ d, Value.bool c = .bool d ∧ (d = true ↔ P)) → (a == c) = false → Q := by
    rintro P Q a c ⟨d, hd, hd2⟩ ⟨e, he, he2⟩ hne
    injection hd with hd; injection he with he
    subst hd he
    have := iff_eq hd2 he2
    subst this
    cases a <;> cases hne
  refine br_not (fun e => flend_mk fun w132 hb hf => same (hf.2.1.1 (.inl rfl)) (hf.1.1 (.inr rfl)) e) (fun _ => ?_)
  refine rd_boxN (X.up b112) (by kernel_rfl) rfl ?_
  refine rd_box0 (by kernel_rfl) (X.up b112) rfl rfl ?_
  refine at2 b112 ?_
  refine flc_mk (fun w118 hb _ => call_mono (bndL u r b lo u mm up T rt _ up M' w118 (H.up (b112.trans hb)) (HM'.up (b112.trans hb)) hI' (HLo.up (b112.trans hb)) ((H.up (b112.trans hb)).u)) fun y w' ⟨hy, hb'⟩ => ⟨hb', fun e => by omega, fun _ => ⟨y, rfl, hy⟩⟩) (fun x142 => ?_)
  refine rd_boxN (X.up b112) (by kernel_rfl) rfl ?_
  refine rd_box0 (by kernel_rfl) (X.up b112) rfl rfl ?_
  refine at2 b112 ?_
  refine flend_mk fun w147 h147 hf => ?_
  have b147 := b112.trans h147
  obtain ⟨y28, e28, hy28⟩ := hf.1.2 rfl
  injection e28 with e28
  subst e28
  refine call_mono (bnd11 u r b lo u mm up T rt _ up M' w147 (H.up b147) (HM'.up b147) hI' (HLo.up b147) (H.up b147).u) ?_
  rintro x149 w150 ⟨hx, h150⟩
  have e := iff_eq hy28 hx
  subst e
  refine br_f (by simp) ?_
  refine z_i64 (by dsimp only; omega) ?_
  exact hag _ hj2 (hw.trans (b147.trans h150))
set_option maxRecDepth 100000 in
theorem argTape {w : World} {v : Value} (h : Go.Q.Arg Try.prog w 47 v) : ∃ x xs, v = hv x ∧ Sl w x.1 x.2.1 x.2.2 1 (ints .i64 xs) ∧ ∀ n ∈ xs, I64 n := by
  obtain ⟨a, n, c, rfl, h⟩ := Go.V.Arg.slice Try.underlying47 h
  obtain ⟨a1, n1, c1, xs, q1, _, s1, b1⟩ := Go.V.Read.ints Try.underlying47 Try.underlying3 (by kernel_rfl) h
  cases q1
  exact ⟨(a, n, c), xs, rfl, s1, fun x hx => bounds_i64 (b1 x hx)⟩
end Go.Proofs.Ytajpdnphamomjaa
