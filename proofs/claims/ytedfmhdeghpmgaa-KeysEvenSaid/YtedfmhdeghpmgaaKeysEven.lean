/- Proved: the statement Rows.KeysEvenSaid of this seat: the law KeysEven returns true for every input, and each argument reads afterwards as it read before. Conditions: none beyond the given statement's own. The frame was written by the kit's proof-skeleton; the walk is ours. -/
import Derived.Test.YtedfmhdeghpmgaaRows
import Derived.Test.YtedfmhdeghpmgaaAssign
import Derived.Test.YtedfmhdeghpmgaaLoads
import Derived.Test.YtedfmhdeghpmgaaEven
import Derived.WalkKit
import Derived.ProofKit
import Derived.OpenShut
import Derived.ShutString
namespace Go.Proofs.Ytedfmhdeghpmgaa.keysEven
open Go.Q Go.RowKit
open Go.ChangeShapes Go.WideShapes Go.ChangeAt Go.RowKit
open Go.ChangeMaps (open_string shut_string)
set_option linter.unusedVariables false      -- a walk need not use every 'w<i>' (that an integer argument fits its kind)

theorem own : ownKnob Try.prog.godebug = none := by kernel_rfl

/-! ### STEP 1: THE WALK: the Go text returns true. 'Grown w w'': the world has at most new blocks (Derived/RowKit3.lean). Part the cases AHEAD of 'go_enter' where a test parts the walk; take each callee by a contract of your own. -/
theorem cast_of {x : Int} (h : 0 ≤ x) : ∃ n : Nat, x = (n : Int) := ⟨x.toNat, by omega⟩

theorem assignErr_bad {c p d : Nat} (hc : c ≤ 255) (h : p < d ∨ c < d ∨ (d = 0 ∧ 0 < c)) : assignErr (c : Int) p d = 12 := by
  unfold assignErr; rw [if_neg (by omega), if_neg (by omega), if_pos (by omega)]
theorem assignErr_good {c p d : Nat} (hc : c ≤ 255) (h : ¬ (p < d ∨ c < d ∨ (d = 0 ∧ 0 < c))) : assignErr (c : Int) p d = 0 := by
  unfold assignErr; rw [if_neg (by omega), if_neg (by omega), if_neg (by omega)]

theorem bad (c p d : Nat) (w : World) (hc : c ≤ 255) (hp : p ≤ 255) (hd : d ≤ 255) (h : p < d ∨ c < d ∨ (d = 0 ∧ 0 < c)) :
    Calls Try.prog 4 #[.int .u8 c, .int .u8 p, .int .u8 d] w fun e w' => e = .returned (.bool true) ∧ Below w.heap.size w w' := by
  have HE := Lib.hid (assignErr_bad hc h)
  have HL : Hid (assignList (c : Int) p d = []) := by unfold assignList; rw [HE.out]; rfl
  by_cases h1 : p < d
  · clear h
    go_enter Try.func4, Try.ntmps4
    go_wp2_with fail
    refine (assign8 _ _ _ _).mono ?_
    rintro e wa ⟨a4, n4, c4, rfl, hs4, hb4⟩
    rw [HE.out]
    rw [HL.out] at hs4
    obtain rfl : 0 = n4 := hs4.int
    go_wp2
    go_ret
    exact ⟨rfl, hb4⟩
  by_cases h2 : c < d
  · clear h
    go_enter Try.func4, Try.ntmps4
    go_wp2_with fail
    refine (assign8 _ _ _ _).mono ?_
    rintro e wa ⟨a4, n4, c4, rfl, hs4, hb4⟩
    rw [HE.out]
    rw [HL.out] at hs4
    obtain rfl : 0 = n4 := hs4.int
    go_wp2
    go_ret
    exact ⟨rfl, hb4⟩
  · obtain ⟨rfl, h3⟩ : d = 0 ∧ 0 < c := by omega
    clear h
    go_enter Try.func4, Try.ntmps4
    go_wp2_with fail
    refine (assign8 _ _ _ _).mono ?_
    rintro e wa ⟨a4, n4, c4, rfl, hs4, hb4⟩
    rw [show assignErr (c : Int) (p : Int) 0 = 12 from HE.out]
    rw [show assignList (c : Int) (p : Int) 0 = [] from HL.out] at hs4
    obtain rfl : 0 = n4 := hs4.int
    go_wp2
    go_ret
    exact ⟨rfl, hb4⟩

theorem loads_zero (p : Nat) (hp : p ≤ 255) : loadsOk [] (p : Int) = true := good (by omega) (by omega) (by simp)

theorem none_case (p : Nat) (w : World) (hp : p ≤ 255) :
    Calls Try.prog 4 #[.int .u8 0, .int .u8 p, .int .u8 0] w fun e w' => e = .returned (.bool true) ∧ Below w.heap.size w w' := by
  have HE := Lib.hid (assignErr_good (c := 0) (p := p) (d := 0) (by omega) (by omega))
  have HL : Hid (assignList (0 : Int) p 0 = []) := by unfold assignList; rw [show assignErr 0 (p : Int) 0 = 0 from HE.out]; rfl
  have HO := Lib.hid (loads_zero p hp)
  have HC : Hid (loadsList [] (p : Int) = List.replicate p 0) := by unfold loadsList; rw [HO.out]; exact cnts_nil _
  go_enter Try.func4, Try.ntmps4
  go_wp2_with fail
  refine (assign8 _ _ _ _).mono ?_
  rintro e wa ⟨a4, n4, c4, rfl, hs4, hb4⟩
  rw [show assignErr 0 (p : Int) 0 = 0 from HE.out]
  rw [HL.out] at hs4
  obtain rfl : 0 = n4 := hs4.int
  go_wp2_with fail
  refine (loads10 _ _ _ _ _ _ hs4).mono ?_
  rintro e wb ⟨a5, n5, c5, rfl, hs5, hb5⟩
  rw [HO.out]
  rw [HC.out] at hs5
  obtain rfl : p = n5 := by have := hs5.int; simpa using this
  go_wp2_with fail
  go_loopw [14, 15, 16, 17] (fun u lo hi i wr => ∃ k : Nat, k ≤ p ∧ i = .int .i64 k ∧ u = .int .i64 0 ∧ lo = .int .i64 0 ∧ hi = .int .i64 0 ∧ Dr wb wr) (fun _ _ _ i _ => p - (intOf i).toNat)
  case atStart => exact ⟨0, Nat.zero_le _, rfl, rfl, rfl, rfl, Dr.refl _⟩
  case round =>
    obtain ⟨k, hk, rfl, rfl, rfl, rfl, hd⟩ := hrel
    by_cases hlt : k < p
    · obtain ⟨ad, x, rfl, hc, hx, _⟩ := (hs5.dr hd).get hlt
      obtain rfl : x = 0 := by have h := hx.out; rw [List.getElem?_replicate, if_pos hlt] at h; simpa using h.symm
      go_wp2
      go_roundw
      case rel => exact ⟨k + 1, by omega, by go_num, rfl, rfl, rfl, hd⟩
      case measure => simp [intOf]; omega
    · go_wp2
      go_ret
      exact ⟨rfl, (hb4.trans (hb5.mono hb4.size)).dr hd⟩

set_option maxHeartbeats 1000000 in
theorem some_case (c p d : Nat) (w : World) (hc : c ≤ 255) (hp : p ≤ 255) (hd0 : 0 < d) (hdp : d ≤ p) (hdc : d ≤ c) :
    Calls Try.prog 4 #[.int .u8 c, .int .u8 p, .int .u8 d] w fun e w' => e = .returned (.bool true) ∧ Below w.heap.size w w' := by
  have HE := Lib.hid (assignErr_good (c := c) (p := p) (d := d) (by omega) (by omega))
  have HL : Hid (assignList (c : Int) p d = mods c d) := by unfold assignList; rw [HE.out]; rfl
  have HO := Lib.hid (mods_ok c p d hd0 hdp (by omega))
  have HC : Hid (loadsList (mods c d) (p : Int) = cnts p (mods c d)) := by unfold loadsList; rw [HO.out]; rfl
  have hdz : ((d : Int) == 0) = false := by simp; omega
  obtain ⟨q, hq⟩ : ∃ q : Int, q = ((c / d : Nat) : Int) := ⟨_, rfl⟩
  have hq0 : 0 ≤ q := by rw [hq]; exact Int.natCast_nonneg _
  have hqc : q ≤ c := by have := Nat.div_le_self c d; omega
  have HQ := Lib.hid hq
  clear hq
  go_enter Try.func4, Try.ntmps4
  go_wp2_with fail
  refine (assign8 _ _ _ _).mono ?_
  rintro e wa ⟨a4, n4, c4, rfl, hs4, hb4⟩
  rw [HE.out]
  rw [HL.out] at hs4
  obtain rfl : c = n4 := by have := hs4.int; rwa [mods_len] at this
  go_wp2_with fail
  refine (loads10 _ _ _ _ _ _ hs4).mono ?_
  rintro e wb ⟨a5, n5, c5, rfl, hs5, hb5⟩
  rw [HO.out]
  rw [HC.out] at hs5
  obtain rfl : p = n5 := by have := hs5.int; rwa [cnts_len] at this
  go_wp2_with fail
  go_loopw [14, 15, 16, 17] (fun u lo hi i wr => ∃ (k : Nat) (m lw hg : Int), k ≤ p ∧ i = .int .i64 k ∧ u = .int .i64 m ∧ lo = .int .i64 lw ∧ hi = .int .i64 hg ∧ 0 ≤ m ∧ m ≤ k ∧ Hid (m = min (k : Int) d) ∧ q ≤ lw ∧ lw ≤ c ∧ 0 ≤ hg ∧ hg ≤ q + 1 ∧ Dr wb wr) (fun _ _ _ i _ => p - (intOf i).toNat)
  case atStart => exact ⟨0, 0, c, 0, Nat.zero_le _, rfl, rfl, rfl, rfl, by omega, by omega, by show (0 : Int) = _; omega, hqc, by omega, by omega, by omega, Dr.refl _⟩
  case round =>
    obtain ⟨k, m, lw, hg, hk, rfl, rfl, rfl, rfl, hm0, hmk, hm, hl1, hl2, hg1, hg2, hd⟩ := hrel
    by_cases hlt : k < p
    · obtain ⟨ad, x, rfl, hcell, hx, _⟩ := (hs5.dr hd).get hlt
      rcases even_round hx.out hd0 hdc with ⟨hkd, hx0, hx1, hx2⟩ | ⟨hkd, rfl⟩
      · have hx1' : q ≤ x := by rw [HQ.out]; exact hx1
        have hx2' : x ≤ q + 1 := by rw [HQ.out]; exact hx2
        clear hx1 hx2
        go_wp2
        go_quiet (fail)
        go_wp2
        go_roundw
        case rel => exact ⟨k + 1, m + 1, _, _, by omega, by go_num, by go_num, rfl, rfl, by omega, by omega, by have := hm.out; show _ = _; omega, by omega, by omega, by omega, by omega, hd.drewN _⟩
        case measure => simp [intOf]; omega
      · go_wp2
        go_roundw
        case rel => exact ⟨k + 1, m, lw, hg, by omega, by go_num, rfl, rfl, rfl, by omega, by omega, by have := hm.out; show _ = _; omega, by omega, by omega, by omega, by omega, hd⟩
        case measure => simp [intOf]; omega
    · obtain rfl : m = d := by have := hm.out; omega
      go_wp2
      go_ret
      exact ⟨by simp; omega, (hb4.trans (hb5.mono hb4.size)).dr hd⟩
theorem walk (a0 : Int) (a1 : Int) (a2 : Int) (w0 : (Lit.int .u8 a0).wf = true) (w1 : (Lit.int .u8 a1).wf = true) (w2 : (Lit.int .u8 a2).wf = true) (w : World) :
    Calls Try.prog 4 #[.int .u8 a0, .int .u8 a1, .int .u8 a2] w fun e w' => e = .returned (.bool true) ∧ Below w.heap.size w w' := by
  have b0 := bounds_u8 w0
  have b1 := bounds_u8 w1
  have b2 := bounds_u8 w2
  obtain ⟨c, rfl⟩ := cast_of b0.1
  obtain ⟨p, rfl⟩ := cast_of b1.1
  obtain ⟨d, rfl⟩ := cast_of b2.1
  by_cases h : p < d ∨ c < d ∨ (d = 0 ∧ 0 < c)
  · exact bad c p d w (by omega) (by omega) (by omega) h
  by_cases h0 : d = 0
  · subst h0
    obtain rfl : c = 0 := by omega
    exact none_case p w (by omega)
  · exact some_case c p d w (by omega) (by omega) (by omega) (by omega) (by omega)

/-! ### THE ROW's STEP: WRITTEN OUT: LEAVE IT -/
set_option maxRecDepth 100000 in
theorem lifted (os : Os) (started : os.Started) (H : Type) (enc : TypeId × Value → H) :
    ReturnsInHanded {} Try.checked os 4 .any (Rows.keysEvenSpec.pre6 enc Try.prog Try.f4 Rows.keysEvenRow.domain false) (Rows.keysEvenSpec.post enc Try.prog Try.f4 false true false false) := by
  refine returnsInHanded_of_change (C := Try.checked) own started (by kernel_rfl) Try.func4
    (ChangeSpec.witness6 (enc := enc) (C := Try.checked) false ⟨#[], #[.int .u8 0, .int .u8 0, .int .u8 0], []⟩ 8 (by kernel_rfl) (by kernel_rfl) (by kernel_rfl) (by kernel_rfl)) ?_
  intro W base args ds gs before hval0 hW hcnd _
  have hval : ∀ (j : Nat) t v, Try.f4.params[j]? = some t → args[j]? = some v → Value.okWide Try.prog W .any base t v := hval0
  have hW' := hW
  obtain ⟨p, q, hA0, hV, rfl, hfz, hnd⟩ := hW
  have hA : DataW.TrodAll enc Try.prog W 0 (fun _ => true) true Try.f4.params.toList args.toList ds p := hA0
  rw [Try.params4] at hA hval
  obtain ⟨v0, vs0, d0, ds0, p0, q0, hargs, rfl, rfl, h0, r0⟩ := trodAll_cons hA
  obtain ⟨v1, vs1, d1, ds1, p1, q1, rfl, rfl, rfl, h1, r1⟩ := trodAll_cons r0
  obtain ⟨v2, vs2, d2, ds2, p2, q2, rfl, rfl, rfl, h2, r2⟩ := trodAll_cons r1
  obtain ⟨rfl, rfl, rfl⟩ := trodAll_nil r2
  obtain rfl : args = #[v0, v1, v2] := by cases args; simp_all
  obtain ⟨rfl, rfl⟩ := trodVars_none hV
  obtain ⟨a0, rfl, rfl, rfl, w0⟩ := open_int Try.underlying5 (hval 0 5 v0 rfl rfl) h0
  obtain ⟨a1, rfl, rfl, rfl, w1⟩ := open_int Try.underlying5 (hval 1 5 v1 rfl rfl) h1
  obtain ⟨a2, rfl, rfl, rfl, w2⟩ := open_int Try.underlying5 (hval 2 5 v2 rfl rfl) h2
  clear hA0 hval0
  simp only [List.append_nil] at hW'
  refine (walk a0 a1 a2 w0 w1 w2 W).mono fun e W' ⟨he, bel⟩ => ?_
  subst he
  exact ⟨_, rfl, _, _, _, [], _, [], hW', (trodAll_cons_mk (shut_bool Try.underlying4 _) trodAll_mk0), (trodAll_cons_mk (shut_int Try.underlying5 w0) (trodAll_cons_mk (shut_int Try.underlying5 w1) (trodAll_cons_mk (shut_int Try.underlying5 w2) trodAll_mk0))), rfl, bel.frame _, fun h => by cases h⟩

theorem over : Rows.keysEvenRow.holds Try.pinned (OpenSpec.ofChange Rows.keysEvenSpec) :=
  OpenClaim.holds_of_wide 4 Try.f4 rfl rfl rfl rfl rfl rfl rfl ⟨rfl, rfl, rfl, rfl, rfl⟩ rfl rfl rfl rfl rfl (by kernel_rfl) Try.func4 (by kernel_rfl)
    (of_decide_eq_true (by kernel_rfl)) (by unfold Func.isWrapper; first | (rw [if_pos (by decide +kernel)]; kernel_rfl) | (rw [if_neg (by decide +kernel)]; exact ⟨rfl, rfl⟩))
    (fun os started H enc _ => lifted os started H enc)

/-- ████ THE STATEMENT ████ -/
theorem proved : Rows.KeysEvenSaid :=
  over
#print axioms proved
end Go.Proofs.Ytedfmhdeghpmgaa.keysEven
