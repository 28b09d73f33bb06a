/- Proved: the statement Rows.KeysTargetsSaid of this seat: the law KeysTargets returns true for every input, and each argument reads afterwards as it read before. Conditions: none beyond the given statement's own. The frame was written by the kit's proof-skeleton; the walk is ours. -/
import Derived.Test.YtedfmhdeghpmgaaRows
import Derived.Test.YtedfmhdeghpmgaaFind2
import Derived.WalkKit
import Derived.ProofKit
import Derived.OpenShut
import Derived.ShutString
import Derived.ChangeOld
import Derived.Below
namespace Go.Proofs.Ytedfmhdeghpmgaa.keysTargets
open Go.Q Go.RowKit
open Go.ChangeShapes Go.WideShapes Go.ChangeAt Go.RowKit
open Go.ChangeMaps (open_string shut_string)
set_option linter.unusedVariables false

theorem own : ownKnob Try.prog.godebug = none := by kernel_rfl
theorem laidOut : laidOutB Try.prog = true := by kernel_rfl

/-! ### STEP 1: THE WALK: the Go text returns true, AND WRITES NOTHING THAT WAS THERE: 'Below w.heap.size w w'' (Derived/Below.lean: '.refl', '.alloc', '.drew', '.setCell' at a new block, '.trans'). Open each 'IsRow' by 'rcases' AHEAD of 'go_enter'; part every test ahead of the walk. -/
theorem lit_val : targetVal [2, 3] 1 4 = 3 := by decide
theorem lit_ok : targetOk [2, 3] 1 4 = true := by decide
set_option maxHeartbeats 400000 in
theorem core (a0 : Option Addr) (n c : Nat) (l : List Int) (b m : Int) (w : World) (hs : Sl w a0 n 1 (ints .i64 l)) (hm9 : m ≤ 9223372036854775807) :
    Calls Try.prog 5 #[.slice a0 n c, .int .i64 b, .int .i64 m] w fun e w' => e = .returned (.bool true) ∧ Below w.heap.size w w' := by
  by_cases hl : (200 : Int) < n
  · go_enter Try.func5, Try.ntmps5
    go_wp2
    go_ret
    exact ⟨rfl, Below.refl _ _⟩
  obtain ⟨tv, hv⟩ : ∃ tv, tv = targetVal l b m := ⟨_, rfl⟩
  obtain ⟨tk, hk⟩ : ∃ tk, tk = targetOk l b m := ⟨_, rfl⟩
  have HV := Lib.hid hv
  have HK := Lib.hid hk
  clear hv hk
  go_enter Try.func5, Try.ntmps5
  go_wp2_with fail
  refine (tar13 _ _ _ _ _ _ _ hs (by omega) hm9).mono ?_
  rintro e wa ⟨rfl, hb1⟩
  rw [← HV.out, ← HK.out]
  go_wp2_with fail
  refine (tar14 _ _ _ _ _ _ _ (hs.kept hb1) (by omega) hm9).mono ?_
  rintro e wb ⟨rfl, hb2⟩
  rw [← HV.out, ← HK.out]
  go_wp2_with fail
  refine (tar13 _ _ _ [2, 3] _ _ _ (Own.sl (xs := ints .i64 [2, 3]) (Own.lit wb 0 3 1 2 #[.int .i64 2, .int .i64 3] (Nat.zero_le _) rfl (by decide)) (by omega)) (by omega) (by omega)).mono ?_
  rintro e wc ⟨rfl, hb3⟩
  have h12 : Below w.heap.size w wb := hb1.trans (hb2.mono hb1.size)
  have h3 : Below w.heap.size w wc := h12.trans (Below.trans ((Below.refl _ _).alloc h12.size _) (hb3.mono (by have := h12.size; simp; omega)))
  rw [lit_val, lit_ok]
  go_wp2
  go_ret
  exact ⟨by simp, h3⟩
theorem walk (a0 : Option Addr) (len0 cap0 : Nat) (z0 : List Int) (a1 : Int) (a2 : Int) (w : World) (w0 : IsRow .i64 w a0 len0 cap0 z0) (w1 : (Lit.int .i64 a1).wf = true) (w2 : (Lit.int .i64 a2).wf = true) :
    Calls Try.prog 5 #[.slice a0 len0 cap0, .int .i64 a1, .int .i64 a2] w fun e w' => e = .returned (.bool true) ∧ Below w.heap.size w w' := by
  have hs := isrow_sl w0
  have b2 := bounds_i64 w2
  exact core a0 len0 cap0 (z0.take len0) a1 a2 w hs b2.2

/-! ### THE ROW's STEP: WRITTEN OUT: LEAVE IT -/
set_option maxRecDepth 100000 in
theorem lifted (os : Os) (started : os.Started) (H : Type) (enc : TypeId × Value → H) :
    ReturnsInHanded {} Try.checked os 5 .any (Rows.keysTargetsSpec.pre6 enc Try.prog Try.f5 Rows.keysTargetsRow.domain false) (Rows.keysTargetsSpec.post enc Try.prog Try.f5 false true false false) := by
  refine returnsInHanded_of_change (C := Try.checked) own started (by kernel_rfl) Try.func5
    (ChangeSpec.witness6 (enc := enc) (C := Try.checked) false ⟨#[], #[.slice none 0 0, .int .i64 0, .int .i64 0], []⟩ 8 (by kernel_rfl) (by kernel_rfl) (by kernel_rfl) (by kernel_rfl)) ?_
  intro W base args ds gs before hval0 hW hcnd _
  have hval : ∀ (j : Nat) t v, Try.f5.params[j]? = some t → args[j]? = some v → Value.okWide Try.prog W .any base t v := hval0
  have hW' := hW
  obtain ⟨p, q, hA0, hV, rfl, hfz, hnd⟩ := hW
  have hA : DataW.TrodAll enc Try.prog W 0 (fun _ => true) true Try.f5.params.toList args.toList ds p := hA0
  rw [Try.params5] at hA hval
  obtain ⟨v0, vs0, d0, ds0, p0, q0, hargs, rfl, rfl, h0, r0⟩ := trodAll_cons hA
  obtain ⟨v1, vs1, d1, ds1, p1, q1, rfl, rfl, rfl, h1, r1⟩ := trodAll_cons r0
  obtain ⟨v2, vs2, d2, ds2, p2, q2, rfl, rfl, rfl, h2, r2⟩ := trodAll_cons r1
  obtain ⟨rfl, rfl, rfl⟩ := trodAll_nil r2
  obtain rfl : args = #[v0, v1, v2] := by cases args; simp_all
  obtain ⟨rfl, rfl⟩ := trodVars_none hV
  obtain ⟨a0, len0, cap0, rfl⟩ := okWide_slice Try.underlying22 (hval 0 22 v0 rfl rfl)
  have k0 := h0
  have lt0 : ∀ x ∈ p0, x.block < W.heap.size := by obtain ⟨m, hm⟩ := k0; exact DataW.trod_lt m _ _ _ hm
  obtain ⟨z0, w0⟩ : ∃ zs, IsRow .i64 W a0 len0 cap0 zs := by
    obtain ⟨fuel, hf⟩ := h0
    rcases open_ints Try.underlying22 Try.underlying3 (by kernel_rfl) hf with ⟨hcs, _⟩ | ⟨x, l, c, zs, hcs, _, hl, hm, hz, _, hcell, hwz⟩
    · simp [Value.cells] at hcs
      obtain ⟨rfl, rfl, rfl⟩ := hcs
      exact ⟨[], .inl ⟨rfl, rfl, rfl, rfl⟩⟩
    · simp [Value.cells] at hcs
      obtain ⟨rfl, rfl, rfl⟩ := hcs
      exact ⟨zs, .inr ⟨_, rfl, hl, hm, by simpa using hz, hcell, hwz⟩⟩
  obtain ⟨a1, rfl, rfl, rfl, w1⟩ := open_int Try.underlying3 (hval 1 3 v1 rfl rfl) h1
  obtain ⟨a2, rfl, rfl, rfl, w2⟩ := open_int Try.underlying3 (hval 2 3 v2 rfl rfl) h2
  clear hA0 hval0
  refine (walk a0 len0 cap0 z0 a1 a2 W w0 w1 w2).mono fun e W' ⟨he, bel⟩ => ?_
  subst he
  exact ⟨_, rfl, _, _, _, [], _, [], hW', trodAll_mk1 (shut_bool Try.underlying4 _), (trodAll_cons_mk (Below.trod laidOut (by kernel_rfl) (of_decide_eq_true (by kernel_rfl)) k0 bel lt0) (trodAll_cons_mk (shut_int Try.underlying3 w1) (trodAll_cons_mk (shut_int Try.underlying3 w2) trodAll_mk0))), rfl, bel.frame _, fun h => by cases h⟩

theorem over : Rows.keysTargetsRow.holds Try.pinned (OpenSpec.ofChange Rows.keysTargetsSpec) :=
  OpenClaim.holds_of_wide 5 Try.f5 rfl rfl rfl rfl rfl rfl rfl ⟨rfl, rfl, rfl, rfl, rfl⟩ rfl rfl rfl rfl rfl (by kernel_rfl) Try.func5 (by kernel_rfl)
    (of_decide_eq_true (by kernel_rfl)) (by unfold Func.isWrapper; first | (rw [if_pos (by decide +kernel)]; kernel_rfl) | (rw [if_neg (by decide +kernel)]; exact ⟨rfl, rfl⟩))
    (fun os started H enc _ => lifted os started H enc)

/-- ████ THE STATEMENT ████ -/
theorem proved : Rows.KeysTargetsSaid := over
#print axioms proved
end Go.Proofs.Ytedfmhdeghpmgaa.keysTargets
