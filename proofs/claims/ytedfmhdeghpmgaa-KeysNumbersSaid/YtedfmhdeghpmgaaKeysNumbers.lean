/- Proved: the statement Rows.KeysNumbersSaid of this seat: the law KeysNumbers returns true for every input, and each argument reads afterwards as it read before. Conditions: none beyond the given statement's own. The frame was written by the kit's proof-skeleton; the walk is ours. -/
import Derived.Test.YtedfmhdeghpmgaaRows
import Derived.Test.YtedfmhdeghpmgaaFind2
import Derived.Test.YtedfmhdeghpmgaaSame
import Derived.WalkKit
import Derived.ProofKit
import Derived.OpenShut
import Derived.ShutString
import Derived.ChangeOld
import Derived.Below
namespace Go.Proofs.Ytedfmhdeghpmgaa.keysNumbers
open Go.Q Go.RowKit
open Go.ChangeShapes Go.WideShapes Go.ChangeAt Go.RowKit
open Go.ChangeMaps (open_string shut_string)
set_option linter.unusedVariables false

theorem own : ownKnob Try.prog.godebug = none := by kernel_rfl
theorem laidOut : laidOutB Try.prog = true := by kernel_rfl

/-! ### STEP 1: THE WALK: the Go text returns true, AND WRITES NOTHING THAT WAS THERE: 'Below w.heap.size w w'' (Derived/Below.lean: '.refl', '.alloc', '.drew', '.setCell' at a new block, '.trans'). Open each 'IsRow' by 'rcases' AHEAD of 'go_enter'; part every test ahead of the walk. -/
set_option maxHeartbeats 800000 in
theorem core (a0 : Option Addr) (n c : Nat) (l : List Int) (m : Int) (w : World) (hs : Sl w a0 n 1 (ints .i64 l)) :
    Calls Try.prog 6 #[.slice a0 n c, .int .i64 m] w fun e w' => e = .returned (.bool true) ∧ Below w.heap.size w w' := by
  by_cases hl : (200 : Int) < n
  · go_enter Try.func6, Try.ntmps6
    go_wp2
    go_ret
    exact ⟨rfl, Below.refl _ _⟩
  obtain ⟨er, he⟩ : ∃ er, er = offsErr l := ⟨_, rfl⟩
  have HE := Lib.hid he
  clear he
  go_enter Try.func6, Try.ntmps6
  go_wp2_with fail
  refine (offs15 _ _ _ _ _ hs (by omega)).mono ?_
  rintro e wa ⟨a1, n1, c1, rfl, hs1, hb1⟩
  rw [← HE.out]
  go_wp2_with fail
  refine (offs16 _ _ _ _ _ (hs.kept hb1) (by omega)).mono ?_
  rintro e wb ⟨a2, n2, c2, rfl, hs2, hb2⟩
  rw [← HE.out]
  have h2 : Below w.heap.size w wb := hb1.trans (hb2.mono hb1.size)
  go_wp2_with fail
  refine (find17 _ _ _ _ _ _ (hs.kept h2) (by omega)).mono ?_
  rintro e wc ⟨x, j, ok, rfl, hf, hb3⟩
  have h3 : Below w.heap.size w wc := h2.trans (hb3.mono h2.size)
  go_wp2_with fail
  refine (find18 _ _ _ _ _ _ (hs.kept h3) (by omega)).mono ?_
  rintro e wd ⟨x', j', ok', rfl, hf', hb4⟩
  have h4 : Below w.heap.size w wd := h3.trans (hb4.mono h3.size)
  obtain ⟨rfl, rfl, rfl⟩ := FindR_uniq hf hf'
  clear hf hf'
  go_wp2_with fail
  refine (same_any _ _ _ _ _ _ _ _ _ (((hs1.kept hb2).kept hb3).kept hb4) ((hs2.kept hb3).kept hb4)).mono ?_
  rintro e we ⟨rfl, hde⟩
  simp only [decide_true]
  go_wp2
  go_ret
  exact ⟨by simp, h4.dr hde⟩
theorem walk (a0 : Option Addr) (len0 cap0 : Nat) (z0 : List Int) (a1 : Int) (w : World) (w0 : IsRow .i64 w a0 len0 cap0 z0) (w1 : (Lit.int .i64 a1).wf = true) :
    Calls Try.prog 6 #[.slice a0 len0 cap0, .int .i64 a1] w fun e w' => e = .returned (.bool true) ∧ Below w.heap.size w w' := by
  have hs := isrow_sl w0
  exact core a0 len0 cap0 (z0.take len0) a1 w hs

/-! ### THE ROW's STEP: WRITTEN OUT: LEAVE IT -/
set_option maxRecDepth 100000 in
theorem lifted (os : Os) (started : os.Started) (H : Type) (enc : TypeId × Value → H) :
    ReturnsInHanded {} Try.checked os 6 .any (Rows.keysNumbersSpec.pre6 enc Try.prog Try.f6 Rows.keysNumbersRow.domain false) (Rows.keysNumbersSpec.post enc Try.prog Try.f6 false true false false) := by
  refine returnsInHanded_of_change (C := Try.checked) own started (by kernel_rfl) Try.func6
    (ChangeSpec.witness6 (enc := enc) (C := Try.checked) false ⟨#[], #[.slice none 0 0, .int .i64 0], []⟩ 8 (by kernel_rfl) (by kernel_rfl) (by kernel_rfl) (by kernel_rfl)) ?_
  intro W base args ds gs before hval0 hW hcnd _
  have hval : ∀ (j : Nat) t v, Try.f6.params[j]? = some t → args[j]? = some v → Value.okWide Try.prog W .any base t v := hval0
  have hW' := hW
  obtain ⟨p, q, hA0, hV, rfl, hfz, hnd⟩ := hW
  have hA : DataW.TrodAll enc Try.prog W 0 (fun _ => true) true Try.f6.params.toList args.toList ds p := hA0
  rw [Try.params6] at hA hval
  obtain ⟨v0, vs0, d0, ds0, p0, q0, hargs, rfl, rfl, h0, r0⟩ := trodAll_cons hA
  obtain ⟨v1, vs1, d1, ds1, p1, q1, rfl, rfl, rfl, h1, r1⟩ := trodAll_cons r0
  obtain ⟨rfl, rfl, rfl⟩ := trodAll_nil r1
  obtain rfl : args = #[v0, v1] := by cases args; simp_all
  obtain ⟨rfl, rfl⟩ := trodVars_none hV
  obtain ⟨a0, len0, cap0, rfl⟩ := okWide_slice Try.underlying22 (hval 0 22 v0 rfl rfl)
  have k0 := h0
  have lt0 : ∀ x ∈ p0, x.block < W.heap.size := by obtain ⟨m, hm⟩ := k0; exact DataW.trod_lt m _ _ _ hm
  obtain ⟨z0, w0⟩ : ∃ zs, IsRow .i64 W a0 len0 cap0 zs := by
    obtain ⟨fuel, hf⟩ := h0
    rcases open_ints Try.underlying22 Try.underlying3 (by kernel_rfl) hf with ⟨hcs, _⟩ | ⟨x, l, c, zs, hcs, _, hl, hm, hz, _, hcell, hwz⟩
    · simp [Value.cells] at hcs
      obtain ⟨rfl, rfl, rfl⟩ := hcs
      exact ⟨[], .inl ⟨rfl, rfl, rfl, rfl⟩⟩
    · simp [Value.cells] at hcs
      obtain ⟨rfl, rfl, rfl⟩ := hcs
      exact ⟨zs, .inr ⟨_, rfl, hl, hm, by simpa using hz, hcell, hwz⟩⟩
  obtain ⟨a1, rfl, rfl, rfl, w1⟩ := open_int Try.underlying3 (hval 1 3 v1 rfl rfl) h1
  clear hA0 hval0
  refine (walk a0 len0 cap0 z0 a1 W w0 w1).mono fun e W' ⟨he, bel⟩ => ?_
  subst he
  exact ⟨_, rfl, _, _, _, [], _, [], hW', trodAll_mk1 (shut_bool Try.underlying4 _), (trodAll_cons_mk (Below.trod laidOut (by kernel_rfl) (of_decide_eq_true (by kernel_rfl)) k0 bel lt0) (trodAll_cons_mk (shut_int Try.underlying3 w1) trodAll_mk0)), rfl, bel.frame _, fun h => by cases h⟩

theorem over : Rows.keysNumbersRow.holds Try.pinned (OpenSpec.ofChange Rows.keysNumbersSpec) :=
  OpenClaim.holds_of_wide 6 Try.f6 rfl rfl rfl rfl rfl rfl rfl ⟨rfl, rfl, rfl, rfl, rfl⟩ rfl rfl rfl rfl rfl (by kernel_rfl) Try.func6 (by kernel_rfl)
    (of_decide_eq_true (by kernel_rfl)) (by unfold Func.isWrapper; first | (rw [if_pos (by decide +kernel)]; kernel_rfl) | (rw [if_neg (by decide +kernel)]; exact ⟨rfl, rfl⟩))
    (fun os started H enc _ => lifted os started H enc)

/-- ████ THE STATEMENT ████ -/
theorem proved : Rows.KeysNumbersSaid := over
#print axioms proved
end Go.Proofs.Ytedfmhdeghpmgaa.keysNumbers
