/- Proved: the statement Rows.KeysRoundsSaid of this seat: the law KeysRounds returns true for every input, and each argument reads afterwards as it read before. Conditions: none beyond the given statement's own. The frame was written by the kit's proof-skeleton; the walk is ours. -/
import Derived.Test.YtedfmhdeghpmgaaRows
import Derived.Test.YtedfmhdeghpmgaaFind2
import Derived.WalkKit
import Derived.ProofKit
import Derived.OpenShut
import Derived.ShutString
import Derived.ChangeOld
import Derived.Below
namespace Go.Proofs.Ytedfmhdeghpmgaa.keysRounds
open Go.Q Go.RowKit
open Go.ChangeShapes Go.WideShapes Go.ChangeAt Go.RowKit
open Go.ChangeMaps (open_string shut_string)
set_option linter.unusedVariables false

theorem own : ownKnob Try.prog.godebug = none := by kernel_rfl
theorem laidOut : laidOutB Try.prog = true := by kernel_rfl

/-! ### STEP 1: THE WALK: the Go text returns true, AND WRITES NOTHING THAT WAS THERE: 'Below w.heap.size w w'' (Derived/Below.lean: '.refl', '.alloc', '.drew', '.setCell' at a new block, '.trans'). Open each 'IsRow' by 'rcases' AHEAD of 'go_enter'; part every test ahead of the walk. -/
/-- the counts that the law makes -/
def cs (l : List Int) : List Int := l.map (· % 6)
theorem cs_get {l : List Int} {k : Nat} {x : Int} (h : l[k]? = some x) : (cs l)[k]? = some (x % 6) := by simp [cs, h]
theorem cs_take {l : List Int} {k : Nat} {x : Int} (h : l[k]? = some x) : cs (l.take (k + 1)) = cs (l.take k) ++ [x % 6] := by
  simp [cs, List.take_add_one, h]
theorem cs_nonneg (l : List Int) : ∀ x ∈ cs l, 0 ≤ x := by
  intro x hx
  simp [cs] at hx
  obtain ⟨y, _, rfl⟩ := hx
  exact Int.emod_nonneg _ (by omega)
theorem cs_le (l : List Int) : ∀ x ∈ cs l, x ≤ 5 := by
  intro x hx
  simp [cs] at hx
  obtain ⟨y, _, rfl⟩ := hx
  have := Int.emod_lt_of_pos y (show (0 : Int) < 6 by omega)
  omega
theorem sum_le (l : List Int) (h : ∀ x ∈ l, x ≤ 5) : l.sum ≤ 5 * l.length := by
  induction l with
  | nil => simp
  | cons a t ih =>
    have h1 := h a (by simp)
    have h2 := ih (fun x hx => h x (by simp [hx]))
    simp only [List.sum_cons, List.length_cons]
    omega
theorem cs_err {l : List Int} (h : l.length ≤ 20) : offsErr (cs l) = 0 := by
  have h1 : anyNeg (cs l) = false := noneg (cs_nonneg l)
  have h2 := sum_le (cs l) (cs_le l)
  have h3 : (cs l).length = l.length := by simp [cs]
  simp [offsErr, h1]; omega
theorem find_at {c : List Int} (h0 : offsErr c = 0) {k : Nat} {x j : Int} (hx : c[k]? = some x) (hj : 0 ≤ j) (hjx : j < x) : FindR c (pre c k + j) k j true := by
  have hk : k < c.length := (List.getElem?_eq_some_iff.1 hx).1
  exact .inr ⟨rfl, h0, k, hk, rfl, by omega, by rw [pre_succ hx]; omega, by omega⟩

set_option maxHeartbeats 1000000 in
theorem core (a0 : Option Addr) (n c : Nat) (l : List Int) (bl m : Int) (w : World) (hs : Sl w a0 n 1 (ints .u8 l)) (hlb : ∀ x ∈ l, 0 ≤ x ∧ x ≤ 255) (hn0 : 1 ≤ n) (hn2 : n ≤ 20) (hbl : 0 ≤ bl) (hbl2 : bl ≤ 255) (hm : 0 ≤ m) (hm2 : m ≤ 65535) :
    Calls Try.prog 7 #[.slice a0 n c, .int .u8 bl, .int .u16 m] w fun e w' => e = .returned (.bool true) ∧ Below w.heap.size w w' := by
  obtain ⟨B, hB⟩ : ∃ B, B = w.heap.size := ⟨_, rfl⟩
  have hb0 : Below B w w := Below.refl _ _
  have hB' : B ≤ w.heap.size := by omega
  have HB := Lib.hid hB
  have HL := Lib.hid hs.int
  have HLB := Lib.hid hlb
  clear hB hlb
  have hne : ((n : Int) == 0) = false := by simp; omega
  go_enter Try.func7, Try.ntmps7
  go_wp2
  go_loopw [7, 8] (fun v i wr => ∃ (k : Nat) (a : Option Addr) (c : Nat), k ≤ n ∧ i = .int .i64 k ∧ v = .slice a k c ∧ Own wr B 3 1 a k c (ints .i64 (cs (l.take k))) ∧ Below B w wr ∧ B ≤ wr.heap.size) (fun _ i _ => n - (intOf i).toNat)
  case atStart => exact ⟨0, none, 0, Nat.zero_le _, rfl, rfl, Own.nil _ _ _ _, hb0, hB'⟩
  case round =>
    obtain ⟨k, a, c, hk, rfl, rfl, hown, hb, hBr⟩ := hrel
    by_cases hlt : k < n
    · obtain ⟨ld, x, rfl, hc, hx, hblk⟩ := (hs.below hb (by rw [HB.out]; exact hs.lt (by omega))).get hlt
      obtain ⟨hx0, hx1⟩ := HLB.out x (List.mem_of_getElem? hx.out)
      go_wp2_with (at_builtin; refine wpList_app rfl _ _ 22 rfl B 3 _ _ _ Try.underlying22 info3 rfl (by decide) _ _ _ _ rfl (hown.alloc _) _ 1 1 [.int .i64 (x % 6)] rfl rfl (cell_new _ _ _) (by simp [Value.oneCell']) (by omega) (by unfold maxLen; omega) (by simp; omega) ?_)
      intro a' c' w1 hap
      have hb1 : Below B w w1 := hap.below (hown.alloc _) (hb.alloc hBr _) (by simp; omega)
      have hB1 : B ≤ w1.heap.size := by have := hap.size; simp at this; omega
      go_wp2
      go_roundw
      case rel => exact ⟨k + 1, a', c', by omega, by go_num, rfl, by rw [cs_take hx.out, ints_app]; exact hap.own, hb1, hB1⟩
      case measure => simp [intOf]; omega
    · obtain rfl : k = n := by omega
      obtain ⟨ls, hls⟩ : ∃ ls, ls = cs l := ⟨_, rfl⟩
      have HLS := Lib.hid hls
      have HE : Hid (offsErr ls = 0) := by rw [hls]; exact cs_err (by rw [HL.out]; exact hn2)
      have HNN : Hid (∀ x ∈ ls, 0 ≤ x) := by rw [hls]; exact cs_nonneg l
      have HLE : Hid (∀ x ∈ ls, x ≤ 5) := by rw [hls]; exact cs_le l
      have HLL : Hid (ls.length = k) := by rw [hls]; show _ = _; rw [← HL.out]; simp [cs]
      have hsl : Sl wr a k 1 (ints .i64 ls) := by
        have := hown.sl (by omega)
        rw [List.take_of_length_le (by rw [HL.out]; omega)] at this
        rw [hls]; exact this
      clear hls hown
      have hnz : ((k : Int) == 0) = false := by simp; omega
      obtain ⟨w0, rfl⟩ : ∃ w0 : World, w0 = wr := ⟨_, rfl⟩
      go_wp2
      go_loopw [9, 10] (fun at' i wr => ∃ (p : Nat) (t : Int), p ≤ k ∧ i = .int .i64 p ∧ at' = .int .i64 t ∧ Hid (t = pre ls p) ∧ 0 ≤ t ∧ t ≤ 5 * p ∧ Below w0.heap.size w0 wr) (fun _ i _ => k - (intOf i).toNat)
      case atStart => exact ⟨0, 0, Nat.zero_le _, rfl, rfl, (pre_zero ls).symm, by omega, by omega, Below.refl _ _⟩
      case round =>
        obtain ⟨p, t, hp, rfl, rfl, ht, ht0, ht5, hbo⟩ := hrel
        by_cases hlt2 : p < k
        · obtain ⟨ad, x, rfl, _, hx, _⟩ := hsl.get hlt2
          have hx0 : 0 ≤ x := HNN.out x (List.mem_of_getElem? hx.out)
          have hx5 : x ≤ 5 := HLE.out x (List.mem_of_getElem? hx.out)
          obtain ⟨w1, rfl⟩ : ∃ w1 : World, w1 = wr := ⟨_, rfl⟩
          go_wp2
          go_loopw [9, 11] (fun at' j wr => ∃ (q : Nat), (q : Int) ≤ x ∧ j = .int .i64 q ∧ at' = .int .i64 (t + q) ∧ Below w0.heap.size w0 wr) (fun _ j _ => (x - intOf j).toNat)
          case atStart => exact ⟨0, by omega, rfl, by simp, hbo⟩
          case round =>
            obtain ⟨q, hq, rfl, rfl, hbi⟩ := hrel
            have hsi := hsl.kept hbi
            obtain ⟨ad', x', had, hcell, hx', _⟩ := hsi.get hlt2
            cases had
            obtain rfl : x' = x := by have h1 := hx'.out; rw [hx.out] at h1; simpa using h1.symm
            by_cases hlt3 : (q : Int) < x'
            · go_wp2_with fail
              refine (find17 _ _ _ _ _ _ hsi (by omega)).mono ?_
              rintro e w2 ⟨xx, jj, ok, rfl, hf, hb2⟩
              obtain ⟨rfl, rfl, rfl⟩ := FindR_uniq hf (by have := find_at HE.out hx.out (show (0 : Int) ≤ q by omega) hlt3; rwa [← ht.out] at this)
              clear hf
              have hbi2 : Below w0.heap.size w0 w2 := hbi.trans (hb2.mono hbi.size)
              go_wp2
              go_roundw
              case rel => exact ⟨q + 1, by omega, by go_num, by go_num, hbi2⟩
              case measure => simp [intOf]; omega
            · obtain rfl : x' = (q : Int) := by omega
              go_wp2
              go_roundw
              case rel => exact ⟨p + 1, t + q, by omega, by go_num, rfl, by rw [pre_succ hx.out, ← ht.out]; rfl, by omega, by omega, hbi⟩
              case measure => simp [intOf]; omega
        · clear ht ht0 ht5
          obtain ⟨bi, hbi⟩ : ∃ bi : Nat, (bi : Int) = bl % k := ⟨(bl % k).toNat, by have := Int.emod_nonneg bl (show (k : Int) ≠ 0 by omega); omega⟩
          have hbk : bi < k := by have := Int.emod_lt_of_pos bl (show (0 : Int) < k by omega); omega
          have HBI : Hid (bl % (k : Int) = (bi : Int)) := Lib.hid hbi.symm
          clear hbi
          have hsr := hsl.kept hbo
          obtain ⟨ad, x, rfl, hcell, hx, _⟩ := hsr.get hbk
          have hx0 : 0 ≤ x := HNN.out x (List.mem_of_getElem? hx.out)
          have hx5 : x ≤ 5 := HLE.out x (List.mem_of_getElem? hx.out)
          have hbw : Below w.heap.size w wr := by rw [← HB.out]; exact hb.trans (hbo.mono hBr)
          go_wp2_with fail
          rw [HBI.out]
          obtain ⟨tv, hv⟩ : ∃ tv, tv = targetVal ls bi m := ⟨_, rfl⟩
          obtain ⟨tk, htk⟩ : ∃ tk, tk = targetOk ls bi m := ⟨_, rfl⟩
          have HV := Lib.hid hv
          have HK := Lib.hid htk
          clear hv htk
          refine (tar13 _ _ _ _ _ _ _ hsr (by omega) (by omega)).mono ?_
          rintro e w2 ⟨rfl, hb2⟩
          rw [← HV.out, ← HK.out]
          have hsr2 := hsr.kept hb2
          have hbw2 : Below w.heap.size w w2 := hbw.trans (hb2.mono hbw.size)
          have hcell2 : w2.cell? (ad.add bi) = some (.int .i64 x) := by
            obtain ⟨ad', x', had, hc', hx', _⟩ := hsr2.get hbk
            cases had
            obtain rfl : x' = x := by have h1 := hx'.out; rw [hx.out] at h1; simpa using h1.symm
            exact hc'
          clear hcell
          by_cases hxz : x = 0
          · subst hxz
            obtain rfl : tk = false := by
              rw [HK.out]; refine decide_eq_false (fun h => h.2.2.2.1 ?_)
              simpa using hx.out
            obtain rfl : tv = 0 := by
              rw [HV.out]; unfold targetVal; rw [← HK.out]; rfl
            go_wp2
            go_ret
            exact ⟨rfl, hbw2⟩
          · have hxe : (x == 0) = false := by simpa using hxz
            have hx1 : 1 ≤ x := by omega
            clear hxz
            obtain rfl : tk = true := by
              rw [HK.out]
              refine decide_eq_true ⟨HE.out, by omega, by rw [HLL.out]; omega, ?_, hm⟩
              simp only [Int.toNat_natCast]
              rw [hx.out]
              simp; omega
            have HV2 : Hid (tv = pre ls bi + m % x) := by
              show _ = _
              rw [HV.out]; unfold targetVal; rw [← HK.out]
              simp only [Int.toNat_natCast]
              rw [hx.out]; rfl
            go_wp2_with fail
            refine (tar13 _ _ _ _ _ _ _ hsr2 (by omega) (by omega)).mono ?_
            rintro e w3 ⟨rfl, hb3⟩
            have HK3 : targetOk ls bi (m + x) = true := by
              refine decide_eq_true ⟨HE.out, by omega, by rw [HLL.out]; omega, ?_, by omega⟩
              simp only [Int.toNat_natCast]
              rw [hx.out]
              simp; omega
            have HV3 : targetVal ls bi (m + x) = tv := by
              rw [HV2.out]; unfold targetVal; rw [HK3]
              simp only [Int.toNat_natCast]
              rw [hx.out]
              simp
            rw [HK3, HV3]
            clear HK3 HV3
            have hsr3 := hsr2.kept hb3
            have hbw3 : Below w.heap.size w w3 := hbw2.trans (hb3.mono hbw2.size)
            go_wp2_with fail
            refine (find17 _ _ _ _ _ _ hsr3 (by omega)).mono ?_
            rintro e w4 ⟨xx, jj, ok, rfl, hf, hb4⟩
            obtain ⟨rfl, rfl, rfl⟩ := FindR_uniq hf (by have := find_at HE.out hx.out (Int.emod_nonneg m (show x ≠ 0 by omega)) (Int.emod_lt_of_pos m (show 0 < x by omega)); rwa [← HV2.out] at this)
            clear hf
            go_wp2
            go_ret
            exact ⟨by simp, hbw3.trans (hb4.mono hbw3.size)⟩
theorem walk (a0 : Option Addr) (len0 cap0 : Nat) (z0 : List Int) (a1 : Int) (a2 : Int) (w : World) (w0 : IsRow .u8 w a0 len0 cap0 z0) (w1 : (Lit.int .u8 a1).wf = true) (w2 : (Lit.int .u16 a2).wf = true) :
    Calls Try.prog 7 #[.slice a0 len0 cap0, .int .u8 a1, .int .u16 a2] w fun e w' => e = .returned (.bool true) ∧ Below w.heap.size w w' := by
  have hs := isrow_sl w0
  have hw := isrow_wf w0
  have b1 := bounds_u8 w1
  have b2 := bounds_u16 w2
  by_cases h0 : len0 = 0
  · subst h0
    go_enter Try.func7, Try.ntmps7
    go_wp2
    go_ret
    exact ⟨rfl, Below.refl _ _⟩
  by_cases h1 : (20 : Int) < len0
  · have hne : ((len0 : Int) == 0) = false := by simp; omega
    go_enter Try.func7, Try.ntmps7
    go_wp2
    go_ret
    exact ⟨rfl, Below.refl _ _⟩
  exact core a0 len0 cap0 (z0.take len0) a1 a2 w hs (fun x hx => bounds_u8 (hw x hx)) (by omega) (by omega) b1.1 b1.2 b2.1 b2.2

/-! ### THE ROW's STEP: WRITTEN OUT: LEAVE IT -/
set_option maxRecDepth 100000 in
theorem lifted (os : Os) (started : os.Started) (H : Type) (enc : TypeId × Value → H) :
    ReturnsInHanded {} Try.checked os 7 .any (Rows.keysRoundsSpec.pre6 enc Try.prog Try.f7 Rows.keysRoundsRow.domain false) (Rows.keysRoundsSpec.post enc Try.prog Try.f7 false true false false) := by
  refine returnsInHanded_of_change (C := Try.checked) own started (by kernel_rfl) Try.func7
    (ChangeSpec.witness6 (enc := enc) (C := Try.checked) false ⟨#[], #[.slice none 0 0, .int .u8 0, .int .u16 0], []⟩ 8 (by kernel_rfl) (by kernel_rfl) (by kernel_rfl) (by kernel_rfl)) ?_
  intro W base args ds gs before hval0 hW hcnd _
  have hval : ∀ (j : Nat) t v, Try.f7.params[j]? = some t → args[j]? = some v → Value.okWide Try.prog W .any base t v := hval0
  have hW' := hW
  obtain ⟨p, q, hA0, hV, rfl, hfz, hnd⟩ := hW
  have hA : DataW.TrodAll enc Try.prog W 0 (fun _ => true) true Try.f7.params.toList args.toList ds p := hA0
  rw [Try.params7] at hA hval
  obtain ⟨v0, vs0, d0, ds0, p0, q0, hargs, rfl, rfl, h0, r0⟩ := trodAll_cons hA
  obtain ⟨v1, vs1, d1, ds1, p1, q1, rfl, rfl, rfl, h1, r1⟩ := trodAll_cons r0
  obtain ⟨v2, vs2, d2, ds2, p2, q2, rfl, rfl, rfl, h2, r2⟩ := trodAll_cons r1
  obtain ⟨rfl, rfl, rfl⟩ := trodAll_nil r2
  obtain rfl : args = #[v0, v1, v2] := by cases args; simp_all
  obtain ⟨rfl, rfl⟩ := trodVars_none hV
  obtain ⟨a0, len0, cap0, rfl⟩ := okWide_slice Try.underlying38 (hval 0 38 v0 rfl rfl)
  have k0 := h0
  have lt0 : ∀ x ∈ p0, x.block < W.heap.size := by obtain ⟨m, hm⟩ := k0; exact DataW.trod_lt m _ _ _ hm
  obtain ⟨z0, w0⟩ : ∃ zs, IsRow .u8 W a0 len0 cap0 zs := by
    obtain ⟨fuel, hf⟩ := h0
    rcases open_ints Try.underlying38 Try.underlying5 (by kernel_rfl) hf with ⟨hcs, _⟩ | ⟨x, l, c, zs, hcs, _, hl, hm, hz, _, hcell, hwz⟩
    · simp [Value.cells] at hcs
      obtain ⟨rfl, rfl, rfl⟩ := hcs
      exact ⟨[], .inl ⟨rfl, rfl, rfl, rfl⟩⟩
    · simp [Value.cells] at hcs
      obtain ⟨rfl, rfl, rfl⟩ := hcs
      exact ⟨zs, .inr ⟨_, rfl, hl, hm, by simpa using hz, hcell, hwz⟩⟩
  obtain ⟨a1, rfl, rfl, rfl, w1⟩ := open_int Try.underlying5 (hval 1 5 v1 rfl rfl) h1
  obtain ⟨a2, rfl, rfl, rfl, w2⟩ := open_int Try.underlying39 (hval 2 39 v2 rfl rfl) h2
  clear hA0 hval0
  refine (walk a0 len0 cap0 z0 a1 a2 W w0 w1 w2).mono fun e W' ⟨he, bel⟩ => ?_
  subst he
  exact ⟨_, rfl, _, _, _, [], _, [], hW', trodAll_mk1 (shut_bool Try.underlying4 _), (trodAll_cons_mk (Below.trod laidOut (by kernel_rfl) (of_decide_eq_true (by kernel_rfl)) k0 bel lt0) (trodAll_cons_mk (shut_int Try.underlying5 w1) (trodAll_cons_mk (shut_int Try.underlying39 w2) trodAll_mk0))), rfl, bel.frame _, fun h => by cases h⟩

theorem over : Rows.keysRoundsRow.holds Try.pinned (OpenSpec.ofChange Rows.keysRoundsSpec) :=
  OpenClaim.holds_of_wide 7 Try.f7 rfl rfl rfl rfl rfl rfl rfl ⟨rfl, rfl, rfl, rfl, rfl⟩ rfl rfl rfl rfl rfl (by kernel_rfl) Try.func7 (by kernel_rfl)
    (of_decide_eq_true (by kernel_rfl)) (by unfold Func.isWrapper; first | (rw [if_pos (by decide +kernel)]; kernel_rfl) | (rw [if_neg (by decide +kernel)]; exact ⟨rfl, rfl⟩))
    (fun os started H enc _ => lifted os started H enc)

/-- ████ THE STATEMENT ████ -/
theorem proved : Rows.KeysRoundsSaid := over
#print axioms proved
end Go.Proofs.Ytedfmhdeghpmgaa.keysRounds
