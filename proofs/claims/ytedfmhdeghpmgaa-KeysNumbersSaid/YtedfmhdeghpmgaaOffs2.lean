import Derived.Test.YtedfmhdeghpmgaaOffs
namespace Go.Proofs.Ytedfmhdeghpmgaa
open Go.RowKit Go.Q

theorem neg_of {l : List Int} {k : Nat} {x : Int} (hx : l[k]? = some x) (h : x < 0) : anyNeg l = true := by
  simp only [anyNeg, decide_eq_true_eq]; exact ⟨x, List.mem_of_getElem? hx, h⟩
theorem noneg {l : List Int} (h : ∀ x ∈ l, 0 ≤ x) : anyNeg l = false := by
  simp only [anyNeg, decide_eq_false_iff_not]
  rintro ⟨x, hx, h0⟩; have := h x hx; omega

set_option maxHeartbeats 400000 in
theorem offs16 (a0 : Option Addr) (n c : Nat) (l : List Int) (w : World) (hs : Sl w a0 n 1 (ints .i64 l)) (hn2 : n ≤ 200) :
    Calls Try.prog 16 #[.slice a0 n c] w (QLE (offsList l) (offsErr l) w) := by
  obtain ⟨B, hB⟩ : ∃ B, B = w.heap.size := ⟨_, rfl⟩
  have HB := Lib.hid hB
  have hn := hs.le
  have HL := Lib.hid hs.int
  have hb0 : Below B w w := Below.refl _ _
  have hB0 : B ≤ w.heap.size := by omega
  clear hB
  go_enter Try.func16, Try.ntmps16
  go_wp2
  go_loop [4] (fun i => ∃ k : Nat, k ≤ n ∧ i = .int .i64 k ∧ Hid (∀ x ∈ l.take k, 0 ≤ x)) (fun i => n - (intOf i).toNat)
  case atStart => exact ⟨0, Nat.zero_le _, rfl, by intro x h; simp at h⟩
  case round =>
    obtain ⟨k, hk, rfl, hall⟩ := hrel
    by_cases hlt : k < n
    · obtain ⟨ld, x, rfl, hc, hx, hblk⟩ := hs.get hlt
      by_cases hx0 : x < 0
      · go_wp2
        go_ret2
        exact offs_bad (offs_neg (neg_of hx.out hx0)) (by decide) (Below.refl _ _)
      · go_wp2
        go_round
        case rel => exact ⟨k + 1, by omega, by go_num, nonneg_succ hx.out hall (by omega)⟩
        case measure => simp [intOf]; omega
    · have HP : Hid (∀ x ∈ l, 0 ≤ x) := by
        have h2 : l.take k = l := List.take_of_length_le (by rw [HL.out]; omega)
        rwa [h2] at hall
      have HG : Hid (anyNeg l = false) := Lib.hid (noneg HP.out)
      clear hall
      go_wp2
      go_loopw [5, 6] (fun v i wr => ∃ (k : Nat) (a : Option Addr) (c t : _), k ≤ n ∧ i = .int .i64 k ∧ v = .slice a (k + 1) c ∧ Hid (t = pre l k) ∧ 0 ≤ t ∧ t ≤ 1000000000 ∧ Own wr B 3 1 a (k + 1) c (ints .i64 (psums (l.take k))) ∧ Below B w wr ∧ B ≤ wr.heap.size) (fun _ i _ => n - (intOf i).toNat)
      case atStart => exact ⟨0, _, _, 0, Nat.zero_le _, rfl, rfl, (pre_zero l).symm, by omega, by omega, by rw [List.take_zero, psums_nil]; exact Own.lit w B 3 1 1 _ hB0 rfl (by decide), hb0.alloc hB0 _, by simp; omega⟩
      case round =>
        obtain ⟨k, a, c, t, hk, rfl, rfl, ht, ht0, ht1, hown, hb, hBr⟩ := hrel
        by_cases hlt : k < n
        · obtain ⟨ld, x, rfl, hc, hx, hblk⟩ := (hs.below hb (by rw [HB.out]; exact hs.lt (by omega))).get hlt
          have hx0 : 0 ≤ x := HP.out x (List.mem_of_getElem? hx.out)
          obtain ⟨ad, y, rfl, hc2, hf2, hy, hb2, hb3⟩ := hown.geti (i := k) (by omega)
          obtain rfl : t = y := by rw [ht.out, (psums_get hy.out).2]; simp [pre, List.take_take]
          by_cases hbig : 1000000000 - t < x
          · go_wp2
            go_quiet (fail)
            go_wp2
            go_ret2
            exact offs_bad (offs_big HG.out hx.out (by rw [← ht.out]; exact hbig)) (by decide) (by rw [← HB.out]; exact Below.dr hb (Dr.drewN (Dr.refl _) _))
          · have i0 : (0 : Int) ≤ (k : Int) := by omega
            have i1 : (k : Int) < (n : Int) := by omega
            have i2 : (k : Int) < (k : Int) + 1 := by omega
            have HW : IntKind.i64.wrap (t + x) = t + x := IntWalk.i64_in _ (by omega)
            go_wp2
            go_quiet (fail)
            have H2 : Dr wr (wr.drewN nq) := (Dr.refl _).drewN nq
            generalize wr.drewN nq = w2 at H2 ⊢
            have hown2 := hown.dr H2
            have hb2' := Below.dr hb H2
            have hc' : w2.cell? (ld.add k) = some (.int .i64 x) := by obtain ⟨m, rfl⟩ := H2; exact hc
            have hc2' : w2.cell? (ad.add k) = some (.int .i64 t) := by obtain ⟨m, rfl⟩ := H2; exact hc2
            have hs2 := H2.size
            have hBr2 : B ≤ w2.heap.size := by omega
            have hblk2 : ld.block < w2.heap.size := by omega
            have hb32 : ad.block < w2.heap.size := by omega
            have hlB : Hid (ld.block < B) := by have := HB.out; show _ < _; rw [this]; exact hs.lt (by omega) _ rfl
            clear H2 hs2 hc hc2 hf2
            go_wp2
            go_region_held3 (fun w' => w'.cell? (ld.add k) = some (.int .i64 x) ∧ w'.cell? (ad.add k) = some (.int .i64 t))
              (first | go_keep | exact ⟨(hap.cell ((hown2.alloc _).drew) (by rw [add_block]; exact hlB.out) (by simp; omega)).trans (by go_keep), (hap.old _ rfl k (by omega)).trans (by go_keep)⟩)
              ((refine step_app (by rfl) _ _ _ (by rfl) B 3 _ 1 8 Try.underlying22 info3 rfl (by decide) _ _ _ _ (by rfl) ((hown2.alloc _).drew) _ 1 1 [.int .i64 (t + x)] (by rfl) (by rfl) (cell_new _ _ _) (by simp [Value.oneCell']) (by omega) (by unfold maxLen; omega) (by simp; omega) ?_; intro a' c' w1 hap))
            have hb1 : Below B w w1 := hap.below ((hown2.alloc _).drew) ((hb2'.alloc hBr2 _).drew) (by simp; omega)
            have hB1 : B ≤ w1.heap.size := by have := hap.size; simp at this; omega
            have HT : Hid (t + x = pre l (k + 1)) := Lib.hid (by rw [pre_succ hx.out, ← ht.out])
            clear HW
            go_wp2
            go_roundw
            case rel => exact ⟨k + 1, a', c', t + x, by omega, by go_num, rfl, HT, by omega, by omega, by rw [psums_take hx.out, ints_app, ← HT.out]; exact hap.own, hb1, hB1⟩
            case measure => simp [intOf]; omega
        · have HN : Hid (l.take k = l) := Lib.hid (List.take_of_length_le (by rw [HL.out]; omega))
          have HK : Hid (k = l.length) := Lib.hid (by rw [HL.out]; omega)
          go_wp2
          go_ret2
          have he := offs_ok HG.out (by rw [← HK.out, ← ht.out]; exact ht1)
          unfold offsList
          rw [he, if_pos rfl]
          rw [HN.out] at hown
          exact ⟨a, _, c, rfl, hown.sl (by omega), by rw [← HB.out]; exact hb⟩
end Go.Proofs.Ytedfmhdeghpmgaa
