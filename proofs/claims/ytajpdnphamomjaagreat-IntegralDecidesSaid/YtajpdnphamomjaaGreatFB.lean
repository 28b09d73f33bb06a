/- Package fraction: compare of numbers. -/
import Derived.Test.YtajpdnphamomjaaGreatFA
namespace Go.Proofs.YtajpdnphamomjaaGreat
open Go.RowKit Go.Q Go.Q.Num

set_option maxHeartbeats 400000 in
theorem compareF (a b : Option Addr) (n m ca cb x y : Nat) (w : World) (ha : NumAt 4294967296 .u32 w a n ca x) (hb : NumAt 4294967296 .u32 w b m cb y) :
    Calls Tryz.prog 109 #[.slice a n ca, .slice b m cb] w (QInt (cmpn x y) w) := by
  obtain ⟨l, hs, hl, hx⟩ := ha
  obtain ⟨l', hs', hl', hy⟩ := hb
  have HL := Lib.hid hs.nat
  have HL' := Lib.hid hs'.nat
  have HX := Lib.hid hx
  have HY := Lib.hid hy
  have HD := Lib.hid hl
  have HD' := Lib.hid hl'
  have hn := hs.le
  have hm := hs'.le
  clear hx hy hl hl'
  rcases Nat.lt_trichotomy n m with hnm | hnm | hnm
  · have CN : Hid (cmpn n m = -1) := by show _ = _; unfold cmpn; split <;> (try split) <;> omega
    have HC : Hid (cmpn x y = -1) := by
      have := HD.out.length_lt (by omega) HD'.out (by rw [HL.out, HL'.out]; exact hnm)
      rw [HX.out, HY.out] at this
      show _ = _; unfold cmpn; rw [if_pos this]
    go_enter Tryz.func109, Tryz.ntmps109
    go_wp2_with fail
    refine (cmpInt _ _ _).mono ?_
    rintro e w1 ⟨rfl, hd⟩
    rw [cmpi_nat, CN.out]
    go_wp2
    go_ret
    exact ⟨by rw [HC.out]; rfl, hd⟩
  · subst hnm
    have CN : Hid (cmpn n n = 0) := by show _ = _; unfold cmpn; rw [if_neg (by omega), if_neg (by omega)]
    go_enter Tryz.func109, Tryz.ntmps109
    go_wp2_with fail
    refine (cmpInt _ _ _).mono ?_
    rintro e w1 ⟨rfl, hd1⟩
    rw [cmpi_nat, CN.out]
    go_wp2
    go_loopw [6, 7] (fun i _ wr => ∃ k : Nat, k ≤ n ∧ i = .int .i64 ((k : Int) - 1) ∧ Hid (l.drop k = l'.drop k) ∧ Dr w wr) (fun i _ _ => (intOf i + 1).toNat)
    case atStart => exact ⟨n, Nat.le_refl _, rfl, by show _ = _; rw [List.drop_eq_nil_of_le (by rw [HL.out]; omega), List.drop_eq_nil_of_le (by rw [HL'.out]; omega)], hd1⟩
    case round =>
      obtain ⟨k, hk, rfl, hv, hd⟩ := hrel
      by_cases h0 : k = 0
      · subst h0
        have HC : Hid (cmpn x y = 0) := by
          have h := hv.out
          simp only [List.drop_zero] at h
          have : x = y := by rw [← HX.out, ← HY.out, h]
          show _ = _; unfold cmpn; rw [if_neg (by omega), if_neg (by omega)]
        go_wp2
        go_ret
        exact ⟨by rw [HC.out]; rfl, hd⟩
      · obtain ⟨j, rfl⟩ : ∃ j, k = j + 1 := ⟨k - 1, by omega⟩
        obtain ⟨ad, p, rfl, h1, hp, _⟩ := (hs.dr hd).getn (i := j) (by omega)
        obtain ⟨bd, q, rfl, h2, hq, _⟩ := (hs'.dr hd).getn (i := j) (by omega)
        rcases Nat.lt_trichotomy p q with hpq | hpq | hpq
        · have HC : Hid (cmpn x y = -1) := by
            have := cmp_at (by omega) HD.out.low HD'.out.low hp.out hq.out hv.out hpq
            rw [HX.out, HY.out] at this
            show _ = _; unfold cmpn; rw [if_pos this]
          have CM : Hid (cmpi p q = -1) := by show _ = _; unfold cmpi; rw [if_pos (by omega)]
          have k0 : (0 : Int) ≤ (j : Int) := by omega
          have k1 : (j : Int) < (n : Int) := by omega
          go_wp2_with fail
          go_region_held3 (fun w' => w'.cell? (ad.add j) = some (.int .u32 (p : Int)) ∧ w'.cell? (bd.add j) = some (.int .u32 (q : Int)))
            (first | (go_split_ands; exact ⟨by assumption, by assumption⟩) | (go_keep; done))
            ((first
              | (go_at_call 121; with_reducible refine (cmpU32 p q _).mono ?_
                 rintro e w2 ⟨rfl, ⟨nq2, rfl⟩⟩)))
          rw [CM.out]
          go_wp2
          go_ret
          exact ⟨by rw [HC.out]; rfl, (by first | exact hd | exact (hd).drewN _ | exact ((hd).drewN _).drewN _ | exact (((hd).drewN _).drewN _).drewN _)⟩
        · subst hpq
          have CM : Hid (cmpi p p = 0) := by show _ = _; unfold cmpi; rw [if_neg (by omega), if_neg (by omega)]
          have k0 : (0 : Int) ≤ (j : Int) := by omega
          have k1 : (j : Int) < (n : Int) := by omega
          go_wp2_with fail
          go_region_held3 (fun w' => w'.cell? (ad.add j) = some (.int .u32 (p : Int)) ∧ w'.cell? (bd.add j) = some (.int .u32 (p : Int)))
            (first | (go_split_ands; exact ⟨by assumption, by assumption⟩) | (go_keep; done))
            ((first
              | (go_at_call 121; with_reducible refine (cmpU32 p p _).mono ?_
                 rintro e w2 ⟨rfl, ⟨nq2, rfl⟩⟩)))
          rw [CM.out]
          go_wp2
          go_roundw
          case rel => exact ⟨j, by omega, by go_num, drop_eq_succ hp.out hq.out hv.out, (by first | exact hd | exact (hd).drewN _ | exact ((hd).drewN _).drewN _ | exact (((hd).drewN _).drewN _).drewN _)⟩
          case measure => (first | (simp [intOf]; done) | (simp [intOf]; omega))
        · have HC : Hid (cmpn x y = 1) := by
            have := cmp_at (by omega) HD'.out.low HD.out.low hq.out hp.out hv.out.symm hpq
            rw [HX.out, HY.out] at this
            show _ = _; unfold cmpn; rw [if_neg (by omega), if_pos this]
          have CM : Hid (cmpi p q = 1) := by show _ = _; unfold cmpi; rw [if_neg (by omega), if_pos (by omega)]
          have k0 : (0 : Int) ≤ (j : Int) := by omega
          have k1 : (j : Int) < (n : Int) := by omega
          go_wp2_with fail
          go_region_held3 (fun w' => w'.cell? (ad.add j) = some (.int .u32 (p : Int)) ∧ w'.cell? (bd.add j) = some (.int .u32 (q : Int)))
            (first | (go_split_ands; exact ⟨by assumption, by assumption⟩) | (go_keep; done))
            ((first
              | (go_at_call 121; with_reducible refine (cmpU32 p q _).mono ?_
                 rintro e w2 ⟨rfl, ⟨nq2, rfl⟩⟩)))
          rw [CM.out]
          go_wp2
          go_ret
          exact ⟨by rw [HC.out]; rfl, (by first | exact hd | exact (hd).drewN _ | exact ((hd).drewN _).drewN _ | exact (((hd).drewN _).drewN _).drewN _)⟩
  · have CN : Hid (cmpn n m = 1) := by show _ = _; unfold cmpn; split <;> (try split) <;> omega
    have HC : Hid (cmpn x y = 1) := by
      have := HD'.out.length_lt (by omega) HD.out (by rw [HL.out, HL'.out]; exact hnm)
      rw [HX.out, HY.out] at this
      show _ = _; unfold cmpn; rw [if_neg (by omega), if_pos this]
    go_enter Tryz.func109, Tryz.ntmps109
    go_wp2_with fail
    refine (cmpInt _ _ _).mono ?_
    rintro e w1 ⟨rfl, hd⟩
    rw [cmpi_nat, CN.out]
    go_wp2
    go_ret
    exact ⟨by rw [HC.out]; rfl, hd⟩
end Go.Proofs.YtajpdnphamomjaaGreat
