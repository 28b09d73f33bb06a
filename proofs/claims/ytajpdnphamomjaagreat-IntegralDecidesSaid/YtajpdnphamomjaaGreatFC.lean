/- Package fraction: mul of numbers. -/
import Derived.Test.YtajpdnphamomjaaGreatFB
namespace Go.Proofs.YtajpdnphamomjaaGreat
open Go.RowKit Go.Q Go.Q.Num

theorem infoU32 : (Tryz.prog.info? 146).map (fun i => (i.zero, i.size, i.bytes)) = some (some (.int .u32 0), 1, 4) := by kernel_rfl

theorem mulF_lt {cc o p q : Nat} (ho : o < 4294967296) (hc : cc < 4294967296) (hp : p < 4294967296) (hq : q < 4294967296) : (cc + o + p * q) / 4294967296 < 4294967296 := by
  have := Nat.mul_le_mul (show p ≤ 4294967295 by omega) (show q ≤ 4294967295 by omega)
  omega

set_option maxHeartbeats 1600000 in
theorem mulF (a b : Option Addr) (n m ca cb x y : Nat) (w : World) (ha : NumAt 4294967296 .u32 w a n ca x) (hb : NumAt 4294967296 .u32 w b m cb y) (hn : n ≤ 1000000000000) (hm : m ≤ 1000000000000) :
    Calls Tryz.prog 106 #[.slice a n ca, .slice b m cb] w (QNum 4294967296 .u32 (x * y) (n + m) w) := by
  obtain ⟨la, hs, hl, hx⟩ := ha
  obtain ⟨lb, hs', hl', hy⟩ := hb
  have HL := Lib.hid hs.nat
  have HL' := Lib.hid hs'.nat
  have HX := Lib.hid hx
  have HY := Lib.hid hy
  have HD := Lib.hid hl
  have HD' := Lib.hid hl'
  obtain ⟨B0, hB⟩ : ∃ B0, B0 = w.heap.size := ⟨_, rfl⟩
  have hb0 : Below B0 w w := Below.refl _ _
  have hB' : B0 ≤ w.heap.size := by omega
  have HB := Lib.hid hB
  clear hx hy hl hl' hB
  go_enter Tryz.func106, Tryz.ntmps106
  go_wp2_with (at_make; refine wpList_mk rfl _ _ 116 rfl B0 146 (.int .u32 0) 1 4 Tryz.underlying116 infoU32 .i64 .i64 _ _ (n + m) rfl rfl (by omega) (by omega) (by omega) (by unfold maxLen; omega) (by omega) ?_)
  intro od w1 hown hg hblk
  have hb1 : Below B0 w w1 := hb0.grown hg hB' (by intro k h; cases h)
  have hB1 : B0 ≤ w1.heap.size := by have := hg.size; omega
  have HM := Lib.hid (made_nat .u32 (n + m))
  have hown0 : Own w1 B0 146 1 (some od) (n + m) (n + m) (nats .u32 (List.replicate (n + m) 0)) := by
    rw [← HM.out]; exact hown
  clear hown hg hblk
  go_wp2
  go_loopg [19] n (fun g i wr => ∃ (k : Nat) (out : List Nat), g = n - k ∧ k ≤ n ∧ i = .int .i64 k ∧ Own wr B0 146 1 (some od) (n + m) (n + m) (nats .u32 out) ∧ Low 4294967296 out ∧ val 4294967296 out = val 4294967296 (la.take k) * y ∧ Below B0 w wr ∧ B0 ≤ wr.heap.size)
  case atStart => exact ⟨0, _, by omega, by omega, rfl, hown0, Low.zeros (by omega) _, by rw [val_zeros]; simp [val], hb1, hB1⟩
  case round =>
    obtain ⟨i, out, hg, hi, rfl, hown, hlow, hv, hbel, hBr⟩ := hrel
    have HG := Lib.hid hg
    have HV := Lib.hid hv
    have HW := Lib.hid hlow
    have HO : Hid (out.length = n + m) := by have := hown.1; rw [nats_len, Nat.mul_one] at this; exact this
    have hsr := hs.below hbel (by rw [HB.out]; exact hs.lt)
    clear hg hv hlow hown0 hb1 hB1 HM
    by_cases hin : i < n
    · obtain ⟨ad, p, rfl, had1, hp, _⟩ := hsr.getn hin
      have hp9 : p < 4294967296 := HD.out.low.get hp.out
      have HZ : Hid (out[i + m]? = some 0) := by
        obtain ⟨z, hz⟩ : ∃ z, out[i + m]? = some z := ⟨_, List.getElem?_eq_getElem (by rw [HO.out]; omega)⟩
        have : val 4294967296 out < 4294967296 ^ (i + m) := by
          rw [HV.out, Nat.pow_add]
          have h1 := val_lt (by omega) (HD.out.low.take i)
          rw [List.length_take, HL.out, Nat.min_eq_left (by omega)] at h1
          have h2 := val_lt (by omega) HD'.out.low
          rw [HL'.out, HY.out] at h2
          exact Nat.mul_lt_mul_of_lt_of_le h1 (Nat.le_of_lt h2) (Nat.pow_pos (by omega))
        rw [zero_above hz this] at hz
        exact hz
      go_wp2
      go_loopg [8, 26] m (fun g c kk wr => ∃ (k cc : Nat) (out : List Nat), g = m - k ∧ k ≤ m ∧ kk = .int .i64 k ∧ c = .int .u64 (cc : Int) ∧ cc < 4294967296 ∧ Own wr B0 146 1 (some od) (n + m) (n + m) (nats .u32 out) ∧ Low 4294967296 out ∧ val 4294967296 out + 4294967296 ^ (i + k) * cc = val 4294967296 (la.take i) * y + 4294967296 ^ i * (p * val 4294967296 (lb.take k)) ∧ out[i + m]? = some 0 ∧ Below B0 w wr ∧ B0 ≤ wr.heap.size)
      case atStart => exact ⟨0, 0, out, by omega, by omega, rfl, rfl, by omega, hown, HW.out, by rw [HV.out]; simp [val], HZ.out, hbel, hBr⟩
      case round =>
        obtain ⟨k, cc, out, hg, hk, rfl, rfl, hcc, hown, hlow, hv, hz, hbel, hBr⟩ := hrel
        have HGi := Lib.hid hg
        have HV := Lib.hid hv
        have HW := Lib.hid hlow
        have HZ := Lib.hid hz
        clear hg hv hlow hz
        by_cases hkm : k < m
        · obtain ⟨od', o, had', h1, hf1, ho, hb2, hb3⟩ := hown.getn (i := i + k) (by omega)
          cases had'
          obtain ⟨bd, q, rfl, h3, hq, _⟩ := (hs'.below hbel (by rw [HB.out]; exact hs'.lt)).getn hkm
          have ho9 : o < 4294967296 := HW.out.get ho.out
          have hq9 : q < 4294967296 := HD'.out.low.get hq.out
          have hpq : (p : Int) * (q : Int) ≤ 18446744065119617025 := by
            have := Nat.mul_le_mul (show p ≤ 4294967295 by omega) (show q ≤ 4294967295 by omega)
            have h : ((p * q : Nat) : Int) ≤ 18446744065119617025 := by omega
            rwa [Int.natCast_mul] at h
          have hpq0 : 0 ≤ (p : Int) * (q : Int) := Int.mul_nonneg (by omega) (by omega)
          go_wp2
          go_roundg (m - (k + 1))
          case measure => have := HGi.out; omega
          case rel =>
            have ecell : ((cc : Int) + ((p : Int) * q + o)) = ((cc + o + p * q : Nat) : Int) := by simp; omega
            refine ⟨k + 1, (cc + o + p * q) / 4294967296, out.set (i + k) ((cc + o + p * q) % 4294967296), rfl, by omega, by go_num, ?_, mulF_lt ho9 hcc hp9 hq9, ?_, HW.out.set _ (Nat.mod_lt _ (by omega)), by rw [val_take_succ hq.out]; exact mul_step ho.out HV.out, ?_, hbel.setCell (by rw [add_block]; exact hb2) _, by simp [World.setCell]; omega⟩
            · rw [ecell]; simp
            · rw [← nats_set, ecell]; simpa using hown.set (i + k) (.int .u32 ((((cc + o + p * q : Nat) : Int)) % 4294967296))
            · rw [List.getElem?_set_ne (by omega)]; exact HZ.out
        · obtain rfl : k = m := by omega
          obtain ⟨od', o, had', h1, hf1, ho, hb2, hb3⟩ := hown.getn (i := i + k) (by omega)
          cases had'
          have HV2 : Hid (val 4294967296 (out.set (i + k) cc) = val 4294967296 (la.take (i + 1)) * y) := by
            have h := HV.out
            have h0 := val_set (B := 4294967296) (y := cc) HZ.out
            rw [List.take_of_length_le (l := lb) (by rw [HL'.out]; omega), HY.out] at h
            show _ = _
            rw [val_take_succ hp.out, Nat.add_mul, Nat.mul_assoc]
            omega
          go_wp2
          go_roundg (n - (i + 1))
          case measure => have := HG.out; omega
          case rel => exact ⟨i + 1, out.set (i + k) cc, rfl, by omega, by go_num, by rw [← nats_set]; simpa using hown.set (i + k) (.int .u32 (cc : Int)), HW.out.set _ hcc, HV2.out, hbel.setCell (by rw [add_block]; exact hb2) _, by simp [World.setCell]; omega⟩
    · have HF : Hid (val 4294967296 out = x * y) := by
        rw [HV.out, List.take_of_length_le (l := la) (by rw [HL.out]; omega), HX.out]; rfl
      have hsl := hown.sl
      go_wp2_with fail
      refine (trimF 4294967296 _ _ _ _ _ hsl HW.out).mono ?_
      rintro e w2 ⟨n', rfl, hnum, hn', hd⟩
      rw [HF.out] at hnum
      go_wp2
      go_ret
      exact ⟨_, n', _, rfl, hnum, hn', by rw [← HB.out]; exact Below.dr hbel hd, hown.fr HB.out⟩
end Go.Proofs.YtajpdnphamomjaaGreat
