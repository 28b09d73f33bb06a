/- Numbers of any size of the reference of layer 10: minus, mul. -/
import Derived.Test.YtajpdnphamomjaaGreatR10b
namespace Go.Proofs.YtajpdnphamomjaaGreat
open Go.RowKit Go.Q Go.Q.Num

def Minus10 (w : World) (B0 k : Nat) (la lb : List Nat) (v c : Value) (wr : World) : Prop :=
  ∃ (oa : Option Addr) (oc cc : Nat) (out : List Nat), v = .slice oa k oc ∧ c = .int .u64 (cc : Int) ∧ cc ≤ 1 ∧ Own wr B0 108 1 oa k oc (nats .u64 out) ∧
    Low 1000000000 out ∧ val 1000000000 out + val 1000000000 (lb.take k) = val 1000000000 (la.take k) + 1000000000 ^ k * cc ∧ Below B0 w wr ∧ B0 ≤ wr.heap.size

theorem minus_rel {w w' : World} {B0 k : Nat} {la lb out : List Nat} {oa' : Option Addr} {oc' cc t : Nat} {u : Int} {c' : Value} (hown : Own w' B0 108 1 oa' (k + 1) oc' (nats .u64 out ++ [.int .u64 u]))
    (hl : Low 1000000000 out) (hlen : out.length = k) (hv : val 1000000000 out + val 1000000000 (lb.take k) = val 1000000000 (la.take k) + 1000000000 ^ k * cc) (hcc : cc ≤ 1)
    (hla : Low 1000000000 la) (ht : t + cc + dg lb k = dg la k + 1000000000) (hu : u = ((t % 1000000000 : Nat) : Int)) (hc : c' = .int .u64 ((1 - t / 1000000000 : Nat) : Int)) (hb : Below B0 w w') (hB : B0 ≤ w'.heap.size) :
    Minus10 w B0 (k + 1) la lb (.slice oa' (k + 1) oc') c' w' := by
  have h1 := hla.dg (by omega) k
  subst hu hc
  refine ⟨oa', oc', 1 - t / 1000000000, out ++ [t % 1000000000], rfl, rfl, by omega, ?_, hl.snoc (Nat.mod_lt _ (by omega)), minus_step hlen hv (by omega), hb, hB⟩
  rw [nats_app]; exact hown

set_option maxHeartbeats 800000 in
theorem minus10 (a b : Option Addr) (n m ca cb x y : Nat) (w : World) (ha : NumAt 1000000000 .u64 w a n ca x) (hb : NumAt 1000000000 .u64 w b m cb y) (hn : n ≤ 1000000000000) (hxy : y ≤ x) :
    Calls Tryz.prog 76 #[.slice a n ca, .slice b m cb] w (QNum 1000000000 .u64 (x - y) n w) := by
  obtain ⟨la, hs, hl, hx⟩ := ha
  obtain ⟨lb, hs', hl', hy⟩ := hb
  have HL := Lib.hid hs.nat
  have HL' := Lib.hid hs'.nat
  have HX := Lib.hid hx
  have HY := Lib.hid hy
  have HD := Lib.hid hl
  have HD' := Lib.hid hl'
  have HXY := Lib.hid hxy
  have hmn : m ≤ n := by
    have := hl'.length_le (by omega) hl.low (by omega)
    rw [HL.out, HL'.out] at this; exact this
  obtain ⟨B0, hB⟩ : ∃ B0, B0 = w.heap.size := ⟨_, rfl⟩
  have hb0 : Below B0 w w := Below.refl _ _
  have hB' : B0 ≤ w.heap.size := by omega
  have HB := Lib.hid hB
  clear hx hy hl hl' hB hxy
  go_enter Tryz.func76, Tryz.ntmps76
  go_wp2
  go_loopg [5, 6, 7] n (fun g v c i wr => ∃ k : Nat, g = n - k ∧ k ≤ n ∧ i = .int .i64 k ∧ Minus10 w B0 k la lb v c wr)
  case atStart => exact ⟨0, by omega, by omega, rfl, none, 0, 0, [], rfl, rfl, by omega, Own.nil _ _ _ _, Low.nil _, by simp [val], hb0, hB'⟩
  case round =>
    obtain ⟨k, hg, hk, rfl, oa, oc, cc, out, rfl, rfl, hcc, hown, hlow, hv, hbel, hBr⟩ := hrel
    have HG := Lib.hid hg
    have HV := Lib.hid hv
    have HW := Lib.hid hlow
    have HO : Hid (out.length = k) := by have := hown.1; rw [nats_len, Nat.mul_one] at this; exact this
    clear hg hv hlow
    by_cases hkn : k < n
    · obtain ⟨ad, p, rfl, h1, hp, _⟩ := (hs.below hbel (by rw [HB.out]; exact hs.lt)).getn hkn
      have hp9 : p < 1000000000 := HD.out.low.get hp.out
      by_cases hkm : k < m
      · obtain ⟨bd, q, rfl, h2, hq, _⟩ := (hs'.below hbel (by rw [HB.out]; exact hs'.lt)).getn hkm
        have hq9 : q < 1000000000 := HD'.out.low.get hq.out
        go_wp2_with (at_builtin; refine app1 81 108 (.int .u64 0) 1 8 Tryz.underlying81 infoU64 rfl (by decide) (by decide) rfl _ _ rfl B0 _ _ _ _ hown hbel hBr rfl rfl rfl (by simp [Value.oneCell']) (by omega) ?_)
        intro a' c' w1 hap hb1 hB1
        go_wp2
        go_roundg (n - (k + 1))
        case measure => have := HG.out; omega
        case rel => exact ⟨k + 1, rfl, by omega, by go_num, minus_rel hap.own HW.out HO.out HV.out hcc HD.out.low (t := p + 1000000000 - cc - q) (by rw [dg_some hp.out, dg_some hq.out]; omega) (by omega) (by congr 1; omega) hb1 hB1⟩
      · go_wp2_with (at_builtin; refine app1 81 108 (.int .u64 0) 1 8 Tryz.underlying81 infoU64 rfl (by decide) (by decide) rfl _ _ rfl B0 _ _ _ _ hown hbel hBr rfl rfl rfl (by simp [Value.oneCell']) (by omega) ?_)
        intro a' c' w1 hap hb1 hB1
        go_wp2
        go_roundg (n - (k + 1))
        case measure => have := HG.out; omega
        case rel => exact ⟨k + 1, rfl, by omega, by go_num, minus_rel hap.own HW.out HO.out HV.out hcc HD.out.low (t := p + 1000000000 - cc) (by rw [dg_some hp.out, dg_none (by rw [HL'.out]; omega)]; omega) (by omega) (by congr 1; omega) hb1 hB1⟩
    · have HF : Hid (val 1000000000 out = x - y) := by
        have h := HV.out
        rw [List.take_of_length_le (l := la) (by rw [HL.out]; omega), List.take_of_length_le (l := lb) (by rw [HL'.out]; omega), HX.out, HY.out] at h
        have h2 := val_lt (by omega) HW.out
        rw [HO.out] at h2
        have h3 := HXY.out
        show _ = _
        rcases (by omega : cc = 0 ∨ cc = 1) with rfl | rfl <;> omega
      have hsl := hown.sl
      go_wp2_with fail
      refine (trim10 1000000000 _ _ _ _ _ hsl HW.out).mono ?_
      rintro e w2 ⟨n', rfl, hnum, hn', hd⟩
      rw [HF.out] at hnum
      go_wp2
      go_ret
      exact ⟨_, n', oc, rfl, hnum, by omega, by rw [← HB.out]; exact Below.dr hbel hd, hown.fr HB.out⟩

theorem mul_fits {la lb : List Nat} {n m i k cc y ai : Nat} {out : List Nat} (hla : Low 1000000000 la) (_hn : la.length = n) (hai : la[i]? = some ai) (hlb : Low 1000000000 lb) (hm : lb.length = m) (hy : val 1000000000 lb = y) (hk : m ≤ k) (hc : 0 < cc)
    (hv : val 1000000000 out + 1000000000 ^ (i + k) * cc = val 1000000000 (la.take i) * y + 1000000000 ^ i * (ai * val 1000000000 (lb.take k))) : k ≤ m := by
  rw [List.take_of_length_le (l := lb) (by omega), hy] at hv
  have h1 : val 1000000000 (la.take i) * y + 1000000000 ^ i * (ai * y) = val 1000000000 (la.take (i + 1)) * y := by
    rw [val_take_succ hai, Nat.add_mul, Nat.mul_assoc]
  rw [h1] at hv
  have h2 := val_lt (by omega) (hla.take (i + 1))
  have h3 := val_lt (by omega) hlb
  rw [hm, hy] at h3
  have hi : i < la.length := (List.getElem?_eq_some_iff.1 hai).1
  rw [List.length_take, Nat.min_eq_left (by omega)] at h2
  by_cases h : k ≤ m
  · exact h
  · exfalso
    have h4 : 1000000000 ^ (i + k) * 1 ≤ 1000000000 ^ (i + k) * cc := Nat.mul_le_mul_left _ hc
    have h5 : 1000000000 ^ (i + 1 + m) ≤ 1000000000 ^ (i + k) := Nat.pow_le_pow_right (by omega) (by omega)
    have h6 : val 1000000000 (la.take (i + 1)) * y < 1000000000 ^ (i + 1 + m) := by
      rw [Nat.pow_add]
      exact Nat.mul_lt_mul_of_lt_of_le h2 (Nat.le_of_lt h3) (Nat.pow_pos (by omega))
    omega

theorem mul_lt {cc o p q : Nat} (ho : o < 1000000000) (hc : cc < 1000000000) (hp : p < 1000000000) (hq : q < 1000000000) : (cc + o + p * q) / 1000000000 < 1000000000 := by
  have := Nat.mul_le_mul (show p ≤ 999999999 by omega) (show q ≤ 999999999 by omega)
  omega

set_option maxHeartbeats 1600000 in
theorem mul10 (a b : Option Addr) (n m ca cb x y : Nat) (w : World) (ha : NumAt 1000000000 .u64 w a n ca x) (hb : NumAt 1000000000 .u64 w b m cb y) (hn : n ≤ 1000000000000) (hm : m ≤ 1000000000000) :
    Calls Tryz.prog 73 #[.slice a n ca, .slice b m cb] w (QNum 1000000000 .u64 (x * y) (n + m + 1) w) := by
  obtain ⟨la, hs, hl, hx⟩ := ha
  obtain ⟨lb, hs', hl', hy⟩ := hb
  have HL := Lib.hid hs.nat
  have HL' := Lib.hid hs'.nat
  have HX := Lib.hid hx
  have HY := Lib.hid hy
  have HD := Lib.hid hl
  have HD' := Lib.hid hl'
  obtain ⟨B0, hB⟩ : ∃ B0, B0 = w.heap.size := ⟨_, rfl⟩
  have hb0 : Below B0 w w := Below.refl _ _
  have hB' : B0 ≤ w.heap.size := by omega
  have HB := Lib.hid hB
  clear hx hy hl hl' hB
  go_enter Tryz.func73, Tryz.ntmps73
  go_wp2_with (at_make; refine wpList_mk rfl _ _ 81 rfl B0 108 (.int .u64 0) 1 8 Tryz.underlying81 infoU64 .i64 .i64 _ _ (n + m + 1) rfl rfl (by omega) (by omega) (by omega) (by unfold maxLen; omega) (by omega) ?_)
  intro od w1 hown hg hblk
  have hb1 : Below B0 w w1 := hb0.grown hg hB' (by intro k h; cases h)
  have hB1 : B0 ≤ w1.heap.size := by have := hg.size; omega
  have HM := Lib.hid (made_nat .u64 (n + m + 1))
  have hown0 : Own w1 B0 108 1 (some od) (n + m + 1) (n + m + 1) (nats .u64 (List.replicate (n + m + 1) 0)) := by
    rw [← HM.out]; exact hown
  clear hown hg hblk
  go_wp2
  go_loopg [6, 7, 8] n (fun g i _ _ wr => ∃ (k : Nat) (out : List Nat), g = n - k ∧ k ≤ n ∧ i = .int .i64 k ∧ Own wr B0 108 1 (some od) (n + m + 1) (n + m + 1) (nats .u64 out) ∧ Low 1000000000 out ∧ val 1000000000 out = val 1000000000 (la.take k) * y ∧ Below B0 w wr ∧ B0 ≤ wr.heap.size)
  case atStart => exact ⟨0, _, by omega, by omega, rfl, hown0, Low.zeros (by omega) _, by rw [val_zeros]; simp [val], hb1, hB1⟩
  case round =>
    obtain ⟨i, out, hg, hi, rfl, hown, hlow, hv, hbel, hBr⟩ := hrel
    have HG := Lib.hid hg
    have HV := Lib.hid hv
    have HW := Lib.hid hlow
    clear hg hv hlow hown0 hb1 hB1 HM
    by_cases hin : i < n
    · obtain ⟨ad, p, rfl, _, hp, _⟩ := hs.getn hin
      have hp9 : p < 1000000000 := HD.out.low.get hp.out
      go_wp2
      go_loopg [7, 8] (m + 2) (fun g c kk wr => ∃ (k cc : Nat) (out : List Nat), g = m + 2 - k ∧ k ≤ m + 1 ∧ kk = .int .i64 k ∧ c = .int .u64 (cc : Int) ∧ cc < 1000000000 ∧ Own wr B0 108 1 (some od) (n + m + 1) (n + m + 1) (nats .u64 out) ∧ Low 1000000000 out ∧ val 1000000000 out + 1000000000 ^ (i + k) * cc = val 1000000000 (la.take i) * y + 1000000000 ^ i * (p * val 1000000000 (lb.take k)) ∧ Below B0 w wr ∧ B0 ≤ wr.heap.size)
      case atStart => exact ⟨0, 0, out, by omega, by omega, rfl, rfl, by omega, hown, HW.out, by rw [HV.out]; simp [val], hbel, hBr⟩
      case round =>
        obtain ⟨k, cc, out, hg, hk, rfl, rfl, hcc, hown, hlow, hv, hbel, hBr⟩ := hrel
        have HGi := Lib.hid hg
        have HV := Lib.hid hv
        have HW := Lib.hid hlow
        have HO : Hid (out.length = n + m + 1) := by have := hown.1; rw [nats_len, Nat.mul_one] at this; exact this
        clear hg hv hlow
        have hsr := hs.below hbel (by rw [HB.out]; exact hs.lt)
        by_cases hkm : k < m
        · obtain ⟨od', o, had', h1, hf1, ho, hb2, hb3⟩ := hown.getn (i := i + k) (by omega)
          cases had'
          obtain ⟨ad', p', had', h2, hp', _⟩ := hsr.getn hin
          obtain rfl : p' = p := by have h := hp'.out; rw [hp.out] at h; simpa using h.symm
          cases had'
          obtain ⟨bd, q, rfl, h3, hq, _⟩ := (hs'.below hbel (by rw [HB.out]; exact hs'.lt)).getn hkm
          have ho9 : o < 1000000000 := HW.out.get ho.out
          have hq9 : q < 1000000000 := HD'.out.low.get hq.out
          have hpq : (p' : Int) * (q : Int) ≤ 999999998000000001 := by
            have := Nat.mul_le_mul (show p' ≤ 999999999 by omega) (show q ≤ 999999999 by omega)
            have h : ((p' * q : Nat) : Int) ≤ 999999998000000001 := by omega
            rwa [Int.natCast_mul] at h
          have hpq0 : 0 ≤ (p' : Int) * (q : Int) := Int.mul_nonneg (by omega) (by omega)
          go_wp2
          go_quiet (fail)
          go_wp2
          go_roundg (m + 2 - (k + 1))
          case measure => have := HGi.out; omega
          case rel => exact ⟨k + 1, (cc + o + p' * q) / 1000000000, out.set (i + k) ((cc + o + p' * q) % 1000000000), rfl, by omega, by go_num, by simp, mul_lt ho9 hcc hp9 hq9, by rw [← nats_set]; simpa using (hown.drewN nq).set (i + k) (.int .u64 (((cc : Int) + o + p' * q) % 1000000000)), HW.out.set _ (Nat.mod_lt _ (by omega)), by rw [val_take_succ hq.out]; exact mul_step ho.out HV.out, (Below.dr hbel ((Dr.refl _).drewN nq)).setCell (by rw [add_block]; exact hb2) _, by simp [World.setCell]; omega⟩
        · by_cases hc0 : cc = 0
          · subst hc0
            have HV2 : Hid (val 1000000000 out = val 1000000000 (la.take (i + 1)) * y) := by
              have h := HV.out
              rw [List.take_of_length_le (l := lb) (by rw [HL'.out]; omega), HY.out] at h
              rw [val_take_succ hp.out, Nat.add_mul, Nat.mul_assoc]
              exact h
            go_wp2
            go_roundg (n - (i + 1))
            case measure => have := HG.out; omega
            case rel => exact ⟨i + 1, out, rfl, by omega, by go_num, hown, HW.out, HV2.out, hbel, hBr⟩
          · have hc1 : 1 ≤ cc := by omega
            have hkm2 : k ≤ m := mul_fits HD.out.low HL.out hp.out HD'.out.low HL'.out HY.out (by omega) (by omega) HV.out
            clear hc0
            obtain ⟨od', o, had', h1, hf1, ho, hb2, hb3⟩ := hown.getn (i := i + k) (by omega)
            cases had'
            have ho9 : o < 1000000000 := HW.out.get ho.out
            go_wp2
            go_roundg (m + 2 - (k + 1))
            case measure => have := HGi.out; omega
            case rel => exact ⟨k + 1, (cc + o + p * 0) / 1000000000, out.set (i + k) ((cc + o + p * 0) % 1000000000), rfl, by omega, by go_num, by simp, by omega, by rw [← nats_set]; simpa using hown.set (i + k) (.int .u64 (((cc : Int) + o) % 1000000000)), HW.out.set _ (Nat.mod_lt _ (by omega)), by rw [val_take_dg, dg_none (by rw [HL'.out]; omega)]; exact mul_step ho.out HV.out, hbel.setCell (by rw [add_block]; exact hb2) _, by simp [World.setCell]; omega⟩
    · have HF : Hid (val 1000000000 out = x * y) := by
        rw [HV.out, List.take_of_length_le (l := la) (by rw [HL.out]; omega), HX.out]; rfl
      have hsl := hown.sl
      go_wp2_with fail
      refine (trim10 1000000000 _ _ _ _ _ hsl HW.out).mono ?_
      rintro e w2 ⟨n', rfl, hnum, hn', hd⟩
      rw [HF.out] at hnum
      go_wp2
      go_ret
      exact ⟨_, n', _, rfl, hnum, hn', by rw [← HB.out]; exact Below.dr hbel hd, hown.fr HB.out⟩
end Go.Proofs.YtajpdnphamomjaaGreat
