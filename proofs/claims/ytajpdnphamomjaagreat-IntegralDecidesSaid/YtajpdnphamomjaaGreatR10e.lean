/- Numbers of any size of the reference of layer 10: gcd, number. -/
import Derived.Test.YtajpdnphamomjaaGreatR10d
namespace Go.Proofs.YtajpdnphamomjaaGreat
open Go.RowKit Go.Q Go.Q.Num

/-- a number is returned, new or one that was there -/
def QNumO (B : Nat) (k : IntKind) (v L : Nat) (w : World) (e : Ending) (w' : World) : Prop :=
  ∃ a n c, e = .returned (.slice a n c) ∧ NumAt B k w' a n c v ∧ n ≤ L ∧ Below w.heap.size w w'

theorem gcd_fits {B n m x y : Nat} (hB : 1 < B) (hx : x < B ^ n) (hy : y < B ^ m) : Nat.gcd x y < B ^ max n m := by
  have h1 : B ^ n ≤ B ^ max n m := Nat.pow_le_pow_right (by omega) (by omega)
  have h2 : B ^ m ≤ B ^ max n m := Nat.pow_le_pow_right (by omega) (by omega)
  rcases Nat.eq_zero_or_pos x with rfl | h
  · rw [Nat.gcd_zero_left]; omega
  · have := Nat.gcd_le_left y h; omega

set_option maxHeartbeats 800000 in
theorem gcd10 (a b : Option Addr) (n m ca cb x y : Nat) (w : World) (ha : NumAt 1000000000 .u64 w a n ca x) (hb : NumAt 1000000000 .u64 w b m cb y) (hn : n ≤ 1000000000) (hm : m ≤ 1000000000) :
    Calls Tryz.prog 70 #[.slice a n ca, .slice b m cb] w (QNumO 1000000000 .u64 (Nat.gcd x y) (max n m) w) := by
  obtain ⟨N, hN⟩ : ∃ N, N = max n m := ⟨_, rfl⟩
  have HN := Lib.hid hN
  have HX := Lib.hid (ha.lt (by omega))
  have HY := Lib.hid (hb.lt (by omega))
  have hnN : n ≤ N := by omega
  have hmN : m ≤ N := by omega
  have hN9 : N ≤ 1000000000 := by omega
  clear hN
  go_enter Tryz.func70, Tryz.ntmps70
  go_wp2
  go_loopg [0, 1] y (fun g av bv wr => ∃ (aa : Option Addr) (an ac : Nat) (ba : Option Addr) (bn bc u : Nat), av = .slice aa an ac ∧ bv = .slice ba bn bc ∧ NumAt 1000000000 .u64 wr aa an ac u ∧ NumAt 1000000000 .u64 wr ba bn bc g ∧ an ≤ N ∧ bn ≤ N ∧ Nat.gcd u g = Nat.gcd x y ∧ Below w.heap.size w wr)
  case atStart => exact ⟨a, n, ca, b, m, cb, x, rfl, rfl, ha, hb, hnN, hmN, rfl, Below.refl _ _⟩
  case round =>
    obtain ⟨aa, an, ac, ba, bn, bc, u, rfl, rfl, hu, hg, han, hbn, hgcd, hbel⟩ := hrel
    have HG := Lib.hid hgcd
    clear hgcd
    by_cases h0 : bn = 0
    · subst h0
      have HF : Hid (u = Nat.gcd x y) := by
        have h := hg.lt (by omega)
        have : gk = 0 := by omega
        rw [← HG.out, this, Nat.gcd_zero_right]; rfl
      go_wp2
      go_ret
      refine ⟨aa, an, ac, rfl, by rw [← HF.out]; exact hu, by rw [← HN.out]; exact han, hbel⟩
    · have hb1 : 1 ≤ bn := by omega
      have hpos : 0 < gk := by
        obtain ⟨l, h1, h2, h3⟩ := hg
        rcases Nat.eq_zero_or_pos gk with h | h
        · have := (h2.zero (by omega)).1 (by omega)
          have h4 := h1.nat
          rw [this] at h4; simp at h4; omega
        · exact h
      clear h0
      go_wp2_with fail
      refine (div10 _ _ _ _ _ _ _ _ _ hu hg (by omega) hpos).mono ?_
      rintro e w1 ⟨qa, ra, qn, qc, rn, rc, rfl, _, hr, hb2, _⟩
      have hrn : rn ≤ bn := hr.len_le (by omega) (Nat.lt_trans (Nat.mod_lt _ hpos) (hg.lt (by omega)))
      go_wp2
      go_roundg (u % gk)
      case measure => exact Nat.mod_lt _ hpos
      case rel => exact ⟨ba, bn, bc, ra, rn, rc, gk, rfl, rfl, hg.kept hb2, hr, hbn, by omega, by rw [← HG.out, Nat.gcd_comm gk, ← Nat.gcd_rec, Nat.gcd_comm], hbel.trans (hb2.mono hbel.size)⟩

theorem val_drop {B : Nat} {l : List Nat} {k x : Nat} (h : l[k]? = some x) : val B (l.drop k) = x + B * val B (l.drop (k + 1)) := by
  obtain ⟨h1, h2⟩ := List.getElem?_eq_some_iff.1 h
  rw [List.drop_eq_getElem_cons h1, val_cons, h2]
theorem val_drop_le {B : Nat} (hB : 0 < B) (l : List Nat) (k : Nat) : val B (l.drop k) ≤ val B l := by
  rcases Nat.lt_or_ge k l.length with h | h
  · rw [val_take_split B l k (by omega)]
    have : 1 * val B (l.drop k) ≤ B ^ k * val B (l.drop k) := Nat.mul_le_mul_right _ (Nat.pow_pos hB)
    omega
  · rw [List.drop_eq_nil_of_le h]; simp [val]

/-- a number that fits -/
def fitN (v : Nat) : Int := if v ≤ 100000000000000000 then v else 0
def QFitN (v : Nat) (w : World) (e : Ending) (w' : World) : Prop := e = .returned (.tuple #[.int .i64 (fitN v), .bool (decide (v ≤ 100000000000000000))]) ∧ Below w.heap.size w w'

set_option maxHeartbeats 800000 in
theorem number10 (a : Option Addr) (n ca x : Nat) (w : World) (ha : NumAt 1000000000 .u64 w a n ca x) :
    Calls Tryz.prog 115 #[.slice a n ca] w (QFitN x w) := by
  have HA := Lib.hid ha
  have hnle : n ≤ 9223372036854775807 := by obtain ⟨l, h1, _⟩ := ha; exact h1.le
  go_enter Tryz.func115, Tryz.ntmps115
  go_wp2_with fail
  refine (of10 _ _ (by omega) (by omega)).mono ?_
  rintro e w1 ⟨b, m, cb, rfl, hm, _, hb1, _⟩
  go_wp2_with fail
  refine (compare10 _ _ _ _ _ _ _ _ _ (HA.out.kept hb1) hm).mono ?_
  rintro e w2 ⟨rfl, hd2⟩
  have hbel : Below w.heap.size w w2 := Below.dr hb1 hd2
  by_cases hle : x ≤ 100000000000000000
  · have HLE := Lib.hid hle
    have hc0 : cmpn x (Int.natAbs 100000000000000000) ≤ 0 := cmpn_le hle
    obtain ⟨cv, hcv⟩ : ∃ cv, cv = cmpn x (Int.natAbs 100000000000000000) := ⟨_, rfl⟩
    rw [← hcv] at hc0 ⊢
    clear hcv hle
    obtain ⟨l, hs, hdg, hv⟩ := HA.out.kept hbel
    have HV := Lib.hid hv
    have HD := Lib.hid hdg
    have HL := Lib.hid hs.nat
    clear hv hdg
    go_wp2
    go_loopg [4, 5] n (fun g nv i wr => g ≤ n ∧ nv = .int .i64 (val 1000000000 (l.drop g) : Nat) ∧ i = .int .i64 ((g : Int) - 1) ∧ wr = w2)
    case atStart => exact ⟨Nat.le_refl _, by rw [List.drop_eq_nil_of_le (by rw [HL.out]; omega)]; rfl, rfl, rfl⟩
    case round =>
      obtain ⟨hg, rfl, rfl, rfl⟩ := hrel
      by_cases h0 : gk = 0
      · subst h0
        have HF : Hid (val 1000000000 (l.drop 0) = x) := HV.out
        have HQ : Hid (fitN x = (x : Int) ∧ decide (x ≤ 100000000000000000) = true) := ⟨by unfold fitN; rw [if_pos HLE.out], decide_eq_true HLE.out⟩
        go_wp2
        go_ret2
        refine ⟨?_, hbel⟩
        rw [HQ.out.1, HQ.out.2, ← HF.out]
        rfl
      · obtain ⟨i, rfl⟩ : ∃ i, gk = i + 1 := ⟨gk - 1, by omega⟩
        obtain ⟨ad, d, rfl, hcell, hd, _⟩ := hs.getn (i := i) (by omega)
        have hd9 : d < 1000000000 := HD.out.low.get hd.out
        obtain ⟨u, hu⟩ : ∃ u, u = val 1000000000 (l.drop (i + 1)) := ⟨_, rfl⟩
        have hsum : 1000000000 * u + d ≤ 100000000000000000 := by
          have h1 := val_drop_le (B := 1000000000) (by omega) l i
          rw [val_drop hd.out, HV.out, ← hu] at h1
          have := HLE.out
          omega
        have HU : Hid (val 1000000000 (l.drop i) = u * 1000000000 + d) := by show _ = _; rw [val_drop hd.out, ← hu]; omega
        rw [← hu]
        clear hu
        go_wp2
        go_roundg i
        case measure => omega
        case rel => exact ⟨by omega, by rw [HU.out]; simp, by go_num, rfl⟩
  · have hc0 : 0 < cmpn x (Int.natAbs 100000000000000000) := cmpn_gt (by show 100000000000000000 < x; omega)
    have HQ : Hid (fitN x = 0 ∧ decide (x ≤ 100000000000000000) = false) := ⟨by unfold fitN; rw [if_neg hle], decide_eq_false hle⟩
    obtain ⟨cv, hcv⟩ : ∃ cv, cv = cmpn x (Int.natAbs 100000000000000000) := ⟨_, rfl⟩
    rw [← hcv] at hc0 ⊢
    clear hcv hle
    go_wp2
    go_ret2
    exact ⟨by rw [HQ.out.1, HQ.out.2]; rfl, hbel⟩
end Go.Proofs.YtajpdnphamomjaaGreat
