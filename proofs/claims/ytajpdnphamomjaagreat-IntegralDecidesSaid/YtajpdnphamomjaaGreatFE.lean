/- Package fraction: Floor, From. -/
import Derived.Test.YtajpdnphamomjaaGreatFD
namespace Go.Proofs.YtajpdnphamomjaaGreat
open Go.RowKit Go.Q Go.Q.Num

/-- the integer just below -/
def floorq (n d : Int) : Int := if IsFrac n d then n / d else 0

theorem tdiv_floor {n d : Int} (hd : 0 < d) (h : n.tmod d < 0) : n / d = n.tdiv d - 1 ∧ n % d = n.tmod d + d := by
  have h1 := Int.mul_tdiv_add_tmod n d
  have h2 : -d < n.tmod d := Int.lt_tmod_of_pos n hd
  have e : n = (n.tmod d + d) + (n.tdiv d - 1) * d := by rw [Int.sub_mul, Int.mul_comm]; omega
  constructor
  · conv => lhs; rw [e]
    rw [Int.add_mul_ediv_right _ _ (by omega), Int.ediv_eq_zero_of_lt (by omega) (by omega)]; omega
  · conv => lhs; rw [e]
    rw [Int.add_mul_emod_self_right, Int.emod_eq_of_lt (by omega) (by omega)]
theorem tdiv_floor' {n d : Int} (hd : 0 < d) (h : 0 ≤ n.tmod d) : n / d = n.tdiv d := by
  have h1 := Int.mul_tdiv_add_tmod n d
  have h2 : n.tmod d < d := Int.tmod_lt_of_pos n hd
  have e : n = n.tmod d + n.tdiv d * d := by rw [Int.mul_comm]; omega
  conv => lhs; rw [e]
  rw [Int.add_mul_ediv_right _ _ (by omega), Int.ediv_eq_zero_of_lt (by omega) (by omega)]; omega

set_option maxHeartbeats 800000 in
theorem floorF (n d : Int) (w : World) (hn1 : -9223372036854775808 ≤ n) (hn2 : n ≤ 9223372036854775807) (hd1 : -9223372036854775808 ≤ d) (hd2 : d ≤ 9223372036854775807) :
    Calls Tryz.prog 44 #[fracv n d] w (QIntB (floorq n d) w) := by
  unfold fracv
  by_cases hv : IsFrac n d
  · have HV : Hid (decide (IsFrac n d) = true) := by show _ = _; simpa using hv
    have HF : Hid (floorq n d = n / d) := by show _ = _; unfold floorq; rw [if_pos hv]
    obtain ⟨k1, k2, k3, k4, _⟩ := hv
    obtain ⟨t1, t2⟩ : -100000000000000000 ≤ n.tdiv d ∧ n.tdiv d ≤ 100000000000000000 := by
      have := Int.natAbs_tdiv_le_natAbs n d
      omega
    rcases (by omega : n.tmod d < 0 ∨ 0 ≤ n.tmod d) with ht | ht
    · replace HF := Lib.hid (HF.out.trans (tdiv_floor (by omega) ht).1)
      have hd0 : (d == 0) = false := by simp; omega
      go_enter Tryz.func44, Tryz.ntmps44
      go_wp2_with fail
      refine (validF n d _ hn1 hn2 hd1 hd2).mono ?_
      rintro e w1 ⟨rfl, hb1⟩
      rw [HV.out]
      obtain ⟨hc1, hf1⟩ := bcell hb1
      have c0 : w1.cell? ⟨w.heap.size, 0, none⟩ = some (.int .i64 n) := by rw [hc1 _ _ (by simp)]; go_keep
      have c1 : w1.cell? ⟨w.heap.size, 1, none⟩ = some (.int .i64 d) := by rw [hc1 _ _ (by simp)]; go_keep
      clear hc1 hf1
      go_wp2
      go_ret
      exact ⟨by rw [HF.out]; rfl, Below.next (Below.al (Below.refl _ _) _) hb1⟩
    · replace HF := Lib.hid (HF.out.trans (tdiv_floor' (by omega) ht))
      have hd0 : (d == 0) = false := by simp; omega
      go_enter Tryz.func44, Tryz.ntmps44
      go_wp2_with fail
      refine (validF n d _ hn1 hn2 hd1 hd2).mono ?_
      rintro e w1 ⟨rfl, hb1⟩
      rw [HV.out]
      obtain ⟨hc1, hf1⟩ := bcell hb1
      have c0 : w1.cell? ⟨w.heap.size, 0, none⟩ = some (.int .i64 n) := by rw [hc1 _ _ (by simp)]; go_keep
      have c1 : w1.cell? ⟨w.heap.size, 1, none⟩ = some (.int .i64 d) := by rw [hc1 _ _ (by simp)]; go_keep
      clear hc1 hf1
      go_wp2
      go_ret
      exact ⟨by rw [HF.out]; rfl, Below.next (Below.al (Below.refl _ _) _) hb1⟩
  · have HV : Hid (decide (IsFrac n d) = false) := by show _ = _; simpa using hv
    have HF : Hid (floorq n d = 0) := by show _ = _; unfold floorq; rw [if_neg hv]
    clear hv
    go_enter Tryz.func44, Tryz.ntmps44
    go_wp2_with fail
    refine (validF n d _ hn1 hn2 hd1 hd2).mono ?_
    rintro e w1 ⟨rfl, hb1⟩
    rw [HV.out]
    go_wp2
    go_ret
    exact ⟨by rw [HF.out]; rfl, Below.next (Below.al (Below.refl _ _) _) hb1⟩

/-- an Exact in memory: the fraction r in lowest terms, of at most L digits -/
def ExAt (L : Nat) (w : World) (v : Value) (r : Rat) : Prop :=
  ∃ (a : Option Addr) (n c : Nat) (b : Option Addr) (m d : Nat), v = .agg #[.bool (decide (r.num < 0)), .slice a n c, .slice b m d] ∧ NumAt 4294967296 .u32 w a n c r.num.natAbs ∧ NumAt 4294967296 .u32 w b m d r.den ∧ n ≤ L ∧ m ≤ L
theorem ExAt.kept {L : Nat} {w w' : World} {v : Value} {r : Rat} (h : ExAt L w v r) (hb : Below w.heap.size w w') : ExAt L w' v r := by
  obtain ⟨a, n, c, b, m, d, h1, h2, h3, h4, h5⟩ := h
  exact ⟨a, n, c, b, m, d, h1, h2.kept hb, h3.kept hb, h4, h5⟩
/-- a fraction is returned, in memory that was not there -/
def QEx (L : Nat) (r : Rat) (w : World) (e : Ending) (w' : World) : Prop :=
  ∃ (a : Option Addr) (n c : Nat) (b : Option Addr) (m d : Nat), e = .returned (.agg #[.bool (decide (r.num < 0)), .slice a n c, .slice b m d]) ∧ NumAt 4294967296 .u32 w' a n c r.num.natAbs ∧ NumAt 4294967296 .u32 w' b m d r.den ∧ n ≤ L ∧ m ≤ L ∧ Below w.heap.size w w' ∧ Fr w a ∧ Fr w b
theorem QEx.at {L : Nat} {r : Rat} {w : World} {e : Ending} {w' : World} (h : QEx L r w e w') : ∃ v, e = .returned v ∧ ExAt L w' v r ∧ Below w.heap.size w w' := by
  obtain ⟨a, n, c, b, m, d, h1, h2, h3, h4, h5, h6, _⟩ := h
  exact ⟨_, h1, ⟨a, n, c, b, m, d, rfl, h2, h3, h4, h5⟩, h6⟩
end Go.Proofs.YtajpdnphamomjaaGreat
