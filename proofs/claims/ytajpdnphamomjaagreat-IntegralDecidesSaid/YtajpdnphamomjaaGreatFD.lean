/- Package fraction: gcd, size, small, Valid, Floor. -/
import Derived.Test.YtajpdnphamomjaaGreatFC
namespace Go.Proofs.YtajpdnphamomjaaGreat
open Go.RowKit Go.Q Go.Q.Num

def QU64 (v : Nat) (w : World) (e : Ending) (w' : World) : Prop := e = .returned (.int .u64 (v : Int)) ∧ Dr w w'

set_option maxHeartbeats 400000 in
theorem sizeF (n : Int) (w : World) (h1 : -9223372036854775808 ≤ n) (h2 : n ≤ 9223372036854775807) :
    Calls Tryz.prog 96 #[.int .i64 n] w (QU64 n.natAbs w) := by
  by_cases hn : n < 0
  · obtain ⟨u, rfl⟩ : ∃ u : Nat, n = -(u : Int) := ⟨n.natAbs, by omega⟩
    have hu : u ≤ 9223372036854775808 := by omega
    have hw := wrapneg u hu
    have hu0 : (0 : Int) ≤ (u : Int) := by omega
    have hu1 : (u : Int) ≤ 9223372036854775808 := by omega
    have HU : Hid ((-(u : Int)).natAbs = u) := Lib.hid (by omega)
    rw [HU.out]
    go_enter Tryz.func96, Tryz.ntmps96
    go_wp2
    clear hw
    go_ret
    exact ⟨rfl, Dr.refl _⟩
  · obtain ⟨u, rfl⟩ : ∃ u : Nat, n = (u : Int) := ⟨n.natAbs, by omega⟩
    have HU : Hid ((u : Int).natAbs = u) := Lib.hid (by omega)
    rw [HU.out]
    go_enter Tryz.func96, Tryz.ntmps96
    go_wp2
    go_ret
    exact ⟨rfl, Dr.refl _⟩

set_option maxHeartbeats 400000 in
theorem gcdF (a b : Nat) (w : World) (ha : a < 18446744073709551616) (hb : b < 18446744073709551616) :
    Calls Tryz.prog 95 #[.int .u64 a, .int .u64 b] w (QU64 (Nat.gcd a b) w) := by
  go_enter Tryz.func95, Tryz.ntmps95
  go_wp2
  go_loopg [0, 1] b (fun g av bv wr => ∃ (x : Nat), av = .int .u64 (x : Int) ∧ bv = .int .u64 (g : Int) ∧ x < 18446744073709551616 ∧ g < 18446744073709551616 ∧ Hid (Nat.gcd x g = Nat.gcd a b) ∧ Dr w wr)
  case atStart => exact ⟨a, rfl, rfl, ha, hb, Lib.hid rfl, Dr.refl _⟩
  case round =>
    obtain ⟨x, rfl, rfl, hx, hg, HG, hd⟩ := hrel
    rcases Nat.eq_zero_or_pos gk with rfl | hpos
    · have HE : Hid (Nat.gcd a b = x) := by show _ = _; rw [← HG.out, Nat.gcd_zero_right]
      go_wp2
      go_ret
      exact ⟨by rw [HE.out]; rfl, hd⟩
    · have hne : ((gk : Int) == 0) = false := by simp; omega
      have hne2 : ((gk : Int) != 0) = true := by simp; omega
      have hne3 : (gk : Int) ≠ 0 := by omega
      have hlt : x % gk < gk := Nat.mod_lt _ hpos
      go_wp2
      go_quiet (fail)
      go_wp2
      go_roundg (x % gk)
      case measure => exact hlt
      case rel => exact ⟨gk, rfl, by simp, hg, by omega, by show _ = _; rw [Nat.gcd_comm, ← Nat.gcd_rec, Nat.gcd_comm]; exact HG.out, (by first | exact hd | exact (hd).drewN _ | exact ((hd).drewN _).drewN _ | exact (((hd).drewN _).drewN _).drewN _)⟩

/-- a fraction with numbers far from any limit -/
def Small (n d : Int) : Prop := -1073741824 < n ∧ n < 1073741824 ∧ d < 1073741824
instance (n d : Int) : Decidable (Small n d) := inferInstanceAs (Decidable (_ ∧ _))

set_option maxHeartbeats 400000 in
theorem smallF (n d : Int) (w : World) :
    Calls Tryz.prog 113 #[fracv n d] w (QBool (decide (Small n d)) w) := by
  unfold fracv
  by_cases g1 : -1073741824 < n
  · have g1' : decide (-1073741824 < n) = true := by simpa using g1
    by_cases g2 : n < 1073741824
    · have g2' : decide (n < 1073741824) = true := by simpa using g2
      have HV : Hid (decide (Small n d) = decide (d < 1073741824)) := by show _ = _; simp [Small, g1, g2]
      clear g1 g2
      go_enter Tryz.func113, Tryz.ntmps113
      go_wp2
      go_ret
      exact ⟨by rw [HV.out]; rfl, Below.al (Below.refl _ _) _⟩
    · have g2' : decide (n < 1073741824) = false := by simpa using g2
      have HV : Hid (decide (Small n d) = false) := by show _ = _; simp [Small, g2]
      clear g1 g2
      go_enter Tryz.func113, Tryz.ntmps113
      go_wp2
      go_ret
      exact ⟨by rw [HV.out]; rfl, Below.al (Below.refl _ _) _⟩
  · have g1' : decide (-1073741824 < n) = false := by simpa using g1
    have HV : Hid (decide (Small n d) = false) := by show _ = _; simp [Small, g1]
    clear g1
    go_enter Tryz.func113, Tryz.ntmps113
    go_wp2
    go_ret
    exact ⟨by rw [HV.out]; rfl, Below.al (Below.refl _ _) _⟩

set_option maxHeartbeats 1600000 in
theorem validF (n d : Int) (w : World) (hn1 : -9223372036854775808 ≤ n) (hn2 : n ≤ 9223372036854775807) (hd1 : -9223372036854775808 ≤ d) (hd2 : d ≤ 9223372036854775807) :
    Calls Tryz.prog 68 #[fracv n d] w (QBool (decide (IsFrac n d)) w) := by
  unfold fracv
  by_cases g1 : 1 ≤ d
  · by_cases g2 : d ≤ 100000000000000000
    · by_cases g3 : -100000000000000000 ≤ n
      · by_cases g4 : n ≤ 100000000000000000
        · have HV : Hid (decide (IsFrac n d) = ((Nat.gcd n.natAbs d.natAbs : Int) == 1)) := by
            show _ = _
            simp [IsFrac, g1, g2, g3, g4]
            by_cases h : Nat.gcd n.natAbs d.natAbs = 1
            · simp [h]
            · simp [h]; omega
          obtain ⟨k, rfl⟩ : ∃ k : Nat, d = (k : Int) := ⟨d.toNat, by omega⟩
          have hk1 : (k : Int) < 18446744073709551616 := by omega
          have hk0 : (0 : Int) ≤ (k : Int) := by omega
          have kw : IntKind.u64.wrap (k : Int) = (k : Int) := by rw [IntKind.wrap_u64]; omega
          go_enter Tryz.func68, Tryz.ntmps68
          go_wp2
          go_region_held3 (fun w' => w'.cell? ⟨w.heap.size, 0, none⟩ = some (.int .i64 n) ∧ w'.cell? ⟨w.heap.size, 1, none⟩ = some (.int .i64 (k : Int)))
            (first | (go_split_ands; exact ⟨by assumption, by assumption⟩) | (go_keep; done))
            ((first
              | (go_at_call 96; with_reducible refine (sizeF n _ (by omega) (by omega)).mono ?_
                 rintro e w1 ⟨rfl, ⟨q1, rfl⟩⟩)
              | (go_at_call 95; with_reducible refine (gcdF n.natAbs k _ (by omega) (by omega)).mono ?_
                 rintro e w2 ⟨rfl, ⟨q2, rfl⟩⟩)))
          all_goals go_wp2
          all_goals go_ret
          all_goals exact ⟨by rw [HV.out]; rfl, below_drewN (Below.al (Below.refl _ _) _) _⟩
        · have HV : Hid (decide (IsFrac n d) = false) := by show _ = _; simp [IsFrac, g4]
          have g1' : decide (1 ≤ d) = true := by simpa using g1
          have g2' : decide (d ≤ 100000000000000000) = true := by simpa using g2
          have g3' : decide (-100000000000000000 ≤ n) = true := by simpa using g3
          have g4' : decide (n ≤ 100000000000000000) = false := by simpa using g4
          clear g1 g2 g3 g4
          go_enter Tryz.func68, Tryz.ntmps68
          go_wp2
          go_quiet (fail)
          all_goals go_wp2
          go_ret
          exact ⟨by rw [HV.out]; rfl, below_drewN (Below.al (Below.refl _ _) _) _⟩
      · have HV : Hid (decide (IsFrac n d) = false) := by show _ = _; simp [IsFrac, g3]
        have g1' : decide (1 ≤ d) = true := by simpa using g1
        have g2' : decide (d ≤ 100000000000000000) = true := by simpa using g2
        have g3' : decide (-100000000000000000 ≤ n) = false := by simpa using g3
        clear g1 g2 g3
        go_enter Tryz.func68, Tryz.ntmps68
        go_wp2
        go_quiet (fail)
        all_goals go_wp2
        go_ret
        exact ⟨by rw [HV.out]; rfl, below_drewN (Below.al (Below.refl _ _) _) _⟩
    · have HV : Hid (decide (IsFrac n d) = false) := by show _ = _; simp [IsFrac, g2]
      have g1' : decide (1 ≤ d) = true := by simpa using g1
      have g2' : decide (d ≤ 100000000000000000) = false := by simpa using g2
      clear g1 g2
      go_enter Tryz.func68, Tryz.ntmps68
      go_wp2
      go_quiet (fail)
      all_goals go_wp2
      go_ret
      exact ⟨by rw [HV.out]; rfl, below_drewN (Below.al (Below.refl _ _) _) _⟩
  · have HV : Hid (decide (IsFrac n d) = false) := by show _ = _; simp [IsFrac, g1]
    have g1' : decide (1 ≤ d) = false := by simpa using g1
    clear g1
    go_enter Tryz.func68, Tryz.ntmps68
    go_wp2
    go_quiet (fail)
    all_goals go_wp2
    go_ret
    exact ⟨by rw [HV.out]; rfl, below_drewN (Below.al (Below.refl _ _) _) _⟩
end Go.Proofs.YtajpdnphamomjaaGreat
