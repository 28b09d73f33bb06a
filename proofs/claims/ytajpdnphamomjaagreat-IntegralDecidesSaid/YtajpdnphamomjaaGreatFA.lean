/- Package fraction: trim, natOf, cmp. -/
import Derived.Test.YtajpdnphamomjaaGreatR10k
namespace Go.Proofs.YtajpdnphamomjaaGreat
open Go.RowKit Go.Q Go.Q.Num

set_option maxHeartbeats 400000 in
theorem trimF (B : Nat) (a : Option Addr) (n c : Nat) (l : List Nat) (w : World) (hs : Sl w a n c 1 (nats .u32 l)) (hl : Low B l) :
    Calls Tryz.prog 117 #[.slice a n c] w (QTrim B .u32 a n c (val B l) w) := by
  have HL := Lib.hid hs.nat
  have HLow := Lib.hid hl
  have hcap := hs.cap
  have hmost := hs.most
  clear hl
  go_enter Tryz.func117, Tryz.ntmps117
  go_wp2
  go_loopw [0] (fun v wr => ∃ k : Nat, k ≤ n ∧ v = .slice a k c ∧ Hid (val B (l.take k) = val B l) ∧ Dr w wr) (fun v _ => match v with | .slice _ m _ => m | _ => 0)
  case atStart => exact ⟨n, Nat.le_refl _, rfl, by show _ = _; rw [List.take_of_length_le (by rw [HL.out]; omega)], Dr.refl _⟩
  case round =>
    obtain ⟨k, hk, rfl, hv, hd⟩ := hrel
    by_cases h0 : k = 0
    · subst h0
      go_wp2
      go_ret
      exact ⟨0, rfl, ⟨l.take 0, (hs.dr hd).taken (Nat.zero_le _), by simpa using Dig.nil B, hv.out⟩, by omega, hd⟩
    · obtain ⟨j, rfl⟩ : ∃ j, k = j + 1 := ⟨k - 1, by omega⟩
      obtain ⟨ad, x, rfl, h1, hx, _⟩ := (hs.dr hd).getn (i := j) (by omega)
      by_cases hx0 : x = 0
      · subst hx0
        go_wp2
        go_roundw
        case rel => exact ⟨j, by omega, rfl, by show _ = _; rw [← hv.out, trim_step hx.out], hd⟩
        case measure => simp
      · have hxe : ((x : Int) == 0) = false := by simp; omega
        have HX := Lib.hid hx0
        clear hx0
        go_wp2
        go_ret
        exact ⟨j + 1, rfl, ⟨l.take (j + 1), (hs.dr hd).taken (by omega), trim_done HLow.out hx.out HX.out, hv.out⟩, by omega, hd⟩


theorem nat_val (u : Nat) (hu : u < 18446744073709551616) : Low 4294967296 [u % 4294967296, u / 4294967296] ∧ val 4294967296 [u % 4294967296, u / 4294967296] = u := by
  refine ⟨?_, ?_⟩
  · intro d hd
    simp at hd
    rcases hd with rfl | rfl <;> omega
  · simp [val]; omega

theorem lit2F (w : World) (x y : Nat) : Sl (w.alloc (.cells #[.int .u32 (x : Int), .int .u32 (y : Int)] 146)) (some ⟨w.heap.size, 0, none⟩) 2 2 1 (nats .u32 [x, y]) :=
  Own.sl (Own.lit w 0 146 1 2 #[.int .u32 (x : Int), .int .u32 (y : Int)] (Nat.zero_le _) rfl (by decide))

set_option maxHeartbeats 400000 in
theorem natOfF (u : Nat) (w : World) (hu : u < 18446744073709551616) :
    Calls Tryz.prog 105 #[.int .u64 u] w (QNum 4294967296 .u32 u 2 w) := by
  have hu0 : (0 : Int) ≤ (u : Int) := by omega
  have hu1 : (u : Int) < 18446744073709551616 := by omega
  go_enter Tryz.func105, Tryz.ntmps105
  go_wp2_with fail
  refine (trimF 4294967296 _ 2 2 [u % 4294967296, u / 4294967296] _ (lit2F w _ _) (nat_val u hu).1).mono ?_
  rintro e w' ⟨n', rfl, hs, hn', hd⟩
  have HQ : Hid (QNum 4294967296 .u32 u 2 w (.returned (.slice (some ⟨w.heap.size, 0, none⟩) n' 2)) w') := by
    rw [(nat_val u hu).2] at hs
    exact ⟨_, n', 2, rfl, hs, hn', Below.dr ((Below.refl _ _).alloc (Nat.le_refl _) _) hd, fun ad h => by cases h; exact Nat.le_refl _⟩
  clear hs hd
  go_wp2
  go_ret
  exact HQ.out

/-- how two whole numbers compare -/
def cmpi (x y : Int) : Int := if x < y then -1 else if y < x then 1 else 0
theorem cmpi_nat (x y : Nat) : cmpi x y = cmpn x y := by unfold cmpi cmpn; simp

set_option maxHeartbeats 400000 in
theorem cmpInt (x y : Int) (w : World) : Calls Tryz.prog 120 #[.int .i64 x, .int .i64 y] w (QInt (cmpi x y) w) := by
  rcases Int.lt_trichotomy x y with h | h | h
  · have HC : Hid (cmpi x y = -1) := by show _ = _; unfold cmpi; rw [if_pos h]
    go_enter Tryz.func120, Tryz.ntmps120
    go_wp2
    go_ret
    exact ⟨by rw [HC.out]; rfl, Dr.refl _⟩
  · subst h
    have HC : Hid (cmpi x x = 0) := by show _ = _; unfold cmpi; rw [if_neg (by omega), if_neg (by omega)]
    go_enter Tryz.func120, Tryz.ntmps120
    go_wp2
    go_ret
    exact ⟨by rw [HC.out]; rfl, Dr.refl _⟩
  · have HC : Hid (cmpi x y = 1) := by show _ = _; unfold cmpi; rw [if_neg (by omega), if_pos h]
    go_enter Tryz.func120, Tryz.ntmps120
    go_wp2
    go_ret
    exact ⟨by rw [HC.out]; rfl, Dr.refl _⟩

set_option maxHeartbeats 400000 in
theorem cmpU32 (x y : Int) (w : World) : Calls Tryz.prog 121 #[.int .u32 x, .int .u32 y] w (QInt (cmpi x y) w) := by
  rcases Int.lt_trichotomy x y with h | h | h
  · have HC : Hid (cmpi x y = -1) := by show _ = _; unfold cmpi; rw [if_pos h]
    go_enter Tryz.func121, Tryz.ntmps121
    go_wp2
    go_ret
    exact ⟨by rw [HC.out]; rfl, Dr.refl _⟩
  · subst h
    have HC : Hid (cmpi x x = 0) := by show _ = _; unfold cmpi; rw [if_neg (by omega), if_neg (by omega)]
    go_enter Tryz.func121, Tryz.ntmps121
    go_wp2
    go_ret
    exact ⟨by rw [HC.out]; rfl, Dr.refl _⟩
  · have HC : Hid (cmpi x y = 1) := by show _ = _; unfold cmpi; rw [if_neg (by omega), if_pos h]
    go_enter Tryz.func121, Tryz.ntmps121
    go_wp2
    go_ret
    exact ⟨by rw [HC.out]; rfl, Dr.refl _⟩

set_option maxHeartbeats 400000 in
theorem cmpI64 (x y : Int) (w : World) : Calls Tryz.prog 114 #[.int .i64 x, .int .i64 y] w (QInt (cmpi x y) w) := by
  rcases Int.lt_trichotomy x y with h | h | h
  · have HC : Hid (cmpi x y = -1) := by show _ = _; unfold cmpi; rw [if_pos h]
    go_enter Tryz.func114, Tryz.ntmps114
    go_wp2
    go_ret
    exact ⟨by rw [HC.out]; rfl, Dr.refl _⟩
  · subst h
    have HC : Hid (cmpi x x = 0) := by show _ = _; unfold cmpi; rw [if_neg (by omega), if_neg (by omega)]
    go_enter Tryz.func114, Tryz.ntmps114
    go_wp2
    go_ret
    exact ⟨by rw [HC.out]; rfl, Dr.refl _⟩
  · have HC : Hid (cmpi x y = 1) := by show _ = _; unfold cmpi; rw [if_neg (by omega), if_pos h]
    go_enter Tryz.func114, Tryz.ntmps114
    go_wp2
    go_ret
    exact ⟨by rw [HC.out]; rfl, Dr.refl _⟩
end Go.Proofs.YtajpdnphamomjaaGreat
