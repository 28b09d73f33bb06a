/- Numbers of any size of the reference of layer 10: trim, of, compare. -/
import Derived.Test.YtajpdnphamomjaaGreatLib
import Derived.Test.YtajpdnphamomjaaGreatNum
import Derived.Test.YtajpdnphamomjaaGreatProg
namespace Go.Proofs.YtajpdnphamomjaaGreat
open Go.RowKit Go.Q Go.Q.Num

/-- a number of any size, in memory -/
def NumAt (B : Nat) (k : IntKind) (w : World) (a : Option Addr) (n c : Nat) (v : Nat) : Prop :=
  ∃ l, Sl w a n c 1 (nats k l) ∧ Dig B l ∧ val B l = v

theorem NumAt.kept {B : Nat} {k : IntKind} {w w' : World} {a : Option Addr} {n c v : Nat} (h : NumAt B k w a n c v) (hb : Below w.heap.size w w') : NumAt B k w' a n c v := by
  obtain ⟨l, h1, h2, h3⟩ := h
  exact ⟨l, h1.kept hb, h2, h3⟩
theorem NumAt.grown {B : Nat} {k : IntKind} {w w' : World} {a : Option Addr} {n c v : Nat} {row : Option Nat} (h : NumAt B k w a n c v) (hg : w.grownBy w' row) (hne : ∀ ad, a = some ad → v ≠ 0 → ad.block < w.heap.size → some ad.block ≠ row) : NumAt B k w' a n c v := by
  obtain ⟨l, h1, h2, h3⟩ := h
  refine ⟨l, h1.grown hg (fun ad ha hx => hne ad ha ?_ (h1.lt ad ha hx)), h2, h3⟩
  rintro rfl
  have hB : 0 < B ∨ l = [] := by
    rcases l with _ | ⟨d, l⟩
    · exact .inr rfl
    · exact .inl (by have := h2.low d (by simp); omega)
  rcases hB with hB | hB
  · exact hx (by rw [(h2.zero hB).1 h3]; rfl)
  · exact hx (by rw [hB]; rfl)
theorem NumAt.dr {B : Nat} {k : IntKind} {w w' : World} {a : Option Addr} {n c v : Nat} (h : NumAt B k w a n c v) (hb : Dr w w') : NumAt B k w' a n c v := h.kept hb.below

/-- a number is returned -/
def QNum (B : Nat) (k : IntKind) (v L : Nat) (w : World) (e : Ending) (w' : World) : Prop :=
  ∃ a n c, e = .returned (.slice a n c) ∧ NumAt B k w' a n c v ∧ n ≤ L ∧ Below w.heap.size w w' ∧ Fr w a

def QTrim (B : Nat) (k : IntKind) (a : Option Addr) (n c v : Nat) (w : World) (e : Ending) (w' : World) : Prop :=
  ∃ n', e = .returned (.slice a n' c) ∧ NumAt B k w' a n' c v ∧ n' ≤ n ∧ Dr w w'

set_option maxHeartbeats 400000 in
theorem trim10 (B : Nat) (a : Option Addr) (n c : Nat) (l : List Nat) (w : World) (hs : Sl w a n c 1 (nats .u64 l)) (hl : Low B l) :
    Calls Tryz.prog 98 #[.slice a n c] w (QTrim B .u64 a n c (val B l) w) := by
  have HL := Lib.hid hs.nat
  have HLow := Lib.hid hl
  have hcap := hs.cap
  have hmost := hs.most
  clear hl
  go_enter Tryz.func98, Tryz.ntmps98
  go_wp2
  go_loopw [0] (fun v wr => ∃ k : Nat, k ≤ n ∧ v = .slice a k c ∧ Hid (val B (l.take k) = val B l) ∧ Dr w wr) (fun v _ => match v with | .slice _ m _ => m | _ => 0)
  case atStart => exact ⟨n, Nat.le_refl _, rfl, by show _ = _; rw [List.take_of_length_le (by rw [HL.out]; omega)], Dr.refl _⟩
  case round =>
    obtain ⟨k, hk, rfl, hv, hd⟩ := hrel
    by_cases h0 : k = 0
    · subst h0
      go_wp2
      go_ret
      exact ⟨0, rfl, ⟨l.take 0, (hs.dr hd).taken (Nat.zero_le _), by simpa using Dig.nil B, hv.out⟩, by omega, hd⟩
    · obtain ⟨j, rfl⟩ : ∃ j, k = j + 1 := ⟨k - 1, by omega⟩
      obtain ⟨ad, x, rfl, h1, hx, _⟩ := (hs.dr hd).getn (i := j) (by omega)
      by_cases hx0 : x = 0
      · subst hx0
        go_wp2
        go_roundw
        case rel => exact ⟨j, by omega, rfl, by show _ = _; rw [← hv.out, trim_step hx.out], hd⟩
        case measure => simp
      · have hxe : ((x : Int) == 0) = false := by simp; omega
        have HX := Lib.hid hx0
        clear hx0
        go_wp2
        go_ret
        exact ⟨j + 1, rfl, ⟨l.take (j + 1), (hs.dr hd).taken (by omega), trim_done HLow.out hx.out HX.out, hv.out⟩, by omega, hd⟩

theorem of_val (u : Nat) (hu : u < 18446744073709551616) : Low 1000000000 [u % 1000000000, u / 1000000000 % 1000000000, u / 1000000000 / 1000000000] ∧ val 1000000000 [u % 1000000000, u / 1000000000 % 1000000000, u / 1000000000 / 1000000000] = u := by
  refine ⟨?_, ?_⟩
  · intro d hd
    simp at hd
    rcases hd with rfl | rfl | rfl <;> omega
  · simp [val]; omega

theorem wrapneg (u : Nat) (h : u ≤ 9223372036854775808) : IntKind.u64.wrap (-IntKind.u64.wrap (-(u : Int))) = (u : Int) := by
  rw [IntKind.wrap_u64, IntKind.wrap_u64]; omega

theorem lit3 (w : World) (x y z : Nat) : Sl (w.alloc (.cells #[.int .u64 (x : Int), .int .u64 (y : Int), .int .u64 (z : Int)] 108)) (some ⟨w.heap.size, 0, none⟩) 3 3 1 (nats .u64 [x, y, z]) :=
  Own.sl (Own.lit w 0 108 1 3 #[.int .u64 (x : Int), .int .u64 (y : Int), .int .u64 (z : Int)] (Nat.zero_le _) rfl (by decide))

set_option maxHeartbeats 400000 in
theorem of10 (n : Int) (w : World) (h1 : -9223372036854775808 ≤ n) (h2 : n ≤ 9223372036854775807) :
    Calls Tryz.prog 71 #[.int .i64 n] w (QNum 1000000000 .u64 n.natAbs 3 w) := by
  have hfin : ∀ (u : Nat) (e : Ending) (w' : World), u < 18446744073709551616 → QTrim 1000000000 .u64 (some ⟨w.heap.size, 0, none⟩) 3 3 (val 1000000000 [u % 1000000000, u / 1000000000 % 1000000000, u / 1000000000 / 1000000000]) (w.alloc (.cells #[.int .u64 ((u % 1000000000 : Nat) : Int), .int .u64 ((u / 1000000000 % 1000000000 : Nat) : Int), .int .u64 ((u / 1000000000 / 1000000000 : Nat) : Int)] 108)) e w' → QNum 1000000000 .u64 u 3 w e w' := by
    rintro u e w' hu ⟨n', rfl, hs, hn, hd⟩
    rw [(of_val u hu).2] at hs
    exact ⟨_, n', 3, rfl, hs, hn, Below.dr ((Below.refl _ _).alloc (Nat.le_refl _) _) hd, fun ad h => by cases h; exact Nat.le_refl _⟩
  have HF := Lib.hid hfin
  clear hfin
  by_cases hn : n < 0
  · obtain ⟨u, rfl⟩ : ∃ u : Nat, n = -(u : Int) := ⟨n.natAbs, by omega⟩
    have hu : u ≤ 9223372036854775808 := by omega
    have hw := wrapneg u hu
    have hu0 : (0 : Int) ≤ (u : Int) := by omega
    have hu1 : (u : Int) ≤ 9223372036854775808 := by omega
    have HU : Hid ((-(u : Int)).natAbs = u) := Lib.hid (by omega)
    rw [HU.out]
    go_enter Tryz.func71, Tryz.ntmps71
    go_wp2_with fail
    refine (trim10 1000000000 _ 3 3 [u % 1000000000, u / 1000000000 % 1000000000, u / 1000000000 / 1000000000] _ (lit3 w _ _ _) (of_val u (by omega)).1).mono ?_
    intro e w' hq
    obtain ⟨n', rfl, hs, hn', hd⟩ := hq
    have HQ := Lib.hid (HF.out u _ _ (by omega) ⟨n', rfl, hs, hn', hd⟩)
    clear hw
    go_wp2
    go_ret
    exact HQ.out
  · obtain ⟨u, rfl⟩ : ∃ u : Nat, n = (u : Int) := ⟨n.natAbs, by omega⟩
    have HU : Hid ((u : Int).natAbs = u) := Lib.hid (by omega)
    rw [HU.out]
    go_enter Tryz.func71, Tryz.ntmps71
    go_wp2_with fail
    refine (trim10 1000000000 _ 3 3 [u % 1000000000, u / 1000000000 % 1000000000, u / 1000000000 / 1000000000] _ (lit3 w _ _ _) (of_val u (by omega)).1).mono ?_
    intro e w' hq
    obtain ⟨n', rfl, hs, hn', hd⟩ := hq
    have HQ := Lib.hid (HF.out u _ _ (by omega) ⟨n', rfl, hs, hn', hd⟩)
    go_wp2
    go_ret
    exact HQ.out

/-- how two numbers compare -/
def cmpn (x y : Nat) : Int := if x < y then -1 else if y < x then 1 else 0
def QInt (v : Int) (w : World) (e : Ending) (w' : World) : Prop := e = .returned (.int .i64 v) ∧ Dr w w'

set_option maxHeartbeats 400000 in
theorem compare10 (a b : Option Addr) (n m ca cb x y : Nat) (w : World) (ha : NumAt 1000000000 .u64 w a n ca x) (hb : NumAt 1000000000 .u64 w b m cb y) :
    Calls Tryz.prog 69 #[.slice a n ca, .slice b m cb] w (QInt (cmpn x y) w) := by
  obtain ⟨l, hs, hl, hx⟩ := ha
  obtain ⟨l', hs', hl', hy⟩ := hb
  have HL := Lib.hid hs.nat
  have HL' := Lib.hid hs'.nat
  have HX := Lib.hid hx
  have HY := Lib.hid hy
  have HD := Lib.hid hl
  have HD' := Lib.hid hl'
  have hn := hs.le
  have hm := hs'.le
  clear hx hy hl hl'
  rcases Nat.lt_trichotomy n m with hnm | hnm | hnm
  · have hne : ((n : Int) != (m : Int)) = true := by simp; omega
    have HC : Hid (cmpn x y = -1) := by
      have := HD.out.length_lt (by omega) HD'.out (by rw [HL.out, HL'.out]; exact hnm)
      rw [HX.out, HY.out] at this
      show _ = _; unfold cmpn; rw [if_pos this]
    go_enter Tryz.func69, Tryz.ntmps69
    go_wp2
    go_ret
    exact ⟨by rw [HC.out]; rfl, Dr.refl _⟩
  · subst hnm
    go_enter Tryz.func69, Tryz.ntmps69
    go_wp2
    go_loopw [5] (fun i wr => ∃ k : Nat, k ≤ n ∧ i = .int .i64 ((k : Int) - 1) ∧ Hid (l.drop k = l'.drop k) ∧ Dr w wr) (fun i _ => (intOf i + 1).toNat)
    case atStart => exact ⟨n, Nat.le_refl _, rfl, by show _ = _; rw [List.drop_eq_nil_of_le (by rw [HL.out]; omega), List.drop_eq_nil_of_le (by rw [HL'.out]; omega)], Dr.refl _⟩
    case round =>
      obtain ⟨k, hk, rfl, hv, hd⟩ := hrel
      by_cases h0 : k = 0
      · subst h0
        have HC : Hid (cmpn x y = 0) := by
          have h := hv.out
          simp only [List.drop_zero] at h
          have : x = y := by rw [← HX.out, ← HY.out, h]
          show _ = _; unfold cmpn; rw [if_neg (by omega), if_neg (by omega)]
        go_wp2
        go_ret
        exact ⟨by rw [HC.out]; rfl, hd⟩
      · obtain ⟨j, rfl⟩ : ∃ j, k = j + 1 := ⟨k - 1, by omega⟩
        obtain ⟨ad, p, rfl, h1, hp, _⟩ := (hs.dr hd).getn (i := j) (by omega)
        obtain ⟨bd, q, rfl, h2, hq, _⟩ := (hs'.dr hd).getn (i := j) (by omega)
        rcases Nat.lt_trichotomy p q with hpq | hpq | hpq
        · have HC : Hid (cmpn x y = -1) := by
            have := cmp_at (by omega) HD.out.low HD'.out.low hp.out hq.out hv.out hpq
            rw [HX.out, HY.out] at this
            show _ = _; unfold cmpn; rw [if_pos this]
          go_wp2
          go_quiet (fail)
          go_wp2
          go_ret
          exact ⟨by rw [HC.out]; rfl, hd.drewN _⟩
        · subst hpq
          go_wp2
          go_quiet (fail)
          go_wp2
          go_quiet (fail)
          go_wp2
          go_roundw
          case rel => exact ⟨j, by omega, by go_num, drop_eq_succ hp.out hq.out hv.out, (by first | exact hd | exact (hd).drewN _ | exact ((hd).drewN _).drewN _ | exact (((hd).drewN _).drewN _).drewN _)⟩
          case measure => (first | (simp [intOf]; done) | (simp [intOf]; omega))
        · have HC : Hid (cmpn x y = 1) := by
            have := cmp_at (by omega) HD'.out.low HD.out.low hq.out hp.out hv.out.symm hpq
            rw [HX.out, HY.out] at this
            show _ = _; unfold cmpn; rw [if_neg (by omega), if_pos this]
          go_wp2
          go_quiet (fail)
          go_wp2
          go_quiet (fail)
          go_wp2
          go_ret
          exact ⟨by rw [HC.out]; rfl, (by first | exact hd | exact (hd).drewN _ | exact ((hd).drewN _).drewN _ | exact (((hd).drewN _).drewN _).drewN _)⟩
  · have hne : ((n : Int) != (m : Int)) = true := by simp; omega
    have HC : Hid (cmpn x y = 1) := by
      have := HD'.out.length_lt (by omega) HD.out (by rw [HL.out, HL'.out]; exact hnm)
      rw [HX.out, HY.out] at this
      show _ = _; unfold cmpn; rw [if_neg (by omega), if_pos this]
    go_enter Tryz.func69, Tryz.ntmps69
    go_wp2
    go_ret
    exact ⟨by rw [HC.out]; rfl, Dr.refl _⟩
end Go.Proofs.YtajpdnphamomjaaGreat
