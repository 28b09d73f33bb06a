/- The reference of layer 10: fractions of any size (Big). -/
import Derived.Test.YtajpdnphamomjaaGreatR10e
namespace Go.Proofs.YtajpdnphamomjaaGreat
open Go.RowKit Go.Q Go.Q.Num

/-- a whole number out of a sign and a size -/
def sg (s : Bool) (p : Nat) : Int := if s then -(p : Int) else p

/-- a Big in memory: the fraction r in lowest terms, of at most L digits -/
def BigAt (L : Nat) (w : World) (v : Value) (r : Rat) : Prop :=
  ∃ (a : Option Addr) (n c : Nat) (b : Option Addr) (m d : Nat), v = .agg #[.bool (decide (r.num < 0)), .slice a n c, .slice b m d] ∧ NumAt 1000000000 .u64 w a n c r.num.natAbs ∧ NumAt 1000000000 .u64 w b m d r.den ∧ n ≤ L ∧ m ≤ L
theorem BigAt.kept {L : Nat} {w w' : World} {v : Value} {r : Rat} (h : BigAt L w v r) (hb : Below w.heap.size w w') : BigAt L w' v r := by
  obtain ⟨a, n, c, b, m, d, h1, h2, h3, h4, h5⟩ := h
  exact ⟨a, n, c, b, m, d, h1, h2.kept hb, h3.kept hb, h4, h5⟩

/-- a fraction is returned, in memory that was not there -/
def QBig (L : Nat) (r : Rat) (w : World) (e : Ending) (w' : World) : Prop :=
  ∃ (a : Option Addr) (n c : Nat) (b : Option Addr) (m d : Nat), e = .returned (.agg #[.bool (decide (r.num < 0)), .slice a n c, .slice b m d]) ∧ NumAt 1000000000 .u64 w' a n c r.num.natAbs ∧ NumAt 1000000000 .u64 w' b m d r.den ∧ n ≤ L ∧ m ≤ L ∧ Below w.heap.size w w' ∧ Fr w a ∧ Fr w b
/-- a fraction is returned -/
def QBigO (L : Nat) (r : Rat) (w : World) (e : Ending) (w' : World) : Prop := ∃ v, e = .returned v ∧ BigAt L w' v r ∧ Below w.heap.size w w'
theorem QBig.o {L : Nat} {r : Rat} {w : World} {e : Ending} {w' : World} (h : QBig L r w e w') : QBigO L r w e w' := by
  obtain ⟨a, n, c, b, m, d, h1, h2, h3, h4, h5, h6, _⟩ := h
  exact ⟨_, h1, ⟨a, n, c, b, m, d, rfl, h2, h3, h4, h5⟩, h6⟩

theorem norm_num (s : Bool) (p q : Nat) (hq : q ≠ 0) (hp : p ≠ 0) : (Rat.normalize (sg s p) q hq).num.natAbs = p / Nat.gcd p q ∧ (Rat.normalize (sg s p) q hq).den = q / Nat.gcd p q ∧ decide ((Rat.normalize (sg s p) q hq).num < 0) = s := by
  rw [Rat.normalize_eq]
  have e : (sg s p).natAbs = p := by unfold sg; split <;> omega
  simp only [e]
  have hg : 0 < Nat.gcd p q := Nat.gcd_pos_of_pos_left _ (by omega)
  have hd : 0 < p / Nat.gcd p q := Nat.div_pos (Nat.gcd_le_left q (by omega)) hg
  have key : ((p : Int) / (Nat.gcd p q : Int)) = ((p / Nat.gcd p q : Nat) : Int) := rfl
  refine ⟨?_, trivial, ?_⟩
  · unfold sg
    split
    · rw [Int.neg_ediv_of_dvd (Int.natCast_dvd_natCast.2 (Nat.gcd_dvd_left p q)), key]; omega
    · rw [key]; omega
  · unfold sg
    cases s
    · simp only [Bool.false_eq_true, if_false]
      rw [key]; simp only [decide_eq_false_iff_not]; omega
    · simp only [if_true]
      rw [Int.neg_ediv_of_dvd (Int.natCast_dvd_natCast.2 (Nat.gcd_dvd_left p q)), key]; simp; omega

theorem oneAt (w : World) (B : Nat) (h : w.heap.size = B) : NumAt 1000000000 .u64 (w.alloc (.cells #[.int .u64 1] 108)) (some ⟨B, 0, none⟩) 1 1 1 := by
  subst h; exact one10 w

set_option maxHeartbeats 800000 in
theorem lowest10 (s : Bool) (a b : Option Addr) (n m ca cb p q L : Nat) (w : World) (ha : NumAt 1000000000 .u64 w a n ca p) (hb : NumAt 1000000000 .u64 w b m cb q) (hn : n ≤ L) (hm : m ≤ L) (hL0 : 1 ≤ L) (hL : L ≤ 1000000000) (hq : q ≠ 0) :
    Calls Tryz.prog 74 #[.agg #[.bool s, .slice a n ca, .slice b m cb]] w (QBig L (Rat.normalize (sg s p) q hq) w) := by
  have HA := Lib.hid ha
  have HB := Lib.hid hb
  by_cases h0 : n = 0
  · subst h0
    have hp : p = 0 := by have := ha.lt (by omega); omega
    subst hp
    have e : Rat.normalize (sg s 0) q hq = 0 := by
      have : sg s 0 = 0 := by unfold sg; split <;> rfl
      rw [this]; exact Rat.normalize_zero hq
    rw [e]
    go_enter Tryz.func74, Tryz.ntmps74
    go_wp2
    refine bodyPost_ret (v := .agg #[.bool false, .slice none 0 0, .slice (some ⟨w.heap.size + 1 + 1, 0, none⟩) 1 1]) (by simp [results, Tryz.results74, go_sem]) rfl ⟨none, 0, 0, _, 1, 1, rfl, NumAt.zero _ _ _, ?_, by omega, hL0, ?_, Fr.none _, fun ad h => by cases h; simp; omega⟩
    · exact oneAt ((w.alloc _).alloc _) _ (by simp)
    · exact ((Below.refl _ _).alloc (Nat.le_refl _) _ |>.alloc (by simp) _).alloc (by simp; omega) _
  · have hp : p ≠ 0 := by
      rintro rfl
      obtain ⟨l, h1, h2, h3⟩ := ha
      have e := (h2.zero (by omega)).1 h3
      have h4 := h1.nat
      rw [e] at h4; simp at h4; omega
    have HR := Lib.hid (norm_num s p q hq hp)
    have HN := Lib.hid (ha.lt (by omega))
    have HM := Lib.hid (hb.lt (by omega))
    have HP := Lib.hid hp
    have hn1 : 1 ≤ n := by omega
    have hgp : 0 < Nat.gcd p q := Nat.gcd_pos_of_pos_left _ (by omega)
    have HG := Lib.hid hgp
    clear hp ha hb h0 hgp
    go_enter Tryz.func74, Tryz.ntmps74
    go_wp2_with fail
    have hal : Below w.heap.size w ((w.alloc (.cells #[.bool s, .slice a n ca, .slice b m cb] 83)).alloc (.cells #[.bool false, .slice none 0 0, .slice none 0 0] 83)) := ((Below.refl _ _).alloc (Nat.le_refl _) _).alloc (by simp) _
    refine (gcd10 _ _ _ _ _ _ _ _ _ (HA.out.kept hal) (HB.out.kept hal) (by omega) (by omega)).mono ?_
    rintro e w1 ⟨g, gn, gc, rfl, hg, hgn, hb1⟩
    have hbel1 : Below w.heap.size w w1 := hal.trans (hb1.mono hal.size)
    obtain ⟨hc1, hf1⟩ := bcell hb1
    obtain ⟨hz1, hy1⟩ : w.heap.size < w1.heap.size ∧ w.heap.size + 1 < w1.heap.size := by have := hb1.size; simp at this; omega
    go_wp2_with fail
    refine (div10 _ _ _ _ _ _ _ _ _ (HA.out.kept hbel1) hg (by omega) HG.out).mono ?_
    rintro e w2 ⟨xa, ra, xn, xc, rn, rc, rfl, hx, _, hb2, hfx⟩
    have hbel2 : Below w.heap.size w w2 := hbel1.trans (hb2.mono hbel1.size)
    obtain ⟨hc2, hf2⟩ := bcell hb2
    obtain ⟨hz2, hy2⟩ : w.heap.size < w2.heap.size ∧ w.heap.size + 1 < w2.heap.size := by have := hb2.size; omega
    go_wp2_with fail
    refine (div10 _ _ _ _ _ _ _ _ _ (HB.out.kept hbel2) (hg.kept hb2) (by omega) HG.out).mono ?_
    rintro e w3 ⟨ya, sa, yn, yc, sn, sc, rfl, hy, _, hb3, hfy⟩
    have hbel3 : Below w.heap.size w w3 := hbel2.trans (hb3.mono hbel2.size)
    obtain ⟨hc3, hf3⟩ := bcell hb3
    obtain ⟨hz3, hy3⟩ : w.heap.size < w3.heap.size ∧ w.heap.size + 1 < w3.heap.size := by have := hb3.size; omega
    have hx3 := hx.kept hb3
    have hxn : xn ≤ n := hx.len_le (by omega) (Nat.lt_of_le_of_lt (Nat.div_le_self _ _) HN.out)
    have hyn : yn ≤ m := hy.len_le (by omega) (Nat.lt_of_le_of_lt (Nat.div_le_self _ _) HM.out)
    go_wp2
    have hg3 := grown_set3 w3 (w.heap.size + 1) 0 1 2 (.bool s) (.slice xa xn xc) (.slice ya yn yc)
    refine bodyPost_ret (v := .agg #[.bool s, .slice xa xn xc, .slice ya yn yc]) (by simp [results, Tryz.results74, go_sem, hc3, hc2, hc1, hy2, hy1]) rfl ⟨xa, xn, xc, ya, yn, yc, by rw [HR.out.2.2], ?_, ?_, by omega, by omega, ?_, hfx.mono (by omega), hfy.mono (by omega)⟩
    · rw [HR.out.1]; exact hx3.grown hg3 (fun ad h1 _ _ => hfx.ne hy1 ad h1)
    · rw [HR.out.2.1]; exact hy.grown hg3 (fun ad h1 _ _ => hfy.ne hy2 ad h1)
    · exact ((hbel3.setCell (by simp) _).setCell (by simp) _).setCell (by simp) _

theorem lowestR (s : Bool) (a b : Option Addr) (n m ca cb p q L : Nat) (w : World) (r : Rat) (ha : NumAt 1000000000 .u64 w a n ca p) (hb : NumAt 1000000000 .u64 w b m cb q) (hn : n ≤ L) (hm : m ≤ L) (hL0 : 1 ≤ L) (hL : L ≤ 1000000000) (hr : Hid (∃ hq : q ≠ 0, r = Rat.normalize (sg s p) q hq)) :
    Calls Tryz.prog 74 #[.agg #[.bool s, .slice a n ca, .slice b m cb]] w (QBig L r w) := by
  obtain ⟨hq, rfl⟩ := hr.out
  exact lowest10 s a b n m ca cb p q L w ha hb hn hm hL0 hL hq
end Go.Proofs.YtajpdnphamomjaaGreat
