/- The reference of layer 10: Make, Turned, Sign. -/
import Derived.Test.YtajpdnphamomjaaGreatR10i
namespace Go.Proofs.YtajpdnphamomjaaGreat
open Go.RowKit Go.Q Go.Q.Num

/-- a fraction that is valid, as a value -/
def frac (r : Rat) : Value := .agg #[.int .i64 r.num, .int .i64 (r.den : Int)]
/-- small enough to be valid -/
def Fits (r : Rat) : Prop := -100000000000000000 ≤ r.num ∧ r.num ≤ 100000000000000000 ∧ r.den ≤ 100000000000000000

set_option maxHeartbeats 1600000 in
theorem make10 (r : Rat) (w : World) (hr : Fits r) :
    Calls Tryz.prog 49 #[frac r] w (QBig 3 r w) := by
  obtain ⟨x, hx⟩ : ∃ x, x = r.num := ⟨_, rfl⟩
  obtain ⟨y, hy⟩ : ∃ y : Int, y = (r.den : Int) := ⟨_, rfl⟩
  have hx1 : -100000000000000000 ≤ x := by rw [hx]; exact hr.1
  have hx2 : x ≤ 100000000000000000 := by rw [hx]; exact hr.2.1
  have hy0 : 0 ≤ y := by omega
  have hy2 : y ≤ 100000000000000000 := by have := hr.2.2; omega
  have HX := Lib.hid hx
  have HY := Lib.hid hy
  unfold frac
  rw [← hx, ← hy]
  clear hx hy hr
  go_enter Tryz.func49, Tryz.ntmps49
  go_wp2_with fail
  have hz0 : w.heap.size < w.heap.size + 1 + 1 := by omega
  go_region_held3 (fun w' => w'.cell? ⟨w.heap.size, 0, none⟩ = some (.int .i64 x) ∧ w'.cell? ⟨w.heap.size, 1, none⟩ = some (.int .i64 y))
    (first | (go_split_ands; exact ⟨by assumption, by assumption⟩) | (go_split_ands; refine ⟨?_, ?_⟩ <;> (rw [far3 _ _ _ _ _ _ _ _ _ _ (by omega)]; assumption)) | (go_keep; done))
    ((first
      | (go_at_call 71; with_reducible refine (of10 x _ (by omega) (by omega)).mono ?_
         rintro e w1 ⟨xa, xn, xc, rfl, hxv, hxn, hb1, hfx⟩
         obtain ⟨hc1, hf1⟩ := bcell hb1
         have hs1 : w.heap.size + 1 < w1.heap.size := by have := hb1.size; simp at this; omega
         have hbel1 : Below w.heap.size w w1 := Below.trans (((Below.refl _ _).alloc (Nat.le_refl _) _).alloc (by simp) _).drew (hb1.mono (by simp; omega))
         have c10 : w1.cell? ⟨w.heap.size, 0, none⟩ = some (.int .i64 x) := by rw [hc1 _ _ (by simp; omega)]; go_keep
         have c11 : w1.cell? ⟨w.heap.size, 1, none⟩ = some (.int .i64 y) := by rw [hc1 _ _ (by simp; omega)]; go_keep
         have k10 : w1.cell? ⟨w.heap.size + 1, 0, none⟩ = some (.bool false) := by rw [hc1 _ _ (by simp), cell_drew]; exact cell_at _ _ _ _ _ _ (by simp) rfl
         have k11 : w1.cell? ⟨w.heap.size + 1, 1, none⟩ = some (.slice none 0 0) := by rw [hc1 _ _ (by simp), cell_drew]; exact cell_at _ _ _ _ _ _ (by simp) rfl
         have k12 : w1.cell? ⟨w.heap.size + 1, 2, none⟩ = some (.slice none 0 0) := by rw [hc1 _ _ (by simp), cell_drew]; exact cell_at _ _ _ _ _ _ (by simp) rfl
         have f10 : ∀ o, w1.frozen? ⟨w.heap.size + 1, o, none⟩ = false := by intro o; rw [hf1 _ _ (by simp), frozen_drew]; exact frozen_at _ _ _ _ _ (by simp)
         clear hc1 hf1)
      | (go_at_call 71; with_reducible refine (of10 y _ (by omega) (by omega)).mono ?_
         rintro e w2 ⟨ya, yn, yc, rfl, hyv, hyn, hb2, hfy⟩
         obtain ⟨hc2, hf2⟩ := bcell hb2
         have hs2 : w.heap.size + 1 < w2.heap.size := by have := hb2.size; omega
         have hbel2 : Below w.heap.size w w2 := hbel1.trans (hb2.mono hbel1.size)
         have c20 : w2.cell? ⟨w.heap.size, 0, none⟩ = some (.int .i64 x) := by rw [hc2 _ _ (by omega)]; exact c10
         have c21 : w2.cell? ⟨w.heap.size, 1, none⟩ = some (.int .i64 y) := by rw [hc2 _ _ (by omega)]; exact c11
         have k20 : w2.cell? ⟨w.heap.size + 1, 0, none⟩ = some (.bool false) := by rw [hc2 _ _ hs1]; exact k10
         have k21 : w2.cell? ⟨w.heap.size + 1, 1, none⟩ = some (.slice none 0 0) := by rw [hc2 _ _ hs1]; exact k11
         have k22 : w2.cell? ⟨w.heap.size + 1, 2, none⟩ = some (.slice none 0 0) := by rw [hc2 _ _ hs1]; exact k12
         have f20 : ∀ o, w2.frozen? ⟨w.heap.size + 1, o, none⟩ = false := by intro o; rw [hf2 _ _ hs1]; exact f10 o
         clear hc2 hf2)))
  go_wp2
  have hg3 := grown_set3 w2 (w.heap.size + 1) 0 1 2 (.bool (decide (x < 0))) (.slice xa xn xc) (.slice ya yn yc)
  refine bodyPost_ret (v := .agg #[.bool (decide (x < 0)), .slice xa xn xc, .slice ya yn yc]) (by simp [results, Tryz.results49, go_sem, k20, k21, k22]) rfl ⟨xa, xn, xc, ya, yn, yc, by rw [HX.out], ?_, ?_, by omega, by omega, ?_, hfx.mono (by simp; omega), hfy.mono (by have := hbel1.size; omega)⟩
  · rw [← HX.out]; exact (hxv.kept hb2).grown hg3 (fun ad h1 _ _ => hfx.ne (by simp) ad h1)
  · have h := hyv.grown hg3 (fun ad h1 _ _ => hfy.ne hs1 ad h1)
    rw [HY.out] at h
    simpa using h
  · exact ((hbel2.setCell (by simp) _).setCell (by simp) _).setCell (by simp) _

set_option maxHeartbeats 800000 in
theorem turned10 (v : Value) (r : Rat) (L : Nat) (w : World) (h : BigAt L w v r) (_hL : L ≤ 1000000000) :
    Calls Tryz.prog 72 #[v] w (QBigO L (-r) w) := by
  obtain ⟨a, n, c, b, m, d, rfl, ha, hb, hn, hm⟩ := h
  have hal : Below w.heap.size w ((w.alloc (.cells #[.bool (decide (r.num < 0)), .slice a n c, .slice b m d] 83)).alloc (.cells #[.bool (decide ((-r).num < 0)), .slice a n c, .slice b m d] 83)) := ((Below.refl _ _).alloc (Nat.le_refl _) _).alloc (by simp) _
  have HF : Hid (BigAt L ((w.alloc (.cells #[.bool (decide (r.num < 0)), .slice a n c, .slice b m d] 83)).alloc (.cells #[.bool (decide ((-r).num < 0)), .slice a n c, .slice b m d] 83)) (.agg #[.bool (decide ((-r).num < 0)), .slice a n c, .slice b m d]) (-r)) := by
    refine ⟨a, n, c, b, m, d, rfl, ?_, ?_, hn, hm⟩
    · rw [Rat.neg_num, Int.natAbs_neg]; exact ha.kept hal
    · rw [Rat.neg_den]; exact hb.kept hal
  have HAL := Lib.hid hal
  obtain ⟨s, hs⟩ : ∃ s, s = decide (r.num < 0) := ⟨_, rfl⟩
  obtain ⟨s', hs'⟩ : ∃ s', s' = decide ((-r).num < 0) := ⟨_, rfl⟩
  rw [← hs, ← hs'] at HF HAL
  rw [← hs]
  by_cases h0 : n = 0
  · subst h0
    have hz : r.num = 0 := by have := ha.lt (by omega); omega
    obtain rfl : s = false := by rw [hs, hz]; rfl
    obtain rfl : s' = false := by rw [hs', Rat.neg_num, hz]; rfl
    clear hs hs' hal ha hb
    go_enter Tryz.func72, Tryz.ntmps72
    go_wp2
    exact bodyPost_ret (v := .agg #[.bool false, .slice a 0 c, .slice b m d]) (by simp [results, Tryz.results72, go_sem]) rfl ⟨_, rfl, HF.out, HAL.out⟩
  · have hn1 : 1 ≤ n := by omega
    have hnz : r.num ≠ 0 := by
      intro hz
      obtain ⟨l, e1, e2, e3⟩ := ha
      rw [hz] at e3
      have e := (e2.zero (by omega)).1 e3
      have e4 := e1.nat
      rw [e] at e4; simp at e4; omega
    obtain rfl : s' = !s := by rw [hs, hs', Rat.neg_num]; by_cases hlt : r.num < 0 <;> simp [hlt] <;> omega
    clear hs hs' hal ha hb h0 hnz
    go_enter Tryz.func72, Tryz.ntmps72
    go_wp2
    exact bodyPost_ret (v := .agg #[.bool (!s), .slice a n c, .slice b m d]) (by simp [results, Tryz.results72, go_sem]) rfl ⟨_, rfl, HF.out, HAL.out⟩

/-- the sign of a fraction -/
def rsign (r : Rat) : Int := if r.num < 0 then -1 else if r.num = 0 then 0 else 1
def QIntB (v : Int) (w : World) (e : Ending) (w' : World) : Prop := e = .returned (.int .i64 v) ∧ Below w.heap.size w w'

set_option maxHeartbeats 800000 in
theorem sign10 (v : Value) (r : Rat) (L : Nat) (w : World) (h : BigAt L w v r) (_hL : L ≤ 1000000000) :
    Calls Tryz.prog 52 #[v] w (QIntB (rsign r) w) := by
  obtain ⟨a, n, c, b, m, d, rfl, ha, hb, hn, hm⟩ := h
  obtain ⟨s, hs⟩ : ∃ s, s = decide (r.num < 0) := ⟨_, rfl⟩
  rw [← hs]
  by_cases h0 : n = 0
  · subst h0
    have hz : r.num = 0 := by have := ha.lt (by omega); omega
    have HR : Hid (rsign r = 0) := by show _ = _; unfold rsign; rw [if_neg (by omega), if_pos hz]
    clear hs ha hb hz
    go_enter Tryz.func52, Tryz.ntmps52
    go_wp2
    go_ret
    exact ⟨by rw [HR.out]; rfl, (Below.refl _ _).alloc (Nat.le_refl _) _⟩
  · have hn1 : 1 ≤ n := by omega
    have hnz : r.num ≠ 0 := by
      intro hz
      obtain ⟨l, e1, e2, e3⟩ := ha
      rw [hz] at e3
      have e := (e2.zero (by omega)).1 e3
      have e4 := e1.nat
      rw [e] at e4; simp at e4; omega
    have HR : Hid (rsign r = if s then -1 else 1) := by
      show _ = _; rw [hs]; unfold rsign
      by_cases hlt : r.num < 0 <;> simp [hlt, hnz]
    clear hs ha hb h0 hnz
    cases s
    · go_enter Tryz.func52, Tryz.ntmps52
      go_wp2
      go_ret
      exact ⟨by rw [HR.out]; rfl, (Below.refl _ _).alloc (Nat.le_refl _) _⟩
    · go_enter Tryz.func52, Tryz.ntmps52
      go_wp2
      go_ret
      exact ⟨by rw [HR.out]; rfl, (Below.refl _ _).alloc (Nat.le_refl _) _⟩
end Go.Proofs.YtajpdnphamomjaaGreat
