/- The reference of layer 10: Plus. -/
import Derived.Test.YtajpdnphamomjaaGreatR10g
namespace Go.Proofs.YtajpdnphamomjaaGreat
open Go.RowKit Go.Q Go.Q.Num

theorem plus_same (r1 r2 : Rat) (s : Bool) (h : s = decide (r1.num < 0)) (h' : s = decide (r2.num < 0)) : ∃ hq : r1.den * r2.den ≠ 0, r1 + r2 = Rat.normalize (sg s (r1.num.natAbs * r2.den + r2.num.natAbs * r1.den)) (r1.den * r2.den) hq := by
  refine ⟨Nat.mul_ne_zero r1.den_nz r2.den_nz, ?_⟩
  rw [Rat.add_def]; congr 1
  rw [sg_add, plus_num r1 r2 s s h h']
theorem plus_ge (r1 r2 : Rat) (s s' : Bool) (h : s = decide (r1.num < 0)) (h' : s' = decide (r2.num < 0)) (hs : s ≠ s') (hg : r2.num.natAbs * r1.den ≤ r1.num.natAbs * r2.den) : ∃ hq : r1.den * r2.den ≠ 0, r1 + r2 = Rat.normalize (sg s (r1.num.natAbs * r2.den - r2.num.natAbs * r1.den)) (r1.den * r2.den) hq := by
  refine ⟨Nat.mul_ne_zero r1.den_nz r2.den_nz, ?_⟩
  rw [Rat.add_def]; congr 1
  rw [sg_sub s s' _ _ hg hs, plus_num r1 r2 s s' h h']
theorem plus_lt (r1 r2 : Rat) (s s' : Bool) (h : s = decide (r1.num < 0)) (h' : s' = decide (r2.num < 0)) (hs : s ≠ s') (hg : r1.num.natAbs * r2.den ≤ r2.num.natAbs * r1.den) : ∃ hq : r1.den * r2.den ≠ 0, r1 + r2 = Rat.normalize (sg s' (r2.num.natAbs * r1.den - r1.num.natAbs * r2.den)) (r1.den * r2.den) hq := by
  refine ⟨Nat.mul_ne_zero r1.den_nz r2.den_nz, ?_⟩
  rw [Rat.add_def]; congr 1
  rw [sg_sub' s s' _ _ hg hs, plus_num r1 r2 s s' h h']

set_option maxHeartbeats 1600000 in
theorem plusA (v1 v2 : Value) (r1 r2 : Rat) (L1 L2 : Nat) (w : World) (h1 : BigAt L1 w v1 r1) (h2 : BigAt L2 w v2 r2) (hL1 : L1 ≤ 100000000) (hL2 : L2 ≤ 100000000) (hsame : decide (r1.num < 0) = decide (r2.num < 0)) :
    Calls Tryz.prog 50 #[v1, v2] w (QBig (L1 + L2 + 2) (r1 + r2) w) := by
  obtain ⟨a, n, c, b, m, d, rfl, ha, hb, hn, hm⟩ := h1
  obtain ⟨a', n', c', b', m', d', rfl, ha', hb', hn', hm'⟩ := h2
  obtain ⟨s, hs⟩ : ∃ s, s = decide (r1.num < 0) := ⟨_, rfl⟩
  obtain ⟨s', hs'⟩ : ∃ s', s' = decide (r2.num < 0) := ⟨_, rfl⟩
  rw [← hs, ← hs'] at hsame ⊢
  have HS := Lib.hid hs
  have HS' := Lib.hid hs'
  have HA := Lib.hid ha
  have HB := Lib.hid hb
  have HA' := Lib.hid ha'
  have HB' := Lib.hid hb'
  obtain ⟨r, hr⟩ : ∃ r, r = r1 + r2 := ⟨_, rfl⟩
  rw [← hr]
  subst hsame
  have HR : Hid (∃ hq : r1.den * r2.den ≠ 0, r = Rat.normalize (sg s (r1.num.natAbs * r2.den + r2.num.natAbs * r1.den)) (r1.den * r2.den) hq) := by rw [hr]; exact plus_same r1 r2 s HS.out HS'.out
  clear hs hs' ha hb ha' hb' hr
  go_enter Tryz.func50, Tryz.ntmps50
  go_wp2_with fail
  have hz0 : w.heap.size < w.heap.size + 1 + 1 + 1 := by omega
  have hz1 : w.heap.size + 1 < w.heap.size + 1 + 1 + 1 := by omega
  have hz2 : w.heap.size + 1 + 1 < w.heap.size + 1 + 1 + 1 := by omega
  go_region_held3 (fun w' => w'.cell? ⟨w.heap.size, 0, none⟩ = some (.bool s) ∧ w'.cell? ⟨w.heap.size, 1, none⟩ = some (.slice a n c) ∧ w'.cell? ⟨w.heap.size, 2, none⟩ = some (.slice b m d) ∧
      w'.cell? ⟨w.heap.size + 1, 0, none⟩ = some (.bool s) ∧ w'.cell? ⟨w.heap.size + 1, 1, none⟩ = some (.slice a' n' c') ∧ w'.cell? ⟨w.heap.size + 1, 2, none⟩ = some (.slice b' m' d'))
    (first | (go_split_ands; refine ⟨?_, ?_, ?_, ?_, ?_, ?_⟩ <;> (rw [far3 _ _ _ _ _ _ _ _ _ _ (by omega)]; assumption)) | (go_keep; done) | (go_split_ands; refine ⟨?_, ?_, ?_, ?_, ?_, ?_⟩ <;> (rw [hc2 _ _ (by first | omega | (simp; omega))]; first | assumption | (go_keep; done))) | (go_split_ands; refine ⟨?_, ?_, ?_, ?_, ?_, ?_⟩ <;> (rw [hc1 _ _ (by first | omega | (simp; omega))]; first | assumption | (go_keep; done))))
    ((first
      | (go_at_call 73; with_reducible refine (mul10 a b' n m' c d' _ _ _ (HA.out.kept (by exact ((((Below.refl _ _).alloc (Nat.le_refl _) _).alloc (by simp) _).alloc (by simp; omega) _).drew)) (HB'.out.kept (by exact ((((Below.refl _ _).alloc (Nat.le_refl _) _).alloc (by simp) _).alloc (by simp; omega) _).drew)) (by omega) (by omega)).mono ?_
         rintro e w1 ⟨xa, xn, xc, rfl, hx, hxn, hb1, hfx⟩
         obtain ⟨hc1, hf1⟩ := bcell hb1
         have hs1 : w.heap.size + 1 + 1 < w1.heap.size := by have := hb1.size; simp at this; omega
         have hbel1 : Below w.heap.size w w1 := Below.trans ((((Below.refl _ _).alloc (Nat.le_refl _) _).alloc (by simp) _).alloc (by simp; omega) _).drew (hb1.mono (by simp; omega)))
      | (go_at_call 73; with_reducible refine (mul10 a' b n' m c' d _ _ _ (HA'.out.kept hbel1) (HB.out.kept hbel1) (by omega) (by omega)).mono ?_
         rintro e w2 ⟨ya, yn, yc, rfl, hy, hyn, hb2, hfy⟩
         obtain ⟨hc2, hf2⟩ := bcell hb2
         have hs2 : w.heap.size + 1 + 1 < w2.heap.size := by have := hb2.size; omega
         have hbel2 : Below w.heap.size w w2 := hbel1.trans (hb2.mono hbel1.size))))
  have hq1 : w.heap.size < w1.heap.size := by omega
  have hq2 : w.heap.size < w2.heap.size := by omega
  have hp1 : w.heap.size + 1 < w1.heap.size := by omega
  have hp2 : w.heap.size + 1 < w2.heap.size := by omega
  go_wp2_with fail
  refine (mul10 b b' m m' d d' _ _ _ (HB.out.kept hbel2) (HB'.out.kept hbel2) (by omega) (by omega)).mono ?_
  rintro e w3 ⟨za, zn, zc, rfl, hz, hzn, hb3, hfz⟩
  obtain ⟨hc3, hf3⟩ := bcell hb3
  have hs3 : w.heap.size + 1 + 1 < w3.heap.size := by have := hb3.size; omega
  have hq3 : w.heap.size < w3.heap.size := by omega
  have hp3 : w.heap.size + 1 < w3.heap.size := by omega
  have hbel3 : Below w.heap.size w w3 := hbel2.trans (hb3.mono hbel2.size)
  have hx3 := (hx.kept hb2).kept hb3
  have hy3 := hy.kept hb3
  go_wp2_with fail
  have hz3 := hz
  have hcs : w3.cell? ⟨w.heap.size, 0, none⟩ = some (.bool s) := by rw [hc3 _ _ hq2, hc2 _ _ hq1, hc1 _ _ (by simp; omega)]; go_keep
  have k30 : w3.cell? ⟨w.heap.size + 1 + 1, 0, none⟩ = some (.bool false) := by rw [hc3 _ _ hs2, hc2 _ _ hs1, hc1 _ _ (by simp), cell_drew]; exact cell_at _ _ _ _ _ _ (by simp) rfl
  have k31 : w3.cell? ⟨w.heap.size + 1 + 1, 1, none⟩ = some (.slice none 0 0) := by rw [hc3 _ _ hs2, hc2 _ _ hs1, hc1 _ _ (by simp), cell_drew]; exact cell_at _ _ _ _ _ _ (by simp) rfl
  have k32 : w3.cell? ⟨w.heap.size + 1 + 1, 2, none⟩ = some (.slice none 0 0) := by rw [hc3 _ _ hs2, hc2 _ _ hs1, hc1 _ _ (by simp), cell_drew]; exact cell_at _ _ _ _ _ _ (by simp) rfl
  have f30 : ∀ o, w3.frozen? ⟨w.heap.size + 1 + 1, o, none⟩ = false := by intro o; rw [hf3 _ _ hs2, hf2 _ _ hs1, hf1 _ _ (by simp), frozen_drew]; exact frozen_at _ _ _ _ _ (by simp)
  clear hc1 hc2 hc3 hf1 hf2 hf3
  go_region_held3 (fun w' => w'.cell? ⟨w.heap.size, 0, none⟩ = some (.bool s))
    (first | assumption | (rw [far3 _ _ _ _ _ _ _ _ _ _ (by omega)]; assumption) | (go_keep; done))
    ((first
      | (go_at_call 75; with_reducible refine (plus10 xa ya xn yn xc yc _ _ _ (hx3.kept ((Below.refl _ _).drew)) (hy3.kept ((Below.refl _ _).drew)) (by omega) (by omega)).mono ?_
         rintro e w5 ⟨ua, un, uc, rfl, hu, hun, hb5, hfu⟩
         obtain ⟨hc5, hf5⟩ := bcell hb5
         have hs5 : w.heap.size + 1 + 1 < w5.heap.size := by have := hb5.size; simp at this; omega
         have hbel5 : Below w.heap.size w w5 := Below.trans (hbel3.drew) (hb5.mono hbel3.size)
         have hcs5 : w5.cell? ⟨w.heap.size, 0, none⟩ = some (.bool s) := by rw [hc5 _ _ (by simp; omega)]; exact hcs
         have k50 : w5.cell? ⟨w.heap.size + 1 + 1, 0, none⟩ = some (.bool false) := by rw [hc5 _ _ (by simp; omega)]; exact k30
         have k51 : w5.cell? ⟨w.heap.size + 1 + 1, 1, none⟩ = some (.slice none 0 0) := by rw [hc5 _ _ (by simp; omega)]; exact k31
         have k52 : w5.cell? ⟨w.heap.size + 1 + 1, 2, none⟩ = some (.slice none 0 0) := by rw [hc5 _ _ (by simp; omega)]; exact k32
         have f50 : ∀ o, w5.frozen? ⟨w.heap.size + 1 + 1, o, none⟩ = false := by intro o; rw [hf5 _ _ (by simp; omega)]; exact f30 o
         clear hc5 hf5)
      | (go_at_call 74; with_reducible refine (lowestR _ ua za un zn uc zc _ _ (L1 + L2 + 2) _ _ hu ((hz3.kept ((Below.refl _ _).drew)).kept hb5) (by omega) (by omega) (by omega) (by omega) HR).mono ?_
         rintro e w6 ⟨va, vn, vc, vb, vm, vd, rfl, hva, hvb, hvn, hvm, hb6, hfa, hfb⟩
         obtain ⟨hc6, hf6⟩ := bcell hb6
         have hs6 : w.heap.size + 1 + 1 < w6.heap.size := by have := hb6.size; omega
         have hbel6 : Below w.heap.size w w6 := hbel5.trans (hb6.mono hbel5.size)
         have k60 : w6.cell? ⟨w.heap.size + 1 + 1, 0, none⟩ = some (.bool false) := by rw [hc6 _ _ hs5]; exact k50
         have k61 : w6.cell? ⟨w.heap.size + 1 + 1, 1, none⟩ = some (.slice none 0 0) := by rw [hc6 _ _ hs5]; exact k51
         have k62 : w6.cell? ⟨w.heap.size + 1 + 1, 2, none⟩ = some (.slice none 0 0) := by rw [hc6 _ _ hs5]; exact k52
         have f60 : ∀ o, w6.frozen? ⟨w.heap.size + 1 + 1, o, none⟩ = false := by intro o; rw [hf6 _ _ hs5]; exact f50 o
         have hcs6 : w6.cell? ⟨w.heap.size, 0, none⟩ = some (.bool s) := by rw [hc6 _ _ (by omega)]; exact hcs5
         clear hc6 hf6)))
  go_wp2
  have hg3 := grown_set3 w6 (w.heap.size + 1 + 1) 0 1 2 (.bool (decide (r.num < 0))) (.slice va vn vc) (.slice vb vm vd)
  refine bodyPost_ret (v := .agg #[.bool (decide (r.num < 0)), .slice va vn vc, .slice vb vm vd]) ?_ rfl ⟨va, vn, vc, vb, vm, vd, rfl, ?_, ?_, by omega, by omega, ?_, hfa.mono (by have := hbel5.size; omega), hfb.mono (by have := hbel5.size; omega)⟩
  · simp [results, Tryz.results50, go_sem, k60, k61, k62]
  · exact hva.grown hg3 (fun ad h1 _ _ => hfa.ne hs5 ad h1)
  · exact hvb.grown hg3 (fun ad h1 _ _ => hfb.ne hs5 ad h1)
  · exact ((hbel6.setCell (by simp; omega) _).setCell (by simp; omega) _).setCell (by simp; omega) _
end Go.Proofs.YtajpdnphamomjaaGreat
