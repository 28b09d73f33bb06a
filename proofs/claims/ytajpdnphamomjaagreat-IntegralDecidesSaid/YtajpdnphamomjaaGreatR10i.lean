/- The reference of layer 10: Plus, the other cases. -/
import Derived.Test.YtajpdnphamomjaaGreatR10h
namespace Go.Proofs.YtajpdnphamomjaaGreat
open Go.RowKit Go.Q Go.Q.Num

set_option maxHeartbeats 1600000 in
theorem plusB (v1 v2 : Value) (r1 r2 : Rat) (L1 L2 : Nat) (w : World) (h1 : BigAt L1 w v1 r1) (h2 : BigAt L2 w v2 r2) (hL1 : L1 ≤ 100000000) (hL2 : L2 ≤ 100000000) (hsame : ¬ decide (r1.num < 0) = decide (r2.num < 0)) (hcmp : r2.num.natAbs * r1.den ≤ r1.num.natAbs * r2.den) :
    Calls Tryz.prog 50 #[v1, v2] w (QBig (L1 + L2 + 2) (r1 + r2) w) := by
  obtain ⟨a, n, c, b, m, d, rfl, ha, hb, hn, hm⟩ := h1
  obtain ⟨a', n', c', b', m', d', rfl, ha', hb', hn', hm'⟩ := h2
  obtain ⟨s, hs⟩ : ∃ s, s = decide (r1.num < 0) := ⟨_, rfl⟩
  obtain ⟨s', hs'⟩ : ∃ s', s' = decide (r2.num < 0) := ⟨_, rfl⟩
  rw [← hs, ← hs'] at hsame ⊢
  have HS := Lib.hid hs
  have HS' := Lib.hid hs'
  have HA := Lib.hid ha
  have HB := Lib.hid hb
  have HA' := Lib.hid ha'
  have HB' := Lib.hid hb'
  obtain ⟨r, hr⟩ : ∃ r, r = r1 + r2 := ⟨_, rfl⟩
  rw [← hr]
  have HR : Hid (∃ hq : r1.den * r2.den ≠ 0, r = Rat.normalize (sg s (r1.num.natAbs * r2.den - r2.num.natAbs * r1.den)) (r1.den * r2.den) hq) := by rw [hr]; exact plus_ge r1 r2 s s' HS.out HS'.out hsame hcmp
  have HC := Lib.hid hcmp
  have hc0 : 0 ≤ cmpn (r1.num.natAbs * r2.den) (r2.num.natAbs * r1.den) := by unfold cmpn; rw [if_neg (by omega)]; split <;> omega
  have hne : (s == s') = false := by simpa using hsame
  obtain ⟨cv, hcv⟩ : ∃ cv, cv = cmpn (r1.num.natAbs * r2.den) (r2.num.natAbs * r1.den) := ⟨_, rfl⟩
  rw [← hcv] at hc0
  have HCV := Lib.hid hcv
  clear hsame hcmp hcv
  clear hs hs' ha hb ha' hb' hr
  go_enter Tryz.func50, Tryz.ntmps50
  go_wp2_with fail
  have hz0 : w.heap.size < w.heap.size + 1 + 1 + 1 := by omega
  have hz1 : w.heap.size + 1 < w.heap.size + 1 + 1 + 1 := by omega
  have hz2 : w.heap.size + 1 + 1 < w.heap.size + 1 + 1 + 1 := by omega
  go_region_held3 (fun w' => w'.cell? ⟨w.heap.size, 0, none⟩ = some (.bool s) ∧ w'.cell? ⟨w.heap.size, 1, none⟩ = some (.slice a n c) ∧ w'.cell? ⟨w.heap.size, 2, none⟩ = some (.slice b m d) ∧
      w'.cell? ⟨w.heap.size + 1, 0, none⟩ = some (.bool s') ∧ w'.cell? ⟨w.heap.size + 1, 1, none⟩ = some (.slice a' n' c') ∧ w'.cell? ⟨w.heap.size + 1, 2, none⟩ = some (.slice b' m' d'))
    (first | (go_split_ands; refine ⟨?_, ?_, ?_, ?_, ?_, ?_⟩ <;> (rw [far3 _ _ _ _ _ _ _ _ _ _ (by omega)]; assumption)) | (go_keep; done) | (go_split_ands; refine ⟨?_, ?_, ?_, ?_, ?_, ?_⟩ <;> (rw [hc2 _ _ (by first | omega | (simp; omega))]; first | assumption | (go_keep; done))) | (go_split_ands; refine ⟨?_, ?_, ?_, ?_, ?_, ?_⟩ <;> (rw [hc1 _ _ (by first | omega | (simp; omega))]; first | assumption | (go_keep; done))))
    ((first
      | (go_at_call 73; with_reducible refine (mul10 a b' n m' c d' _ _ _ (HA.out.kept (by exact ((((Below.refl _ _).alloc (Nat.le_refl _) _).alloc (by simp) _).alloc (by simp; omega) _).drew)) (HB'.out.kept (by exact ((((Below.refl _ _).alloc (Nat.le_refl _) _).alloc (by simp) _).alloc (by simp; omega) _).drew)) (by omega) (by omega)).mono ?_
         rintro e w1 ⟨xa, xn, xc, rfl, hx, hxn, hb1, hfx⟩
         obtain ⟨hc1, hf1⟩ := bcell hb1
         have hs1 : w.heap.size + 1 + 1 < w1.heap.size := by have := hb1.size; simp at this; omega
         have hbel1 : Below w.heap.size w w1 := Below.trans ((((Below.refl _ _).alloc (Nat.le_refl _) _).alloc (by simp) _).alloc (by simp; omega) _).drew (hb1.mono (by simp; omega)))
      | (go_at_call 73; with_reducible refine (mul10 a' b n' m c' d _ _ _ (HA'.out.kept hbel1) (HB.out.kept hbel1) (by omega) (by omega)).mono ?_
         rintro e w2 ⟨ya, yn, yc, rfl, hy, hyn, hb2, hfy⟩
         obtain ⟨hc2, hf2⟩ := bcell hb2
         have hs2 : w.heap.size + 1 + 1 < w2.heap.size := by have := hb2.size; omega
         have hbel2 : Below w.heap.size w w2 := hbel1.trans (hb2.mono hbel1.size))))
  have hq1 : w.heap.size < w1.heap.size := by omega
  have hq2 : w.heap.size < w2.heap.size := by omega
  have hp1 : w.heap.size + 1 < w1.heap.size := by omega
  have hp2 : w.heap.size + 1 < w2.heap.size := by omega
  go_wp2_with fail
  refine (mul10 b b' m m' d d' _ _ _ (HB.out.kept hbel2) (HB'.out.kept hbel2) (by omega) (by omega)).mono ?_
  rintro e w3 ⟨za, zn, zc, rfl, hz, hzn, hb3, hfz⟩
  obtain ⟨hc3, hf3⟩ := bcell hb3
  have hs3 : w.heap.size + 1 + 1 < w3.heap.size := by have := hb3.size; omega
  have hq3 : w.heap.size < w3.heap.size := by omega
  have hp3 : w.heap.size + 1 < w3.heap.size := by omega
  have hbel3 : Below w.heap.size w w3 := hbel2.trans (hb3.mono hbel2.size)
  have hx3 := (hx.kept hb2).kept hb3
  have hy3 := hy.kept hb3
  go_wp2_with fail
  refine (compare10 _ _ _ _ _ _ _ _ _ hx3 hy3).mono ?_
  rintro e w4 ⟨rfl, hd4⟩
  rw [← HCV.out]
  have hbel4 : Below w.heap.size w w4 := Below.dr hbel3 hd4
  have hs4 : w.heap.size + 1 + 1 < w4.heap.size := by rw [hd4.size]; exact hs3
  have hx4 := hx3.dr hd4
  have hy4 := hy3.dr hd4
  have hz4 := hz.dr hd4
  have hcd : ∀ p, w4.cell? p = w3.cell? p := by obtain ⟨d, rfl⟩ := hd4; exact fun _ => rfl
  have hfd : ∀ p, w4.frozen? p = w3.frozen? p := by obtain ⟨d, rfl⟩ := hd4; exact fun _ => rfl
  have hcs : w4.cell? ⟨w.heap.size, 0, none⟩ = some (.bool s) := by rw [hcd, hc3 _ _ hq2, hc2 _ _ hq1, hc1 _ _ (by first | (simp; done) | (simp; omega))]; go_keep
  have k30 : w4.cell? ⟨w.heap.size + 1 + 1, 0, none⟩ = some (.bool false) := by rw [hcd, hc3 _ _ hs2, hc2 _ _ hs1, hc1 _ _ (by simp), cell_drew]; exact cell_at _ _ _ _ _ _ (by simp) rfl
  have k31 : w4.cell? ⟨w.heap.size + 1 + 1, 1, none⟩ = some (.slice none 0 0) := by rw [hcd, hc3 _ _ hs2, hc2 _ _ hs1, hc1 _ _ (by simp), cell_drew]; exact cell_at _ _ _ _ _ _ (by simp) rfl
  have k32 : w4.cell? ⟨w.heap.size + 1 + 1, 2, none⟩ = some (.slice none 0 0) := by rw [hcd, hc3 _ _ hs2, hc2 _ _ hs1, hc1 _ _ (by simp), cell_drew]; exact cell_at _ _ _ _ _ _ (by simp) rfl
  have f30 : ∀ o, w4.frozen? ⟨w.heap.size + 1 + 1, o, none⟩ = false := by intro o; rw [hfd, hf3 _ _ hs2, hf2 _ _ hs1, hf1 _ _ (by simp), frozen_drew]; exact frozen_at _ _ _ _ _ (by simp)
  clear hc1 hc2 hc3 hf1 hf2 hf3 hcd hfd
  go_wp2_with fail
  go_region_held3 (fun w' => w'.cell? ⟨w.heap.size, 0, none⟩ = some (.bool s))
    (first | assumption | (rw [far3 _ _ _ _ _ _ _ _ _ _ (by omega)]; assumption) | (go_keep; done))
    ((first
      | (go_at_call 76; with_reducible refine (minus10 xa ya xn yn xc yc _ _ _ (hx4.kept ((Below.refl _ _).drew)) (hy4.kept ((Below.refl _ _).drew)) (by omega) HC.out).mono ?_
         rintro e w5 ⟨ua, un, uc, rfl, hu, hun, hb5, hfu⟩
         obtain ⟨hc5, hf5⟩ := bcell hb5
         have hs5 : w.heap.size + 1 + 1 < w5.heap.size := by have := hb5.size; simp at this; omega
         have hbel5 : Below w.heap.size w w5 := Below.trans (hbel4.drew) (hb5.mono hbel4.size)
         have hcs5 : w5.cell? ⟨w.heap.size, 0, none⟩ = some (.bool s) := by rw [hc5 _ _ (by simp; omega)]; exact hcs
         have k50 : w5.cell? ⟨w.heap.size + 1 + 1, 0, none⟩ = some (.bool false) := by rw [hc5 _ _ (by simp; omega)]; exact k30
         have k51 : w5.cell? ⟨w.heap.size + 1 + 1, 1, none⟩ = some (.slice none 0 0) := by rw [hc5 _ _ (by simp; omega)]; exact k31
         have k52 : w5.cell? ⟨w.heap.size + 1 + 1, 2, none⟩ = some (.slice none 0 0) := by rw [hc5 _ _ (by simp; omega)]; exact k32
         have f50 : ∀ o, w5.frozen? ⟨w.heap.size + 1 + 1, o, none⟩ = false := by intro o; rw [hf5 _ _ (by simp; omega)]; exact f30 o
         clear hc5 hf5)
      | (go_at_call 74; with_reducible refine (lowestR _ ua za un zn uc zc _ _ (L1 + L2 + 2) _ _ hu ((hz4.kept ((Below.refl _ _).drew)).kept hb5) (by omega) (by omega) (by omega) (by omega) HR).mono ?_
         rintro e w6 ⟨va, vn, vc, vb, vm, vd, rfl, hva, hvb, hvn, hvm, hb6, hfa, hfb⟩
         obtain ⟨hc6, hf6⟩ := bcell hb6
         have hs6 : w.heap.size + 1 + 1 < w6.heap.size := by have := hb6.size; omega
         have hbel6 : Below w.heap.size w w6 := hbel5.trans (hb6.mono hbel5.size)
         have k60 : w6.cell? ⟨w.heap.size + 1 + 1, 0, none⟩ = some (.bool false) := by rw [hc6 _ _ hs5]; exact k50
         have k61 : w6.cell? ⟨w.heap.size + 1 + 1, 1, none⟩ = some (.slice none 0 0) := by rw [hc6 _ _ hs5]; exact k51
         have k62 : w6.cell? ⟨w.heap.size + 1 + 1, 2, none⟩ = some (.slice none 0 0) := by rw [hc6 _ _ hs5]; exact k52
         have f60 : ∀ o, w6.frozen? ⟨w.heap.size + 1 + 1, o, none⟩ = false := by intro o; rw [hf6 _ _ hs5]; exact f50 o
         have hcs6 : w6.cell? ⟨w.heap.size, 0, none⟩ = some (.bool s) := by rw [hc6 _ _ (by omega)]; exact hcs5
         clear hc6 hf6)))
  go_wp2
  have hg3 := grown_set3 w6 (w.heap.size + 1 + 1) 0 1 2 (.bool (decide (r.num < 0))) (.slice va vn vc) (.slice vb vm vd)
  refine bodyPost_ret (v := .agg #[.bool (decide (r.num < 0)), .slice va vn vc, .slice vb vm vd]) ?_ rfl ⟨va, vn, vc, vb, vm, vd, rfl, ?_, ?_, by omega, by omega, ?_, hfa.mono (by have := hbel5.size; omega), hfb.mono (by have := hbel5.size; omega)⟩
  · simp [results, Tryz.results50, go_sem, k60, k61, k62]
  · exact hva.grown hg3 (fun ad h1 _ _ => hfa.ne hs5 ad h1)
  · exact hvb.grown hg3 (fun ad h1 _ _ => hfb.ne hs5 ad h1)
  · exact ((hbel6.setCell (by simp; omega) _).setCell (by simp; omega) _).setCell (by simp; omega) _
set_option maxHeartbeats 1600000 in
theorem plusC (v1 v2 : Value) (r1 r2 : Rat) (L1 L2 : Nat) (w : World) (h1 : BigAt L1 w v1 r1) (h2 : BigAt L2 w v2 r2) (hL1 : L1 ≤ 100000000) (hL2 : L2 ≤ 100000000) (hsame : ¬ decide (r1.num < 0) = decide (r2.num < 0)) (hcmp : r1.num.natAbs * r2.den < r2.num.natAbs * r1.den) :
    Calls Tryz.prog 50 #[v1, v2] w (QBig (L1 + L2 + 2) (r1 + r2) w) := by
  obtain ⟨a, n, c, b, m, d, rfl, ha, hb, hn, hm⟩ := h1
  obtain ⟨a', n', c', b', m', d', rfl, ha', hb', hn', hm'⟩ := h2
  obtain ⟨s, hs⟩ : ∃ s, s = decide (r1.num < 0) := ⟨_, rfl⟩
  obtain ⟨s', hs'⟩ : ∃ s', s' = decide (r2.num < 0) := ⟨_, rfl⟩
  rw [← hs, ← hs'] at hsame ⊢
  have HS := Lib.hid hs
  have HS' := Lib.hid hs'
  have HA := Lib.hid ha
  have HB := Lib.hid hb
  have HA' := Lib.hid ha'
  have HB' := Lib.hid hb'
  obtain ⟨r, hr⟩ : ∃ r, r = r1 + r2 := ⟨_, rfl⟩
  rw [← hr]
  have HR : Hid (∃ hq : r1.den * r2.den ≠ 0, r = Rat.normalize (sg s' (r2.num.natAbs * r1.den - r1.num.natAbs * r2.den)) (r1.den * r2.den) hq) := by rw [hr]; exact plus_lt r1 r2 s s' HS.out HS'.out hsame (Nat.le_of_lt hcmp)
  have HC := Lib.hid (Nat.le_of_lt hcmp)
  have hc0 : cmpn (r1.num.natAbs * r2.den) (r2.num.natAbs * r1.den) < 0 := by unfold cmpn; rw [if_pos hcmp]; omega
  have hne : (s == s') = false := by simpa using hsame
  obtain ⟨cv, hcv⟩ : ∃ cv, cv = cmpn (r1.num.natAbs * r2.den) (r2.num.natAbs * r1.den) := ⟨_, rfl⟩
  rw [← hcv] at hc0
  have HCV := Lib.hid hcv
  clear hsame hcmp hcv
  clear hs hs' ha hb ha' hb' hr
  go_enter Tryz.func50, Tryz.ntmps50
  go_wp2_with fail
  have hz0 : w.heap.size < w.heap.size + 1 + 1 + 1 := by omega
  have hz1 : w.heap.size + 1 < w.heap.size + 1 + 1 + 1 := by omega
  have hz2 : w.heap.size + 1 + 1 < w.heap.size + 1 + 1 + 1 := by omega
  go_region_held3 (fun w' => w'.cell? ⟨w.heap.size, 0, none⟩ = some (.bool s) ∧ w'.cell? ⟨w.heap.size, 1, none⟩ = some (.slice a n c) ∧ w'.cell? ⟨w.heap.size, 2, none⟩ = some (.slice b m d) ∧
      w'.cell? ⟨w.heap.size + 1, 0, none⟩ = some (.bool s') ∧ w'.cell? ⟨w.heap.size + 1, 1, none⟩ = some (.slice a' n' c') ∧ w'.cell? ⟨w.heap.size + 1, 2, none⟩ = some (.slice b' m' d'))
    (first | (go_split_ands; refine ⟨?_, ?_, ?_, ?_, ?_, ?_⟩ <;> (rw [far3 _ _ _ _ _ _ _ _ _ _ (by omega)]; assumption)) | (go_keep; done) | (go_split_ands; refine ⟨?_, ?_, ?_, ?_, ?_, ?_⟩ <;> (rw [hc2 _ _ (by first | omega | (simp; omega))]; first | assumption | (go_keep; done))) | (go_split_ands; refine ⟨?_, ?_, ?_, ?_, ?_, ?_⟩ <;> (rw [hc1 _ _ (by first | omega | (simp; omega))]; first | assumption | (go_keep; done))))
    ((first
      | (go_at_call 73; with_reducible refine (mul10 a b' n m' c d' _ _ _ (HA.out.kept (by exact ((((Below.refl _ _).alloc (Nat.le_refl _) _).alloc (by simp) _).alloc (by simp; omega) _).drew)) (HB'.out.kept (by exact ((((Below.refl _ _).alloc (Nat.le_refl _) _).alloc (by simp) _).alloc (by simp; omega) _).drew)) (by omega) (by omega)).mono ?_
         rintro e w1 ⟨xa, xn, xc, rfl, hx, hxn, hb1, hfx⟩
         obtain ⟨hc1, hf1⟩ := bcell hb1
         have hs1 : w.heap.size + 1 + 1 < w1.heap.size := by have := hb1.size; simp at this; omega
         have hbel1 : Below w.heap.size w w1 := Below.trans ((((Below.refl _ _).alloc (Nat.le_refl _) _).alloc (by simp) _).alloc (by simp; omega) _).drew (hb1.mono (by simp; omega)))
      | (go_at_call 73; with_reducible refine (mul10 a' b n' m c' d _ _ _ (HA'.out.kept hbel1) (HB.out.kept hbel1) (by omega) (by omega)).mono ?_
         rintro e w2 ⟨ya, yn, yc, rfl, hy, hyn, hb2, hfy⟩
         obtain ⟨hc2, hf2⟩ := bcell hb2
         have hs2 : w.heap.size + 1 + 1 < w2.heap.size := by have := hb2.size; omega
         have hbel2 : Below w.heap.size w w2 := hbel1.trans (hb2.mono hbel1.size))))
  have hq1 : w.heap.size < w1.heap.size := by omega
  have hq2 : w.heap.size < w2.heap.size := by omega
  have hp1 : w.heap.size + 1 < w1.heap.size := by omega
  have hp2 : w.heap.size + 1 < w2.heap.size := by omega
  go_wp2_with fail
  refine (mul10 b b' m m' d d' _ _ _ (HB.out.kept hbel2) (HB'.out.kept hbel2) (by omega) (by omega)).mono ?_
  rintro e w3 ⟨za, zn, zc, rfl, hz, hzn, hb3, hfz⟩
  obtain ⟨hc3, hf3⟩ := bcell hb3
  have hs3 : w.heap.size + 1 + 1 < w3.heap.size := by have := hb3.size; omega
  have hq3 : w.heap.size < w3.heap.size := by omega
  have hp3 : w.heap.size + 1 < w3.heap.size := by omega
  have hbel3 : Below w.heap.size w w3 := hbel2.trans (hb3.mono hbel2.size)
  have hx3 := (hx.kept hb2).kept hb3
  have hy3 := hy.kept hb3
  go_wp2_with fail
  refine (compare10 _ _ _ _ _ _ _ _ _ hx3 hy3).mono ?_
  rintro e w4 ⟨rfl, hd4⟩
  rw [← HCV.out]
  have hbel4 : Below w.heap.size w w4 := Below.dr hbel3 hd4
  have hs4 : w.heap.size + 1 + 1 < w4.heap.size := by rw [hd4.size]; exact hs3
  have hx4 := hx3.dr hd4
  have hy4 := hy3.dr hd4
  have hz4 := hz.dr hd4
  have hcd : ∀ p, w4.cell? p = w3.cell? p := by obtain ⟨d, rfl⟩ := hd4; exact fun _ => rfl
  have hfd : ∀ p, w4.frozen? p = w3.frozen? p := by obtain ⟨d, rfl⟩ := hd4; exact fun _ => rfl
  have hcs : w4.cell? ⟨w.heap.size + 1, 0, none⟩ = some (.bool s') := by rw [hcd, hc3 _ _ hp2, hc2 _ _ hp1, hc1 _ _ (by first | (simp; done) | (simp; omega))]; go_keep
  have k30 : w4.cell? ⟨w.heap.size + 1 + 1, 0, none⟩ = some (.bool false) := by rw [hcd, hc3 _ _ hs2, hc2 _ _ hs1, hc1 _ _ (by simp), cell_drew]; exact cell_at _ _ _ _ _ _ (by simp) rfl
  have k31 : w4.cell? ⟨w.heap.size + 1 + 1, 1, none⟩ = some (.slice none 0 0) := by rw [hcd, hc3 _ _ hs2, hc2 _ _ hs1, hc1 _ _ (by simp), cell_drew]; exact cell_at _ _ _ _ _ _ (by simp) rfl
  have k32 : w4.cell? ⟨w.heap.size + 1 + 1, 2, none⟩ = some (.slice none 0 0) := by rw [hcd, hc3 _ _ hs2, hc2 _ _ hs1, hc1 _ _ (by simp), cell_drew]; exact cell_at _ _ _ _ _ _ (by simp) rfl
  have f30 : ∀ o, w4.frozen? ⟨w.heap.size + 1 + 1, o, none⟩ = false := by intro o; rw [hfd, hf3 _ _ hs2, hf2 _ _ hs1, hf1 _ _ (by simp), frozen_drew]; exact frozen_at _ _ _ _ _ (by simp)
  clear hc1 hc2 hc3 hf1 hf2 hf3 hcd hfd
  go_wp2_with fail
  go_region_held3 (fun w' => w'.cell? ⟨w.heap.size + 1, 0, none⟩ = some (.bool s'))
    (first | assumption | (rw [far3 _ _ _ _ _ _ _ _ _ _ (by omega)]; assumption) | (go_keep; done))
    ((first
      | (go_at_call 76; with_reducible refine (minus10 ya xa yn xn yc xc _ _ _ (hy4.kept ((Below.refl _ _).drew)) (hx4.kept ((Below.refl _ _).drew)) (by omega) HC.out).mono ?_
         rintro e w5 ⟨ua, un, uc, rfl, hu, hun, hb5, hfu⟩
         obtain ⟨hc5, hf5⟩ := bcell hb5
         have hs5 : w.heap.size + 1 + 1 < w5.heap.size := by have := hb5.size; simp at this; omega
         have hbel5 : Below w.heap.size w w5 := Below.trans (hbel4.drew) (hb5.mono hbel4.size)
         have hcs5 : w5.cell? ⟨w.heap.size + 1, 0, none⟩ = some (.bool s') := by rw [hc5 _ _ (by simp; omega)]; exact hcs
         have k50 : w5.cell? ⟨w.heap.size + 1 + 1, 0, none⟩ = some (.bool false) := by rw [hc5 _ _ (by simp; omega)]; exact k30
         have k51 : w5.cell? ⟨w.heap.size + 1 + 1, 1, none⟩ = some (.slice none 0 0) := by rw [hc5 _ _ (by simp; omega)]; exact k31
         have k52 : w5.cell? ⟨w.heap.size + 1 + 1, 2, none⟩ = some (.slice none 0 0) := by rw [hc5 _ _ (by simp; omega)]; exact k32
         have f50 : ∀ o, w5.frozen? ⟨w.heap.size + 1 + 1, o, none⟩ = false := by intro o; rw [hf5 _ _ (by simp; omega)]; exact f30 o
         clear hc5 hf5)
      | (go_at_call 74; with_reducible refine (lowestR _ ua za un zn uc zc _ _ (L1 + L2 + 2) _ _ hu ((hz4.kept ((Below.refl _ _).drew)).kept hb5) (by omega) (by omega) (by omega) (by omega) HR).mono ?_
         rintro e w6 ⟨va, vn, vc, vb, vm, vd, rfl, hva, hvb, hvn, hvm, hb6, hfa, hfb⟩
         obtain ⟨hc6, hf6⟩ := bcell hb6
         have hs6 : w.heap.size + 1 + 1 < w6.heap.size := by have := hb6.size; omega
         have hbel6 : Below w.heap.size w w6 := hbel5.trans (hb6.mono hbel5.size)
         have k60 : w6.cell? ⟨w.heap.size + 1 + 1, 0, none⟩ = some (.bool false) := by rw [hc6 _ _ hs5]; exact k50
         have k61 : w6.cell? ⟨w.heap.size + 1 + 1, 1, none⟩ = some (.slice none 0 0) := by rw [hc6 _ _ hs5]; exact k51
         have k62 : w6.cell? ⟨w.heap.size + 1 + 1, 2, none⟩ = some (.slice none 0 0) := by rw [hc6 _ _ hs5]; exact k52
         have f60 : ∀ o, w6.frozen? ⟨w.heap.size + 1 + 1, o, none⟩ = false := by intro o; rw [hf6 _ _ hs5]; exact f50 o
         have hcs6 : w6.cell? ⟨w.heap.size + 1, 0, none⟩ = some (.bool s') := by rw [hc6 _ _ (by omega)]; exact hcs5
         clear hc6 hf6)))
  go_wp2
  have hg3 := grown_set3 w6 (w.heap.size + 1 + 1) 0 1 2 (.bool (decide (r.num < 0))) (.slice va vn vc) (.slice vb vm vd)
  refine bodyPost_ret (v := .agg #[.bool (decide (r.num < 0)), .slice va vn vc, .slice vb vm vd]) ?_ rfl ⟨va, vn, vc, vb, vm, vd, rfl, ?_, ?_, by omega, by omega, ?_, hfa.mono (by have := hbel5.size; omega), hfb.mono (by have := hbel5.size; omega)⟩
  · simp [results, Tryz.results50, go_sem, k60, k61, k62]
  · exact hva.grown hg3 (fun ad h1 _ _ => hfa.ne hs5 ad h1)
  · exact hvb.grown hg3 (fun ad h1 _ _ => hfb.ne hs5 ad h1)
  · exact ((hbel6.setCell (by simp; omega) _).setCell (by simp; omega) _).setCell (by simp; omega) _

theorem plusAny (v1 v2 : Value) (r1 r2 : Rat) (L1 L2 : Nat) (w : World) (h1 : BigAt L1 w v1 r1) (h2 : BigAt L2 w v2 r2) (hL1 : L1 ≤ 100000000) (hL2 : L2 ≤ 100000000) :
    Calls Tryz.prog 50 #[v1, v2] w (QBig (L1 + L2 + 2) (r1 + r2) w) := by
  by_cases hs : decide (r1.num < 0) = decide (r2.num < 0)
  · exact plusA v1 v2 r1 r2 L1 L2 w h1 h2 hL1 hL2 hs
  · by_cases hc : r2.num.natAbs * r1.den ≤ r1.num.natAbs * r2.den
    · exact plusB v1 v2 r1 r2 L1 L2 w h1 h2 hL1 hL2 hs hc
    · exact plusC v1 v2 r1 r2 L1 L2 w h1 h2 hL1 hL2 hs (by omega)
end Go.Proofs.YtajpdnphamomjaaGreat
