/- The reference of layer 10: Plus, Times, Make, Turned, Sign of Bigs. -/
import Derived.Test.YtajpdnphamomjaaGreatR10f
namespace Go.Proofs.YtajpdnphamomjaaGreat
open Go.RowKit Go.Q Go.Q.Num

theorem sg_nat (x : Int) : sg (decide (x < 0)) x.natAbs = x := by
  unfold sg; by_cases h : x < 0 <;> simp [h] <;> omega
theorem sg_mul (s s' : Bool) (p q : Nat) : sg (s != s') (p * q) = sg s p * sg s' q := by
  unfold sg; cases s <;> cases s' <;> simp [Int.neg_mul, Int.mul_neg]
theorem sg_mul' (s : Bool) (p q : Nat) : sg s (p * q) = sg s p * q := by
  unfold sg; cases s <;> simp [Int.neg_mul]
theorem times_norm (r1 r2 : Rat) (s s' : Bool) (h : s = decide (r1.num < 0)) (h' : s' = decide (r2.num < 0)) : Rat.normalize (sg (s != s') (r1.num.natAbs * r2.num.natAbs)) (r1.den * r2.den) (Nat.mul_ne_zero r1.den_nz r2.den_nz) = r1 * r2 := by
  rw [Rat.mul_def]
  subst h h'
  congr 1
  rw [sg_mul, sg_nat, sg_nat]
theorem sg_add (s : Bool) (x y : Nat) : sg s (x + y) = sg s x + sg s y := by unfold sg; cases s <;> simp <;> omega
theorem sg_sub (s s' : Bool) (x y : Nat) (h : y ≤ x) (hs : s ≠ s') : sg s (x - y) = sg s x + sg s' y := by
  unfold sg; cases s <;> cases s' <;> simp at * <;> omega
theorem sg_sub' (s s' : Bool) (x y : Nat) (h : x ≤ y) (hs : s ≠ s') : sg s' (y - x) = sg s x + sg s' y := by
  rw [sg_sub s' s y x h (Ne.symm hs), Int.add_comm]
theorem plus_num (r1 r2 : Rat) (s s' : Bool) (h : s = decide (r1.num < 0)) (h' : s' = decide (r2.num < 0)) : sg s (r1.num.natAbs * r2.den) + sg s' (r2.num.natAbs * r1.den) = r1.num * r2.den + r2.num * r1.den := by
  subst h h'
  rw [sg_mul', sg_mul', sg_nat, sg_nat]

set_option maxHeartbeats 1600000 in
theorem times10 (v1 v2 : Value) (r1 r2 : Rat) (L1 L2 : Nat) (w : World) (h1 : BigAt L1 w v1 r1) (h2 : BigAt L2 w v2 r2) (hL1 : L1 ≤ 100000000) (hL2 : L2 ≤ 100000000) :
    Calls Tryz.prog 51 #[v1, v2] w (QBig (L1 + L2 + 1) (r1 * r2) w) := by
  obtain ⟨a, n, c, b, m, d, rfl, ha, hb, hn, hm⟩ := h1
  obtain ⟨a', n', c', b', m', d', rfl, ha', hb', hn', hm'⟩ := h2
  obtain ⟨s, hs⟩ : ∃ s, s = decide (r1.num < 0) := ⟨_, rfl⟩
  obtain ⟨s', hs'⟩ : ∃ s', s' = decide (r2.num < 0) := ⟨_, rfl⟩
  rw [← hs, ← hs']
  have HS := Lib.hid hs
  have HS' := Lib.hid hs'
  have HA := Lib.hid ha
  have HB := Lib.hid hb
  have HA' := Lib.hid ha'
  have HB' := Lib.hid hb'
  obtain ⟨r, hr⟩ : ∃ r, r = r1 * r2 := ⟨_, rfl⟩
  rw [← hr]
  have HR : Hid (∃ hq : r1.den * r2.den ≠ 0, r = Rat.normalize (sg (!s == s') (r1.num.natAbs * r2.num.natAbs)) (r1.den * r2.den) hq) := ⟨Nat.mul_ne_zero r1.den_nz r2.den_nz, by rw [hr]; exact (times_norm r1 r2 s s' HS.out HS'.out).symm⟩
  clear hs hs' ha hb ha' hb' hr
  go_enter Tryz.func51, Tryz.ntmps51
  go_wp2_with fail
  have hz0 : w.heap.size < w.heap.size + 1 + 1 + 1 := by omega
  have hz1 : w.heap.size + 1 < w.heap.size + 1 + 1 + 1 := by omega
  have hz2 : w.heap.size + 1 + 1 < w.heap.size + 1 + 1 + 1 := by omega
  go_region_held3 (fun w' => w'.cell? ⟨w.heap.size, 0, none⟩ = some (.bool s) ∧ w'.cell? ⟨w.heap.size, 1, none⟩ = some (.slice a n c) ∧ w'.cell? ⟨w.heap.size, 2, none⟩ = some (.slice b m d) ∧
      w'.cell? ⟨w.heap.size + 1, 0, none⟩ = some (.bool s') ∧ w'.cell? ⟨w.heap.size + 1, 1, none⟩ = some (.slice a' n' c') ∧ w'.cell? ⟨w.heap.size + 1, 2, none⟩ = some (.slice b' m' d'))
    (first | (go_split_ands; refine ⟨?_, ?_, ?_, ?_, ?_, ?_⟩ <;> (rw [far3 _ _ _ _ _ _ _ _ _ _ (by omega)]; assumption)) | (go_keep; done) | (go_split_ands; refine ⟨?_, ?_, ?_, ?_, ?_, ?_⟩ <;> (rw [hc3 _ _ (by first | omega | (simp; omega))]; first | assumption | (go_keep; done))) | (go_split_ands; refine ⟨?_, ?_, ?_, ?_, ?_, ?_⟩ <;> (rw [hc2 _ _ (by first | omega | (simp; omega))]; first | assumption | (go_keep; done))) | (go_split_ands; refine ⟨?_, ?_, ?_, ?_, ?_, ?_⟩ <;> (rw [hc1 _ _ (by first | omega | (simp; omega))]; first | assumption | (go_keep; done))))
    ((first
      | (go_at_call 73; with_reducible refine (mul10 a a' n n' c c' _ _ _ (HA.out.kept (by exact ((((Below.refl _ _).alloc (Nat.le_refl _) _).alloc (by simp) _).alloc (by simp; omega) _).drew)) (HA'.out.kept (by exact ((((Below.refl _ _).alloc (Nat.le_refl _) _).alloc (by simp) _).alloc (by simp; omega) _).drew)) (by omega) (by omega)).mono ?_
         rintro e w1 ⟨xa, xn, xc, rfl, hx, hxn, hb1, hfx⟩
         obtain ⟨hc1, hf1⟩ := bcell hb1
         have hs1 : w.heap.size + 1 + 1 < w1.heap.size := by have := hb1.size; simp at this; omega
         have hbel1 : Below w.heap.size w w1 := Below.trans ((((Below.refl _ _).alloc (Nat.le_refl _) _).alloc (by simp) _).alloc (by simp; omega) _).drew (hb1.mono (by simp; omega)))
      | (go_at_call 73; with_reducible refine (mul10 b b' m m' d d' _ _ _ (HB.out.kept hbel1) (HB'.out.kept hbel1) (by omega) (by omega)).mono ?_
         rintro e w2 ⟨ya, yn, yc, rfl, hy, hyn, hb2, hfy⟩
         obtain ⟨hc2, hf2⟩ := bcell hb2
         have hs2 : w.heap.size + 1 + 1 < w2.heap.size := by have := hb2.size; omega
         have hbel2 : Below w.heap.size w w2 := hbel1.trans (hb2.mono hbel1.size))
      | (go_at_call 74; with_reducible refine (lowestR _ xa ya xn yn xc yc _ _ (L1 + L2 + 1) _ _ (hx.kept hb2) hy (by omega) (by omega) (by omega) (by omega) HR).mono ?_
         rintro e w3 ⟨va, vn, vc, vb, vm, vd, rfl, hva, hvb, hvn, hvm, hb3, hfa, hfb⟩
         obtain ⟨hc3, hf3⟩ := bcell hb3
         have hs3 : w.heap.size + 1 + 1 < w3.heap.size := by have := hb3.size; omega
         have hbel3 : Below w.heap.size w w3 := hbel2.trans (hb3.mono hbel2.size))))
  go_wp2
  have hg3 := grown_set3 w3 (w.heap.size + 1 + 1) 0 1 2 (.bool (decide (r.num < 0))) (.slice va vn vc) (.slice vb vm vd)
  refine bodyPost_ret (v := .agg #[.bool (decide (r.num < 0)), .slice va vn vc, .slice vb vm vd]) ?_ rfl ⟨va, vn, vc, vb, vm, vd, rfl, ?_, ?_, hvn, hvm, ?_, hfa.mono (by have := hbel2.size; omega), hfb.mono (by have := hbel2.size; omega)⟩
  · simp [results, Tryz.results51, go_sem, hc3, hc2, hc1, hs1, hs2]
  · exact hva.grown hg3 (fun ad h1 _ _ => hfa.ne hs2 ad h1)
  · exact hvb.grown hg3 (fun ad h1 _ _ => hfb.ne hs2 ad h1)
  · exact ((hbel3.setCell (by simp; omega) _).setCell (by simp; omega) _).setCell (by simp; omega) _
end Go.Proofs.YtajpdnphamomjaaGreat
