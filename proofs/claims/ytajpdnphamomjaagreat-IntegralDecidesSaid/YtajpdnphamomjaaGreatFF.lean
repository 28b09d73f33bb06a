/- Package fraction: From, Compare of Exact. -/
import Derived.Test.YtajpdnphamomjaaGreatFE
namespace Go.Proofs.YtajpdnphamomjaaGreat
open Go.RowKit Go.Q Go.Q.Num

set_option maxHeartbeats 1600000 in
theorem fromF (r : Rat) (w : World) (hr : Fits r) :
    Calls Tryz.prog 84 #[frac r] w (QEx 2 r w) := by
  obtain ⟨x, hx⟩ : ∃ x, x = r.num := ⟨_, rfl⟩
  obtain ⟨y, hy⟩ : ∃ y : Nat, y = r.den := ⟨_, rfl⟩
  have hx1 : -100000000000000000 ≤ x := by rw [hx]; exact hr.1
  have hx2 : x ≤ 100000000000000000 := by rw [hx]; exact hr.2.1
  have hy2 : y ≤ 100000000000000000 := by have := hr.2.2; omega
  have hy0 : (0 : Int) ≤ (y : Int) := by omega
  have hy3 : (y : Int) < 18446744073709551616 := by omega
  have kw : IntKind.u64.wrap (y : Int) = (y : Int) := by rw [IntKind.wrap_u64]; omega
  have HX := Lib.hid hx
  have HY := Lib.hid hy
  unfold frac
  rw [← hx, ← hy]
  clear hx hy hr
  go_enter Tryz.func84, Tryz.ntmps84
  go_wp2_with fail
  have hz0 : w.heap.size < w.heap.size + 1 + 1 := by omega
  go_region_held3 (fun w' => w'.cell? ⟨w.heap.size, 0, none⟩ = some (.int .i64 x) ∧ w'.cell? ⟨w.heap.size, 1, none⟩ = some (.int .i64 (y : Int)))
    (first | (go_split_ands; exact ⟨by assumption, by assumption⟩) | (go_split_ands; refine ⟨?_, ?_⟩ <;> (rw [far3 _ _ _ _ _ _ _ _ _ _ (by omega)]; assumption)) | (go_keep; done))
    ((first
      | (go_at_call 96; with_reducible refine (sizeF x _ (by omega) (by omega)).mono ?_
         rintro e w0 ⟨rfl, ⟨q1, rfl⟩⟩)
      | (go_at_call 105; with_reducible refine (natOfF x.natAbs _ (by omega)).mono ?_
         rintro e w1 ⟨xa, xn, xc, rfl, hxv, hxn, hb1, hfx⟩
         obtain ⟨hc1, hf1⟩ := bcell hb1
         have hs1 : w.heap.size + 1 < w1.heap.size := by have := hb1.size; simp at this; omega
         have hbel1 : Below w.heap.size w w1 := Below.next (below_drewN (((Below.refl _ _).alloc (Nat.le_refl _) _).alloc (by simp) _) _) hb1
         have c10 : w1.cell? ⟨w.heap.size, 0, none⟩ = some (.int .i64 x) := by rw [hc1 _ _ (by simp; omega)]; go_keep
         have c11 : w1.cell? ⟨w.heap.size, 1, none⟩ = some (.int .i64 (y : Int)) := by rw [hc1 _ _ (by simp; omega)]; go_keep
         have k10 : w1.cell? ⟨w.heap.size + 1, 0, none⟩ = some (.bool false) := by rw [hc1 _ _ (by simp)]; go_keep
         have k11 : w1.cell? ⟨w.heap.size + 1, 1, none⟩ = some (.slice none 0 0) := by rw [hc1 _ _ (by simp)]; go_keep
         have k12 : w1.cell? ⟨w.heap.size + 1, 2, none⟩ = some (.slice none 0 0) := by rw [hc1 _ _ (by simp)]; go_keep
         have f10 : ∀ o, w1.frozen? ⟨w.heap.size + 1, o, none⟩ = false := by intro o; rw [hf1 _ _ (by simp)]; simp [go_sem, frozen_at]
         clear hc1 hf1)
      | (go_at_call 105; with_reducible refine (natOfF y _ (by omega)).mono ?_
         rintro e w2 ⟨ya, yn, yc, rfl, hyv, hyn, hb2, hfy⟩
         obtain ⟨hc2, hf2⟩ := bcell hb2
         have hs2 : w.heap.size + 1 < w2.heap.size := by have := hb2.size; omega
         have hbel2 : Below w.heap.size w w2 := hbel1.trans (hb2.mono hbel1.size)
         have c20 : w2.cell? ⟨w.heap.size, 0, none⟩ = some (.int .i64 x) := by rw [hc2 _ _ (by omega)]; exact c10
         have c21 : w2.cell? ⟨w.heap.size, 1, none⟩ = some (.int .i64 (y : Int)) := by rw [hc2 _ _ (by omega)]; exact c11
         have k20 : w2.cell? ⟨w.heap.size + 1, 0, none⟩ = some (.bool false) := by rw [hc2 _ _ hs1]; exact k10
         have k21 : w2.cell? ⟨w.heap.size + 1, 1, none⟩ = some (.slice none 0 0) := by rw [hc2 _ _ hs1]; exact k11
         have k22 : w2.cell? ⟨w.heap.size + 1, 2, none⟩ = some (.slice none 0 0) := by rw [hc2 _ _ hs1]; exact k12
         have f20 : ∀ o, w2.frozen? ⟨w.heap.size + 1, o, none⟩ = false := by intro o; rw [hf2 _ _ hs1]; exact f10 o
         clear hc2 hf2)))
  go_wp2
  have hg3 := grown_set3 w2 (w.heap.size + 1) 0 1 2 (.bool (decide (x < 0))) (.slice xa xn xc) (.slice ya yn yc)
  refine bodyPost_ret (v := .agg #[.bool (decide (x < 0)), .slice xa xn xc, .slice ya yn yc]) (by simp [results, Tryz.results84, go_sem, k20, k21, k22]) rfl ⟨xa, xn, xc, ya, yn, yc, by rw [HX.out], ?_, ?_, by omega, by omega, ?_, hfx.mono (by simp; omega), hfy.mono (by have := hbel1.size; omega)⟩
  · rw [← HX.out]; exact (hxv.kept hb2).grown hg3 (fun ad h1 _ _ => hfx.ne (by simp) ad h1)
  · rw [← HY.out]; exact hyv.grown hg3 (fun ad h1 _ _ => hfy.ne hs1 ad h1)
  · exact ((hbel2.setCell (by simp) _).setCell (by simp) _).setCell (by simp) _

end Go.Proofs.YtajpdnphamomjaaGreat
