/- Package fraction: Compare of Exact. -/
import Derived.Test.YtajpdnphamomjaaGreatFF
namespace Go.Proofs.YtajpdnphamomjaaGreat
open Go.RowKit Go.Q Go.Q.Num

/-- how two fractions compare -/
def cmpq (r s : Rat) : Int := cmpi (r.num * s.den) (s.num * r.den)
theorem cmpq_pos {r s : Rat} (hr : ¬ r.num < 0) (hs : ¬ s.num < 0) : cmpq r s = cmpn (r.num.natAbs * s.den) (s.num.natAbs * r.den) := by
  obtain ⟨x, hx⟩ : ∃ x : Nat, r.num = x := ⟨r.num.natAbs, by omega⟩
  obtain ⟨y, hy⟩ : ∃ y : Nat, s.num = y := ⟨s.num.natAbs, by omega⟩
  unfold cmpq
  rw [hx, hy, ← Int.natCast_mul, ← Int.natCast_mul, cmpi_nat]; rfl
theorem cmpi_neg (x y : Int) : cmpi (-x) (-y) = - cmpi x y := by
  unfold cmpi
  rcases Int.lt_trichotomy x y with h | h | h
  · rw [if_neg (by omega), if_pos (by omega), if_pos h]; rfl
  · rw [if_neg (by omega), if_neg (by omega), if_neg (by omega), if_neg (by omega)]; rfl
  · rw [if_pos (by omega), if_neg (by omega), if_pos h]
theorem cmpq_neg {r s : Rat} (hr : r.num < 0) (hs : s.num < 0) : cmpq r s = - cmpn (r.num.natAbs * s.den) (s.num.natAbs * r.den) := by
  obtain ⟨x, hx⟩ : ∃ x : Nat, r.num = -(x : Int) := ⟨r.num.natAbs, by omega⟩
  obtain ⟨y, hy⟩ : ∃ y : Nat, s.num = -(y : Int) := ⟨s.num.natAbs, by omega⟩
  unfold cmpq
  rw [hx, hy, Int.neg_mul, Int.neg_mul, cmpi_neg, ← Int.natCast_mul, ← Int.natCast_mul, cmpi_nat, Int.natAbs_neg, Int.natAbs_neg]; rfl
theorem cmpq_lt {r s : Rat} (hr : r.num < 0) (hs : ¬ s.num < 0) : cmpq r s = -1 := by
  have h1 : r.num * s.den < 0 := Int.mul_neg_of_neg_of_pos hr (by have := s.den_pos; omega)
  have h2 : 0 ≤ s.num * r.den := Int.mul_nonneg (by omega) (by omega)
  unfold cmpq cmpi; rw [if_pos (by omega)]
theorem cmpq_gt {r s : Rat} (hr : ¬ r.num < 0) (hs : s.num < 0) : cmpq r s = 1 := by
  have h1 : s.num * r.den < 0 := Int.mul_neg_of_neg_of_pos hs (by have := r.den_pos; omega)
  have h2 : 0 ≤ r.num * s.den := Int.mul_nonneg (by omega) (by omega)
  unfold cmpq cmpi; rw [if_neg (by omega), if_pos (by omega)]

set_option maxHeartbeats 1600000 in
theorem cmpE (v u : Value) (r s : Rat) (L : Nat) (w : World) (h : ExAt L w v r) (h' : ExAt L w u s) (hL : L ≤ 1000000000) :
    Calls Tryz.prog 86 #[v, u] w (QIntB (cmpq r s) w) := by
  obtain ⟨a, n, c, b, m, d, rfl, ha, hb, hn, hm⟩ := h
  obtain ⟨a', n', c', b', m', d', rfl, ha', hb', hn', hm'⟩ := h'
  by_cases hr : r.num < 0
  · have HR : Hid (decide (r.num < 0) = true) := Lib.hid (by simpa using hr)
    by_cases hs : s.num < 0
    · have HS : Hid (decide (s.num < 0) = true) := Lib.hid (by simpa using hs)
      have HQ := Lib.hid (cmpq_neg hr hs)
      rw [HR.out, HS.out, HQ.out]
      obtain ⟨x, hx⟩ : ∃ x, x = r.num.natAbs := ⟨_, rfl⟩
      obtain ⟨y, hy⟩ : ∃ y, y = s.num.natAbs := ⟨_, rfl⟩
      obtain ⟨p, hp⟩ : ∃ p, p = r.den := ⟨_, rfl⟩
      obtain ⟨q, hq⟩ : ∃ q, q = s.den := ⟨_, rfl⟩
      rw [← hx, ← hy, ← hp, ← hq]
      rw [← hx] at ha
      rw [← hy] at ha'
      rw [← hp] at hb
      rw [← hq] at hb'
      clear hx hy hp hq HR HS HQ hr hs
      have hcn : -1 ≤ cmpn (x * q) (y * p) ∧ cmpn (x * q) (y * p) ≤ 1 := by unfold cmpn; split <;> (try split) <;> omega
      obtain ⟨z, hz⟩ : ∃ z, z = cmpn (x * q) (y * p) := ⟨_, rfl⟩
      have HZ := Lib.hid hz
      rw [← hz] at hcn ⊢
      obtain ⟨hc1, hc2⟩ := hcn
      clear hz
      go_enter Tryz.func86, Tryz.ntmps86
      go_wp2
      go_region_held3 (fun w' => w'.cell? ⟨w.heap.size, 0, none⟩ = some (.bool true) ∧ w'.cell? ⟨w.heap.size, 1, none⟩ = some (.slice a n c) ∧ w'.cell? ⟨w.heap.size, 2, none⟩ = some (.slice b m d) ∧ w'.cell? ⟨w.heap.size + 1, 1, none⟩ = some (.slice a' n' c') ∧ w'.cell? ⟨w.heap.size + 1, 2, none⟩ = some (.slice b' m' d'))
        (first | (go_split_ands; exact ⟨by assumption, by assumption, by assumption, by assumption, by assumption⟩) | (go_keep; done))
        ((first
          | (go_at_call 106; with_reducible refine (mulF a b' n m' c d' x q _ ?_ ?_ (by omega) (by omega)).mono ?_
             · (repeat (first | assumption | exact one10 _ | exact oneAt _ _ (by simp; done) | with_reducible refine NumAt.drew ?_ | with_reducible refine NumAt.al ?_ _ | with_reducible refine NumAt.kept ?_ (by assumption)))
             · (repeat (first | assumption | exact one10 _ | exact oneAt _ _ (by simp; done) | with_reducible refine NumAt.drew ?_ | with_reducible refine NumAt.al ?_ _ | with_reducible refine NumAt.kept ?_ (by assumption)))
             rintro e w1 ⟨ga, gn, gc, rfl, hg, hgn, hb1, _⟩
             obtain ⟨hc1, hf1⟩ := bcell hb1
             have hs1 : w.heap.size + 1 < w1.heap.size := by have := hb1.size; (try simp at this); omega
             have c10 : w1.cell? ⟨w.heap.size, 0, none⟩ = some (.bool true) := by rw [hc1 _ _ (by first | assumption | (simp; try omega) | omega)]; first | assumption | go_keep
             have c11 : w1.cell? ⟨w.heap.size, 1, none⟩ = some (.slice a n c) := by rw [hc1 _ _ (by first | assumption | (simp; try omega) | omega)]; first | assumption | go_keep
             have c12 : w1.cell? ⟨w.heap.size, 2, none⟩ = some (.slice b m d) := by rw [hc1 _ _ (by first | assumption | (simp; try omega) | omega)]; first | assumption | go_keep
             have c13 : w1.cell? ⟨w.heap.size + 1, 1, none⟩ = some (.slice a' n' c') := by rw [hc1 _ _ (by first | assumption | (simp; try omega) | omega)]; first | assumption | go_keep
             have c14 : w1.cell? ⟨w.heap.size + 1, 2, none⟩ = some (.slice b' m' d') := by rw [hc1 _ _ (by first | assumption | (simp; try omega) | omega)]; first | assumption | go_keep
             clear hc1 hf1)
          | (go_at_call 106; with_reducible refine (mulF a' b n' m c' d y p _ ?_ ?_ (by omega) (by omega)).mono ?_
             · (repeat (first | assumption | exact one10 _ | exact oneAt _ _ (by simp; done) | with_reducible refine NumAt.drew ?_ | with_reducible refine NumAt.al ?_ _ | with_reducible refine NumAt.kept ?_ (by assumption)))
             · (repeat (first | assumption | exact one10 _ | exact oneAt _ _ (by simp; done) | with_reducible refine NumAt.drew ?_ | with_reducible refine NumAt.al ?_ _ | with_reducible refine NumAt.kept ?_ (by assumption)))
             rintro e w2 ⟨ka, kn, kc, rfl, hk, hkn, hb2, _⟩
             obtain ⟨hc2, hf2⟩ := bcell hb2
             have hs2 : w.heap.size + 1 < w2.heap.size := by have := hb2.size; (try simp at this); omega
             have c20 : w2.cell? ⟨w.heap.size, 0, none⟩ = some (.bool true) := by rw [hc2 _ _ (by first | assumption | (simp; try omega) | omega)]; first | assumption | go_keep
             have c21 : w2.cell? ⟨w.heap.size, 1, none⟩ = some (.slice a n c) := by rw [hc2 _ _ (by first | assumption | (simp; try omega) | omega)]; first | assumption | go_keep
             have c22 : w2.cell? ⟨w.heap.size, 2, none⟩ = some (.slice b m d) := by rw [hc2 _ _ (by first | assumption | (simp; try omega) | omega)]; first | assumption | go_keep
             have c23 : w2.cell? ⟨w.heap.size + 1, 1, none⟩ = some (.slice a' n' c') := by rw [hc2 _ _ (by first | assumption | (simp; try omega) | omega)]; first | assumption | go_keep
             have c24 : w2.cell? ⟨w.heap.size + 1, 2, none⟩ = some (.slice b' m' d') := by rw [hc2 _ _ (by first | assumption | (simp; try omega) | omega)]; first | assumption | go_keep
             clear hc2 hf2)
          | (go_at_call 109; with_reducible refine (compareF ga ka gn kn gc kc (x * q) (y * p) _ ?_ ?_).mono ?_
             · (repeat (first | assumption | exact one10 _ | exact oneAt _ _ (by simp; done) | with_reducible refine NumAt.drew ?_ | with_reducible refine NumAt.al ?_ _ | with_reducible refine NumAt.kept ?_ (by assumption)))
             · (repeat (first | assumption | exact one10 _ | exact oneAt _ _ (by simp; done) | with_reducible refine NumAt.drew ?_ | with_reducible refine NumAt.al ?_ _ | with_reducible refine NumAt.kept ?_ (by assumption)))
             rintro e w3 ⟨rfl, hd3⟩
             rw [← HZ.out]
             have hb3 := drb hd3
             obtain ⟨hc3, hf3⟩ := bcell hb3
             have hs3 : w.heap.size + 1 < w3.heap.size := by have := hb3.size; (try simp at this); omega
             have c30 : w3.cell? ⟨w.heap.size, 0, none⟩ = some (.bool true) := by rw [hc3 _ _ (by first | assumption | (simp; try omega) | omega)]; first | assumption | go_keep
             have c31 : w3.cell? ⟨w.heap.size, 1, none⟩ = some (.slice a n c) := by rw [hc3 _ _ (by first | assumption | (simp; try omega) | omega)]; first | assumption | go_keep
             have c32 : w3.cell? ⟨w.heap.size, 2, none⟩ = some (.slice b m d) := by rw [hc3 _ _ (by first | assumption | (simp; try omega) | omega)]; first | assumption | go_keep
             have c33 : w3.cell? ⟨w.heap.size + 1, 1, none⟩ = some (.slice a' n' c') := by rw [hc3 _ _ (by first | assumption | (simp; try omega) | omega)]; first | assumption | go_keep
             have c34 : w3.cell? ⟨w.heap.size + 1, 2, none⟩ = some (.slice b' m' d') := by rw [hc3 _ _ (by first | assumption | (simp; try omega) | omega)]; first | assumption | go_keep
             clear hc3 hf3)))
      all_goals go_wp2
      all_goals go_ret
      all_goals exact ⟨rfl, by (repeat (first | assumption | with_reducible exact Below.refl _ _ | with_reducible refine Below.drew ?_ | with_reducible refine Below.al ?_ _ | with_reducible refine Below.next ?_ (by assumption)))⟩
    · have HS : Hid (decide (s.num < 0) = false) := Lib.hid (by simpa using hs)
      have HQ := Lib.hid (cmpq_lt hr hs)
      rw [HR.out, HS.out, HQ.out]
      clear ha hb ha' hb' hr hs
      go_enter Tryz.func86, Tryz.ntmps86
      go_wp2
      go_ret
      exact ⟨rfl, by (repeat (first | assumption | with_reducible exact Below.refl _ _ | with_reducible refine Below.drew ?_ | with_reducible refine Below.al ?_ _ | with_reducible refine Below.next ?_ (by assumption)))⟩
  · have HR : Hid (decide (r.num < 0) = false) := Lib.hid (by simpa using hr)
    by_cases hs : s.num < 0
    · have HS : Hid (decide (s.num < 0) = true) := Lib.hid (by simpa using hs)
      have HQ := Lib.hid (cmpq_gt hr hs)
      rw [HR.out, HS.out, HQ.out]
      clear ha hb ha' hb' hr hs
      go_enter Tryz.func86, Tryz.ntmps86
      go_wp2
      go_ret
      exact ⟨rfl, by (repeat (first | assumption | with_reducible exact Below.refl _ _ | with_reducible refine Below.drew ?_ | with_reducible refine Below.al ?_ _ | with_reducible refine Below.next ?_ (by assumption)))⟩
    · have HS : Hid (decide (s.num < 0) = false) := Lib.hid (by simpa using hs)
      have HQ := Lib.hid (cmpq_pos hr hs)
      rw [HR.out, HS.out, HQ.out]
      obtain ⟨x, hx⟩ : ∃ x, x = r.num.natAbs := ⟨_, rfl⟩
      obtain ⟨y, hy⟩ : ∃ y, y = s.num.natAbs := ⟨_, rfl⟩
      obtain ⟨p, hp⟩ : ∃ p, p = r.den := ⟨_, rfl⟩
      obtain ⟨q, hq⟩ : ∃ q, q = s.den := ⟨_, rfl⟩
      rw [← hx, ← hy, ← hp, ← hq]
      rw [← hx] at ha
      rw [← hy] at ha'
      rw [← hp] at hb
      rw [← hq] at hb'
      clear hx hy hp hq HR HS HQ hr hs
      go_enter Tryz.func86, Tryz.ntmps86
      go_wp2
      go_region_held3 (fun w' => w'.cell? ⟨w.heap.size, 0, none⟩ = some (.bool false) ∧ w'.cell? ⟨w.heap.size, 1, none⟩ = some (.slice a n c) ∧ w'.cell? ⟨w.heap.size, 2, none⟩ = some (.slice b m d) ∧ w'.cell? ⟨w.heap.size + 1, 1, none⟩ = some (.slice a' n' c') ∧ w'.cell? ⟨w.heap.size + 1, 2, none⟩ = some (.slice b' m' d'))
        (first | (go_split_ands; exact ⟨by assumption, by assumption, by assumption, by assumption, by assumption⟩) | (go_keep; done))
        ((first
          | (go_at_call 106; with_reducible refine (mulF a b' n m' c d' x q _ ?_ ?_ (by omega) (by omega)).mono ?_
             · (repeat (first | assumption | exact one10 _ | exact oneAt _ _ (by simp; done) | with_reducible refine NumAt.drew ?_ | with_reducible refine NumAt.al ?_ _ | with_reducible refine NumAt.kept ?_ (by assumption)))
             · (repeat (first | assumption | exact one10 _ | exact oneAt _ _ (by simp; done) | with_reducible refine NumAt.drew ?_ | with_reducible refine NumAt.al ?_ _ | with_reducible refine NumAt.kept ?_ (by assumption)))
             rintro e w1 ⟨ga, gn, gc, rfl, hg, hgn, hb1, _⟩
             obtain ⟨hc1, hf1⟩ := bcell hb1
             have hs1 : w.heap.size + 1 < w1.heap.size := by have := hb1.size; (try simp at this); omega
             have c10 : w1.cell? ⟨w.heap.size, 0, none⟩ = some (.bool false) := by rw [hc1 _ _ (by first | assumption | (simp; try omega) | omega)]; first | assumption | go_keep
             have c11 : w1.cell? ⟨w.heap.size, 1, none⟩ = some (.slice a n c) := by rw [hc1 _ _ (by first | assumption | (simp; try omega) | omega)]; first | assumption | go_keep
             have c12 : w1.cell? ⟨w.heap.size, 2, none⟩ = some (.slice b m d) := by rw [hc1 _ _ (by first | assumption | (simp; try omega) | omega)]; first | assumption | go_keep
             have c13 : w1.cell? ⟨w.heap.size + 1, 1, none⟩ = some (.slice a' n' c') := by rw [hc1 _ _ (by first | assumption | (simp; try omega) | omega)]; first | assumption | go_keep
             have c14 : w1.cell? ⟨w.heap.size + 1, 2, none⟩ = some (.slice b' m' d') := by rw [hc1 _ _ (by first | assumption | (simp; try omega) | omega)]; first | assumption | go_keep
             clear hc1 hf1)
          | (go_at_call 106; with_reducible refine (mulF a' b n' m c' d y p _ ?_ ?_ (by omega) (by omega)).mono ?_
             · (repeat (first | assumption | exact one10 _ | exact oneAt _ _ (by simp; done) | with_reducible refine NumAt.drew ?_ | with_reducible refine NumAt.al ?_ _ | with_reducible refine NumAt.kept ?_ (by assumption)))
             · (repeat (first | assumption | exact one10 _ | exact oneAt _ _ (by simp; done) | with_reducible refine NumAt.drew ?_ | with_reducible refine NumAt.al ?_ _ | with_reducible refine NumAt.kept ?_ (by assumption)))
             rintro e w2 ⟨ka, kn, kc, rfl, hk, hkn, hb2, _⟩
             obtain ⟨hc2, hf2⟩ := bcell hb2
             have hs2 : w.heap.size + 1 < w2.heap.size := by have := hb2.size; (try simp at this); omega
             have c20 : w2.cell? ⟨w.heap.size, 0, none⟩ = some (.bool false) := by rw [hc2 _ _ (by first | assumption | (simp; try omega) | omega)]; first | assumption | go_keep
             have c21 : w2.cell? ⟨w.heap.size, 1, none⟩ = some (.slice a n c) := by rw [hc2 _ _ (by first | assumption | (simp; try omega) | omega)]; first | assumption | go_keep
             have c22 : w2.cell? ⟨w.heap.size, 2, none⟩ = some (.slice b m d) := by rw [hc2 _ _ (by first | assumption | (simp; try omega) | omega)]; first | assumption | go_keep
             have c23 : w2.cell? ⟨w.heap.size + 1, 1, none⟩ = some (.slice a' n' c') := by rw [hc2 _ _ (by first | assumption | (simp; try omega) | omega)]; first | assumption | go_keep
             have c24 : w2.cell? ⟨w.heap.size + 1, 2, none⟩ = some (.slice b' m' d') := by rw [hc2 _ _ (by first | assumption | (simp; try omega) | omega)]; first | assumption | go_keep
             clear hc2 hf2)
          | (go_at_call 109; with_reducible refine (compareF ga ka gn kn gc kc (x * q) (y * p) _ ?_ ?_).mono ?_
             · (repeat (first | assumption | exact one10 _ | exact oneAt _ _ (by simp; done) | with_reducible refine NumAt.drew ?_ | with_reducible refine NumAt.al ?_ _ | with_reducible refine NumAt.kept ?_ (by assumption)))
             · (repeat (first | assumption | exact one10 _ | exact oneAt _ _ (by simp; done) | with_reducible refine NumAt.drew ?_ | with_reducible refine NumAt.al ?_ _ | with_reducible refine NumAt.kept ?_ (by assumption)))
             rintro e w3 ⟨rfl, hd3⟩
             have hb3 := drb hd3
             obtain ⟨hc3, hf3⟩ := bcell hb3
             have hs3 : w.heap.size + 1 < w3.heap.size := by have := hb3.size; (try simp at this); omega
             have c30 : w3.cell? ⟨w.heap.size, 0, none⟩ = some (.bool false) := by rw [hc3 _ _ (by first | assumption | (simp; try omega) | omega)]; first | assumption | go_keep
             have c31 : w3.cell? ⟨w.heap.size, 1, none⟩ = some (.slice a n c) := by rw [hc3 _ _ (by first | assumption | (simp; try omega) | omega)]; first | assumption | go_keep
             have c32 : w3.cell? ⟨w.heap.size, 2, none⟩ = some (.slice b m d) := by rw [hc3 _ _ (by first | assumption | (simp; try omega) | omega)]; first | assumption | go_keep
             have c33 : w3.cell? ⟨w.heap.size + 1, 1, none⟩ = some (.slice a' n' c') := by rw [hc3 _ _ (by first | assumption | (simp; try omega) | omega)]; first | assumption | go_keep
             have c34 : w3.cell? ⟨w.heap.size + 1, 2, none⟩ = some (.slice b' m' d') := by rw [hc3 _ _ (by first | assumption | (simp; try omega) | omega)]; first | assumption | go_keep
             clear hc3 hf3)))
      all_goals go_wp2
      all_goals go_ret
      all_goals exact ⟨rfl, by (repeat (first | assumption | with_reducible exact Below.refl _ _ | with_reducible refine Below.drew ?_ | with_reducible refine Below.al ?_ _ | with_reducible refine Below.next ?_ (by assumption)))⟩
end Go.Proofs.YtajpdnphamomjaaGreat
