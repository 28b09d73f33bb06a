/- Package fraction: Compare. -/
import Derived.Test.YtajpdnphamomjaaGreatFG
namespace Go.Proofs.YtajpdnphamomjaaGreat
open Go.RowKit Go.Q Go.Q.Num

/-- how two fractions compare; 0 where one is not valid -/
def compv (n d n' d' : Int) : Int := if IsFrac n d ∧ IsFrac n' d' then cmpi (n * d') (n' * d) else 0

theorem ratOf {n d : Int} (h : IsFrac n d) : ∃ r : Rat, r.num = n ∧ (r.den : Int) = d ∧ Fits r := by
  obtain ⟨h1, h2, h3, h4, h5⟩ := h
  refine ⟨⟨n, d.natAbs, by omega, h5⟩, rfl, by show ((d.natAbs : Nat) : Int) = d; omega, h3, h4, ?_⟩
  show d.natAbs ≤ _
  omega
theorem mul_in {n d : Int} (h1 : -1073741824 < n) (h2 : n < 1073741824) (h3 : 1 ≤ d) (h4 : d < 1073741824) : -9223372036854775808 ≤ n * d ∧ n * d ≤ 9223372036854775807 := by
  obtain ⟨x, hx⟩ : ∃ x, x = n.natAbs := ⟨_, rfl⟩
  obtain ⟨y, hy⟩ : ∃ y, y = d.natAbs := ⟨_, rfl⟩
  have h := Nat.mul_le_mul (show x ≤ 1073741824 by omega) (show y ≤ 1073741824 by omega)
  have e : (n * d).natAbs = x * y := by rw [Int.natAbs_mul, hx, hy]
  omega
/-- r is the fraction n/d -/
def IsRat (n d : Int) (r : Rat) : Prop := r.num = n ∧ (r.den : Int) = d ∧ Fits r
theorem fromV (n d : Int) (r : Rat) (w : World) (h : IsRat n d r) :
    Calls Tryz.prog 84 #[.agg #[.int .i64 n, .int .i64 d]] w (fun e w' => ∃ v, e = .returned v ∧ ExAt 2 w' v r ∧ Below w.heap.size w w') := by
  obtain ⟨h1, h2, h3⟩ := h
  subst h1 h2
  exact (fromF r w h3).mono (fun e w' h => h.at)

set_option maxHeartbeats 1600000 in
theorem compF (n d n' d' : Int) (w : World) (hn1 : -9223372036854775808 ≤ n) (hn2 : n ≤ 9223372036854775807) (hd1 : -9223372036854775808 ≤ d) (hd2 : d ≤ 9223372036854775807)
    (hn1' : -9223372036854775808 ≤ n') (hn2' : n' ≤ 9223372036854775807) (hd1' : -9223372036854775808 ≤ d') (hd2' : d' ≤ 9223372036854775807) :
    Calls Tryz.prog 91 #[fracv n d, fracv n' d'] w (QIntB (compv n d n' d') w) := by
  by_cases ha : IsFrac n d
  · have HA : Hid (decide (IsFrac n d) = true) := Lib.hid (by simpa using ha)
    by_cases hb : IsFrac n' d'
    · have HB : Hid (decide (IsFrac n' d') = true) := Lib.hid (by simpa using hb)
      have hv : compv n d n' d' = cmpi (n * d') (n' * d) := by unfold compv; rw [if_pos ⟨ha, hb⟩]
      rw [hv]
      obtain ⟨r, hr⟩ := ratOf ha
      obtain ⟨s, hs⟩ := ratOf hb
      have hC : cmpq r s = cmpi (n * d') (n' * d) := by unfold cmpq; rw [hr.1, hr.2.1, hs.1, hs.2.1]
      have HC := Lib.hid hC
      have HR : Hid (IsRat n d r) := Lib.hid hr
      have HS : Hid (IsRat n' d' s) := Lib.hid hs
      obtain ⟨i1, i2, i3, i4, _⟩ := ha
      obtain ⟨j1, j2, j3, j4, _⟩ := hb
      clear hv hC hr hs
      by_cases hsa : Small n d
      · have KA : Hid (decide (Small n d) = true) := Lib.hid (by simpa using hsa)
        by_cases hsb : Small n' d'
        · have KB : Hid (decide (Small n' d') = true) := Lib.hid (by simpa using hsb)
          obtain ⟨s1, s2, s3⟩ := hsa
          obtain ⟨t1, t2, t3⟩ := hsb
          have P1 := Lib.hid (mul_in s1 s2 (show (1 : Int) ≤ d' from j1) t3)
          have P2 := Lib.hid (mul_in t1 t2 (show (1 : Int) ≤ d from i1) s3)
          clear HR HS
          unfold fracv
          go_enter Tryz.func91, Tryz.ntmps91
          go_wp2_with fail
          refine (validF n d _ hn1 hn2 hd1 hd2).mono ?_
          rintro e w1 ⟨rfl, hb1⟩
          rw [HA.out]
          obtain ⟨hc1, hf1⟩ := bcell hb1
          have hs1 : w.heap.size + 1 < w1.heap.size := by have := hb1.size; (try simp at this); omega
          have c10 : w1.cell? ⟨w.heap.size, 0, none⟩ = some (.int .i64 n) := by rw [hc1 _ _ (by first | assumption | (simp; try omega) | omega)]; first | assumption | go_keep
          have c11 : w1.cell? ⟨w.heap.size, 1, none⟩ = some (.int .i64 d) := by rw [hc1 _ _ (by first | assumption | (simp; try omega) | omega)]; first | assumption | go_keep
          have c12 : w1.cell? ⟨w.heap.size + 1, 0, none⟩ = some (.int .i64 n') := by rw [hc1 _ _ (by first | assumption | (simp; try omega) | omega)]; first | assumption | go_keep
          have c13 : w1.cell? ⟨w.heap.size + 1, 1, none⟩ = some (.int .i64 d') := by rw [hc1 _ _ (by first | assumption | (simp; try omega) | omega)]; first | assumption | go_keep
          clear hc1 hf1
          go_wp2_with fail
          refine (validF n' d' _ hn1' hn2' hd1' hd2').mono ?_
          rintro e w2 ⟨rfl, hb2⟩
          rw [HB.out]
          obtain ⟨hc2, hf2⟩ := bcell hb2
          have hs2 : w.heap.size + 1 < w2.heap.size := by have := hb2.size; (try simp at this); omega
          have c20 : w2.cell? ⟨w.heap.size, 0, none⟩ = some (.int .i64 n) := by rw [hc2 _ _ (by first | assumption | (simp; try omega) | omega)]; first | assumption | go_keep
          have c21 : w2.cell? ⟨w.heap.size, 1, none⟩ = some (.int .i64 d) := by rw [hc2 _ _ (by first | assumption | (simp; try omega) | omega)]; first | assumption | go_keep
          have c22 : w2.cell? ⟨w.heap.size + 1, 0, none⟩ = some (.int .i64 n') := by rw [hc2 _ _ (by first | assumption | (simp; try omega) | omega)]; first | assumption | go_keep
          have c23 : w2.cell? ⟨w.heap.size + 1, 1, none⟩ = some (.int .i64 d') := by rw [hc2 _ _ (by first | assumption | (simp; try omega) | omega)]; first | assumption | go_keep
          clear hc2 hf2
          clear c10 c11 c12 c13
          go_wp2_with fail
          refine (smallF n d _).mono ?_
          rintro e w3 ⟨rfl, hb3⟩
          rw [KA.out]
          obtain ⟨hc3, hf3⟩ := bcell hb3
          have hs3 : w.heap.size + 1 < w3.heap.size := by have := hb3.size; (try simp at this); omega
          have c30 : w3.cell? ⟨w.heap.size, 0, none⟩ = some (.int .i64 n) := by rw [hc3 _ _ (by first | assumption | (simp; try omega) | omega)]; first | assumption | go_keep
          have c31 : w3.cell? ⟨w.heap.size, 1, none⟩ = some (.int .i64 d) := by rw [hc3 _ _ (by first | assumption | (simp; try omega) | omega)]; first | assumption | go_keep
          have c32 : w3.cell? ⟨w.heap.size + 1, 0, none⟩ = some (.int .i64 n') := by rw [hc3 _ _ (by first | assumption | (simp; try omega) | omega)]; first | assumption | go_keep
          have c33 : w3.cell? ⟨w.heap.size + 1, 1, none⟩ = some (.int .i64 d') := by rw [hc3 _ _ (by first | assumption | (simp; try omega) | omega)]; first | assumption | go_keep
          clear hc3 hf3
          clear c20 c21 c22 c23
          go_wp2_with fail
          refine (smallF n' d' _).mono ?_
          rintro e w4 ⟨rfl, hb4⟩
          rw [KB.out]
          obtain ⟨hc4, hf4⟩ := bcell hb4
          have hs4 : w.heap.size + 1 < w4.heap.size := by have := hb4.size; (try simp at this); omega
          have c40 : w4.cell? ⟨w.heap.size, 0, none⟩ = some (.int .i64 n) := by rw [hc4 _ _ (by first | assumption | (simp; try omega) | omega)]; first | assumption | go_keep
          have c41 : w4.cell? ⟨w.heap.size, 1, none⟩ = some (.int .i64 d) := by rw [hc4 _ _ (by first | assumption | (simp; try omega) | omega)]; first | assumption | go_keep
          have c42 : w4.cell? ⟨w.heap.size + 1, 0, none⟩ = some (.int .i64 n') := by rw [hc4 _ _ (by first | assumption | (simp; try omega) | omega)]; first | assumption | go_keep
          have c43 : w4.cell? ⟨w.heap.size + 1, 1, none⟩ = some (.int .i64 d') := by rw [hc4 _ _ (by first | assumption | (simp; try omega) | omega)]; first | assumption | go_keep
          clear hc4 hf4
          clear c30 c31 c32 c33
          have m1 := IntWalk.i64_in _ P1.out
          have m2 := IntWalk.i64_in _ P2.out
          go_wp2_with fail
          refine (cmpI64 _ _ _).mono ?_
          rintro e w5 ⟨rfl, hd5⟩
          have hb5 := drb hd5
          obtain ⟨z, hz⟩ : ∃ z, z = cmpi (n * d') (n' * d) := ⟨_, rfl⟩
          have HZ := Lib.hid hz
          rw [← hz]
          clear hz m1 m2
          go_wp2
          go_ret
          exact ⟨by rw [← HZ.out]; rfl, by (repeat (first | assumption | with_reducible exact Below.refl _ _ | with_reducible refine Below.drew ?_ | with_reducible refine Below.al ?_ _ | with_reducible refine Below.next ?_ (by assumption)))⟩
        · have KB : Hid (decide (Small n' d') = false) := Lib.hid (by simpa using hsb)
          clear hsa hsb
          unfold fracv
          go_enter Tryz.func91, Tryz.ntmps91
          go_wp2_with fail
          refine (validF n d _ hn1 hn2 hd1 hd2).mono ?_
          rintro e w1 ⟨rfl, hb1⟩
          rw [HA.out]
          obtain ⟨hc1, hf1⟩ := bcell hb1
          have hs1 : w.heap.size + 1 < w1.heap.size := by have := hb1.size; (try simp at this); omega
          have c10 : w1.cell? ⟨w.heap.size, 0, none⟩ = some (.int .i64 n) := by rw [hc1 _ _ (by first | assumption | (simp; try omega) | omega)]; first | assumption | go_keep
          have c11 : w1.cell? ⟨w.heap.size, 1, none⟩ = some (.int .i64 d) := by rw [hc1 _ _ (by first | assumption | (simp; try omega) | omega)]; first | assumption | go_keep
          have c12 : w1.cell? ⟨w.heap.size + 1, 0, none⟩ = some (.int .i64 n') := by rw [hc1 _ _ (by first | assumption | (simp; try omega) | omega)]; first | assumption | go_keep
          have c13 : w1.cell? ⟨w.heap.size + 1, 1, none⟩ = some (.int .i64 d') := by rw [hc1 _ _ (by first | assumption | (simp; try omega) | omega)]; first | assumption | go_keep
          clear hc1 hf1
          go_wp2_with fail
          refine (validF n' d' _ hn1' hn2' hd1' hd2').mono ?_
          rintro e w2 ⟨rfl, hb2⟩
          rw [HB.out]
          obtain ⟨hc2, hf2⟩ := bcell hb2
          have hs2 : w.heap.size + 1 < w2.heap.size := by have := hb2.size; (try simp at this); omega
          have c20 : w2.cell? ⟨w.heap.size, 0, none⟩ = some (.int .i64 n) := by rw [hc2 _ _ (by first | assumption | (simp; try omega) | omega)]; first | assumption | go_keep
          have c21 : w2.cell? ⟨w.heap.size, 1, none⟩ = some (.int .i64 d) := by rw [hc2 _ _ (by first | assumption | (simp; try omega) | omega)]; first | assumption | go_keep
          have c22 : w2.cell? ⟨w.heap.size + 1, 0, none⟩ = some (.int .i64 n') := by rw [hc2 _ _ (by first | assumption | (simp; try omega) | omega)]; first | assumption | go_keep
          have c23 : w2.cell? ⟨w.heap.size + 1, 1, none⟩ = some (.int .i64 d') := by rw [hc2 _ _ (by first | assumption | (simp; try omega) | omega)]; first | assumption | go_keep
          clear hc2 hf2
          clear c10 c11 c12 c13
          go_wp2_with fail
          refine (smallF n d _).mono ?_
          rintro e w3 ⟨rfl, hb3⟩
          rw [KA.out]
          obtain ⟨hc3, hf3⟩ := bcell hb3
          have hs3 : w.heap.size + 1 < w3.heap.size := by have := hb3.size; (try simp at this); omega
          have c30 : w3.cell? ⟨w.heap.size, 0, none⟩ = some (.int .i64 n) := by rw [hc3 _ _ (by first | assumption | (simp; try omega) | omega)]; first | assumption | go_keep
          have c31 : w3.cell? ⟨w.heap.size, 1, none⟩ = some (.int .i64 d) := by rw [hc3 _ _ (by first | assumption | (simp; try omega) | omega)]; first | assumption | go_keep
          have c32 : w3.cell? ⟨w.heap.size + 1, 0, none⟩ = some (.int .i64 n') := by rw [hc3 _ _ (by first | assumption | (simp; try omega) | omega)]; first | assumption | go_keep
          have c33 : w3.cell? ⟨w.heap.size + 1, 1, none⟩ = some (.int .i64 d') := by rw [hc3 _ _ (by first | assumption | (simp; try omega) | omega)]; first | assumption | go_keep
          clear hc3 hf3
          clear c20 c21 c22 c23
          go_wp2_with fail
          refine (smallF n' d' _).mono ?_
          rintro e w4 ⟨rfl, hb4⟩
          rw [KB.out]
          obtain ⟨hc4, hf4⟩ := bcell hb4
          have hs4 : w.heap.size + 1 < w4.heap.size := by have := hb4.size; (try simp at this); omega
          have c40 : w4.cell? ⟨w.heap.size, 0, none⟩ = some (.int .i64 n) := by rw [hc4 _ _ (by first | assumption | (simp; try omega) | omega)]; first | assumption | go_keep
          have c41 : w4.cell? ⟨w.heap.size, 1, none⟩ = some (.int .i64 d) := by rw [hc4 _ _ (by first | assumption | (simp; try omega) | omega)]; first | assumption | go_keep
          have c42 : w4.cell? ⟨w.heap.size + 1, 0, none⟩ = some (.int .i64 n') := by rw [hc4 _ _ (by first | assumption | (simp; try omega) | omega)]; first | assumption | go_keep
          have c43 : w4.cell? ⟨w.heap.size + 1, 1, none⟩ = some (.int .i64 d') := by rw [hc4 _ _ (by first | assumption | (simp; try omega) | omega)]; first | assumption | go_keep
          clear hc4 hf4
          clear c30 c31 c32 c33
          go_wp2_with fail
          go_region_held3 (fun w' => w'.cell? ⟨w.heap.size, 0, none⟩ = some (.int .i64 n) ∧ w'.cell? ⟨w.heap.size, 1, none⟩ = some (.int .i64 d) ∧ w'.cell? ⟨w.heap.size + 1, 0, none⟩ = some (.int .i64 n') ∧ w'.cell? ⟨w.heap.size + 1, 1, none⟩ = some (.int .i64 d'))
            (first | (go_split_ands; exact ⟨by assumption, by assumption, by assumption, by assumption⟩) | (go_keep; done))
            ((first
              | (go_at_call 84; with_reducible refine (fromV n d r _ HR.out).mono ?_
                 rintro e w5 ⟨v5, rfl, hv5, hb5⟩
                 obtain ⟨hc5, hf5⟩ := bcell hb5
                 have hs5 : w.heap.size + 1 < w5.heap.size := by have := hb5.size; (try simp at this); omega
                 have c50 : w5.cell? ⟨w.heap.size, 0, none⟩ = some (.int .i64 n) := by rw [hc5 _ _ (by first | assumption | (simp; try omega) | omega)]; first | assumption | go_keep
                 have c51 : w5.cell? ⟨w.heap.size, 1, none⟩ = some (.int .i64 d) := by rw [hc5 _ _ (by first | assumption | (simp; try omega) | omega)]; first | assumption | go_keep
                 have c52 : w5.cell? ⟨w.heap.size + 1, 0, none⟩ = some (.int .i64 n') := by rw [hc5 _ _ (by first | assumption | (simp; try omega) | omega)]; first | assumption | go_keep
                 have c53 : w5.cell? ⟨w.heap.size + 1, 1, none⟩ = some (.int .i64 d') := by rw [hc5 _ _ (by first | assumption | (simp; try omega) | omega)]; first | assumption | go_keep
                 clear hc5 hf5)
              | (go_at_call 84; with_reducible refine (fromV n' d' s _ HS.out).mono ?_
                 rintro e w6 ⟨v6, rfl, hv6, hb6⟩
                 obtain ⟨hc6, hf6⟩ := bcell hb6
                 have hs6 : w.heap.size + 1 < w6.heap.size := by have := hb6.size; (try simp at this); omega
                 have c60 : w6.cell? ⟨w.heap.size, 0, none⟩ = some (.int .i64 n) := by rw [hc6 _ _ (by first | assumption | (simp; try omega) | omega)]; first | assumption | go_keep
                 have c61 : w6.cell? ⟨w.heap.size, 1, none⟩ = some (.int .i64 d) := by rw [hc6 _ _ (by first | assumption | (simp; try omega) | omega)]; first | assumption | go_keep
                 have c62 : w6.cell? ⟨w.heap.size + 1, 0, none⟩ = some (.int .i64 n') := by rw [hc6 _ _ (by first | assumption | (simp; try omega) | omega)]; first | assumption | go_keep
                 have c63 : w6.cell? ⟨w.heap.size + 1, 1, none⟩ = some (.int .i64 d') := by rw [hc6 _ _ (by first | assumption | (simp; try omega) | omega)]; first | assumption | go_keep
                 clear hc6 hf6)
              | (go_at_call 86; with_reducible refine (cmpE v5 v6 r s 2 _ ?_ hv6 (by omega)).mono ?_
                 · exact hv5.kept hb6
                 rintro e w7 ⟨rfl, hb7⟩
                 obtain ⟨hc7, hf7⟩ := bcell hb7
                 have hs7 : w.heap.size + 1 < w7.heap.size := by have := hb7.size; (try simp at this); omega
                 have c70 : w7.cell? ⟨w.heap.size, 0, none⟩ = some (.int .i64 n) := by rw [hc7 _ _ (by first | assumption | (simp; try omega) | omega)]; first | assumption | go_keep
                 have c71 : w7.cell? ⟨w.heap.size, 1, none⟩ = some (.int .i64 d) := by rw [hc7 _ _ (by first | assumption | (simp; try omega) | omega)]; first | assumption | go_keep
                 have c72 : w7.cell? ⟨w.heap.size + 1, 0, none⟩ = some (.int .i64 n') := by rw [hc7 _ _ (by first | assumption | (simp; try omega) | omega)]; first | assumption | go_keep
                 have c73 : w7.cell? ⟨w.heap.size + 1, 1, none⟩ = some (.int .i64 d') := by rw [hc7 _ _ (by first | assumption | (simp; try omega) | omega)]; first | assumption | go_keep
                 clear hc7 hf7)))
          all_goals rw [HC.out]
          all_goals go_wp2
          all_goals go_ret
          all_goals exact ⟨rfl, by (repeat (first | assumption | with_reducible exact Below.refl _ _ | with_reducible refine Below.drew ?_ | with_reducible refine Below.al ?_ _ | with_reducible refine Below.next ?_ (by assumption)))⟩
      · have KA : Hid (decide (Small n d) = false) := Lib.hid (by simpa using hsa)
        clear hsa
        unfold fracv
        go_enter Tryz.func91, Tryz.ntmps91
        go_wp2_with fail
        refine (validF n d _ hn1 hn2 hd1 hd2).mono ?_
        rintro e w1 ⟨rfl, hb1⟩
        rw [HA.out]
        obtain ⟨hc1, hf1⟩ := bcell hb1
        have hs1 : w.heap.size + 1 < w1.heap.size := by have := hb1.size; (try simp at this); omega
        have c10 : w1.cell? ⟨w.heap.size, 0, none⟩ = some (.int .i64 n) := by rw [hc1 _ _ (by first | assumption | (simp; try omega) | omega)]; first | assumption | go_keep
        have c11 : w1.cell? ⟨w.heap.size, 1, none⟩ = some (.int .i64 d) := by rw [hc1 _ _ (by first | assumption | (simp; try omega) | omega)]; first | assumption | go_keep
        have c12 : w1.cell? ⟨w.heap.size + 1, 0, none⟩ = some (.int .i64 n') := by rw [hc1 _ _ (by first | assumption | (simp; try omega) | omega)]; first | assumption | go_keep
        have c13 : w1.cell? ⟨w.heap.size + 1, 1, none⟩ = some (.int .i64 d') := by rw [hc1 _ _ (by first | assumption | (simp; try omega) | omega)]; first | assumption | go_keep
        clear hc1 hf1
        go_wp2_with fail
        refine (validF n' d' _ hn1' hn2' hd1' hd2').mono ?_
        rintro e w2 ⟨rfl, hb2⟩
        rw [HB.out]
        obtain ⟨hc2, hf2⟩ := bcell hb2
        have hs2 : w.heap.size + 1 < w2.heap.size := by have := hb2.size; (try simp at this); omega
        have c20 : w2.cell? ⟨w.heap.size, 0, none⟩ = some (.int .i64 n) := by rw [hc2 _ _ (by first | assumption | (simp; try omega) | omega)]; first | assumption | go_keep
        have c21 : w2.cell? ⟨w.heap.size, 1, none⟩ = some (.int .i64 d) := by rw [hc2 _ _ (by first | assumption | (simp; try omega) | omega)]; first | assumption | go_keep
        have c22 : w2.cell? ⟨w.heap.size + 1, 0, none⟩ = some (.int .i64 n') := by rw [hc2 _ _ (by first | assumption | (simp; try omega) | omega)]; first | assumption | go_keep
        have c23 : w2.cell? ⟨w.heap.size + 1, 1, none⟩ = some (.int .i64 d') := by rw [hc2 _ _ (by first | assumption | (simp; try omega) | omega)]; first | assumption | go_keep
        clear hc2 hf2
        clear c10 c11 c12 c13
        go_wp2_with fail
        refine (smallF n d _).mono ?_
        rintro e w3 ⟨rfl, hb3⟩
        rw [KA.out]
        obtain ⟨hc3, hf3⟩ := bcell hb3
        have hs3 : w.heap.size + 1 < w3.heap.size := by have := hb3.size; (try simp at this); omega
        have c30 : w3.cell? ⟨w.heap.size, 0, none⟩ = some (.int .i64 n) := by rw [hc3 _ _ (by first | assumption | (simp; try omega) | omega)]; first | assumption | go_keep
        have c31 : w3.cell? ⟨w.heap.size, 1, none⟩ = some (.int .i64 d) := by rw [hc3 _ _ (by first | assumption | (simp; try omega) | omega)]; first | assumption | go_keep
        have c32 : w3.cell? ⟨w.heap.size + 1, 0, none⟩ = some (.int .i64 n') := by rw [hc3 _ _ (by first | assumption | (simp; try omega) | omega)]; first | assumption | go_keep
        have c33 : w3.cell? ⟨w.heap.size + 1, 1, none⟩ = some (.int .i64 d') := by rw [hc3 _ _ (by first | assumption | (simp; try omega) | omega)]; first | assumption | go_keep
        clear hc3 hf3
        clear c20 c21 c22 c23
        go_wp2_with fail
        go_region_held3 (fun w' => w'.cell? ⟨w.heap.size, 0, none⟩ = some (.int .i64 n) ∧ w'.cell? ⟨w.heap.size, 1, none⟩ = some (.int .i64 d) ∧ w'.cell? ⟨w.heap.size + 1, 0, none⟩ = some (.int .i64 n') ∧ w'.cell? ⟨w.heap.size + 1, 1, none⟩ = some (.int .i64 d'))
          (first | (go_split_ands; exact ⟨by assumption, by assumption, by assumption, by assumption⟩) | (go_keep; done))
          ((first
            | (go_at_call 84; with_reducible refine (fromV n d r _ HR.out).mono ?_
               rintro e w5 ⟨v5, rfl, hv5, hb5⟩
               obtain ⟨hc5, hf5⟩ := bcell hb5
               have hs5 : w.heap.size + 1 < w5.heap.size := by have := hb5.size; (try simp at this); omega
               have c50 : w5.cell? ⟨w.heap.size, 0, none⟩ = some (.int .i64 n) := by rw [hc5 _ _ (by first | assumption | (simp; try omega) | omega)]; first | assumption | go_keep
               have c51 : w5.cell? ⟨w.heap.size, 1, none⟩ = some (.int .i64 d) := by rw [hc5 _ _ (by first | assumption | (simp; try omega) | omega)]; first | assumption | go_keep
               have c52 : w5.cell? ⟨w.heap.size + 1, 0, none⟩ = some (.int .i64 n') := by rw [hc5 _ _ (by first | assumption | (simp; try omega) | omega)]; first | assumption | go_keep
               have c53 : w5.cell? ⟨w.heap.size + 1, 1, none⟩ = some (.int .i64 d') := by rw [hc5 _ _ (by first | assumption | (simp; try omega) | omega)]; first | assumption | go_keep
               clear hc5 hf5)
            | (go_at_call 84; with_reducible refine (fromV n' d' s _ HS.out).mono ?_
               rintro e w6 ⟨v6, rfl, hv6, hb6⟩
               obtain ⟨hc6, hf6⟩ := bcell hb6
               have hs6 : w.heap.size + 1 < w6.heap.size := by have := hb6.size; (try simp at this); omega
               have c60 : w6.cell? ⟨w.heap.size, 0, none⟩ = some (.int .i64 n) := by rw [hc6 _ _ (by first | assumption | (simp; try omega) | omega)]; first | assumption | go_keep
               have c61 : w6.cell? ⟨w.heap.size, 1, none⟩ = some (.int .i64 d) := by rw [hc6 _ _ (by first | assumption | (simp; try omega) | omega)]; first | assumption | go_keep
               have c62 : w6.cell? ⟨w.heap.size + 1, 0, none⟩ = some (.int .i64 n') := by rw [hc6 _ _ (by first | assumption | (simp; try omega) | omega)]; first | assumption | go_keep
               have c63 : w6.cell? ⟨w.heap.size + 1, 1, none⟩ = some (.int .i64 d') := by rw [hc6 _ _ (by first | assumption | (simp; try omega) | omega)]; first | assumption | go_keep
               clear hc6 hf6)
            | (go_at_call 86; with_reducible refine (cmpE v5 v6 r s 2 _ ?_ hv6 (by omega)).mono ?_
               · exact hv5.kept hb6
               rintro e w7 ⟨rfl, hb7⟩
               obtain ⟨hc7, hf7⟩ := bcell hb7
               have hs7 : w.heap.size + 1 < w7.heap.size := by have := hb7.size; (try simp at this); omega
               have c70 : w7.cell? ⟨w.heap.size, 0, none⟩ = some (.int .i64 n) := by rw [hc7 _ _ (by first | assumption | (simp; try omega) | omega)]; first | assumption | go_keep
               have c71 : w7.cell? ⟨w.heap.size, 1, none⟩ = some (.int .i64 d) := by rw [hc7 _ _ (by first | assumption | (simp; try omega) | omega)]; first | assumption | go_keep
               have c72 : w7.cell? ⟨w.heap.size + 1, 0, none⟩ = some (.int .i64 n') := by rw [hc7 _ _ (by first | assumption | (simp; try omega) | omega)]; first | assumption | go_keep
               have c73 : w7.cell? ⟨w.heap.size + 1, 1, none⟩ = some (.int .i64 d') := by rw [hc7 _ _ (by first | assumption | (simp; try omega) | omega)]; first | assumption | go_keep
               clear hc7 hf7)))
        all_goals rw [HC.out]
        all_goals go_wp2
        all_goals go_ret
        all_goals exact ⟨rfl, by (repeat (first | assumption | with_reducible exact Below.refl _ _ | with_reducible refine Below.drew ?_ | with_reducible refine Below.al ?_ _ | with_reducible refine Below.next ?_ (by assumption)))⟩
    · have HB : Hid (decide (IsFrac n' d') = false) := Lib.hid (by simpa using hb)
      have HC : Hid (compv n d n' d' = 0) := Lib.hid (by unfold compv; rw [if_neg (by simp [hb])])
      rw [HC.out]
      clear ha hb HC
      unfold fracv
      go_enter Tryz.func91, Tryz.ntmps91
      go_wp2_with fail
      refine (validF n d _ hn1 hn2 hd1 hd2).mono ?_
      rintro e w1 ⟨rfl, hb1⟩
      rw [HA.out]
      obtain ⟨hc1, hf1⟩ := bcell hb1
      have hs1 : w.heap.size + 1 < w1.heap.size := by have := hb1.size; (try simp at this); omega
      have c10 : w1.cell? ⟨w.heap.size, 0, none⟩ = some (.int .i64 n) := by rw [hc1 _ _ (by first | assumption | (simp; try omega) | omega)]; first | assumption | go_keep
      have c11 : w1.cell? ⟨w.heap.size, 1, none⟩ = some (.int .i64 d) := by rw [hc1 _ _ (by first | assumption | (simp; try omega) | omega)]; first | assumption | go_keep
      have c12 : w1.cell? ⟨w.heap.size + 1, 0, none⟩ = some (.int .i64 n') := by rw [hc1 _ _ (by first | assumption | (simp; try omega) | omega)]; first | assumption | go_keep
      have c13 : w1.cell? ⟨w.heap.size + 1, 1, none⟩ = some (.int .i64 d') := by rw [hc1 _ _ (by first | assumption | (simp; try omega) | omega)]; first | assumption | go_keep
      clear hc1 hf1
      go_wp2_with fail
      refine (validF n' d' _ hn1' hn2' hd1' hd2').mono ?_
      rintro e w2 ⟨rfl, hb2⟩
      rw [HB.out]
      go_wp2
      go_ret
      exact ⟨rfl, by (repeat (first | assumption | with_reducible exact Below.refl _ _ | with_reducible refine Below.drew ?_ | with_reducible refine Below.al ?_ _ | with_reducible refine Below.next ?_ (by assumption)))⟩
  · have HA : Hid (decide (IsFrac n d) = false) := Lib.hid (by simpa using ha)
    have HC : Hid (compv n d n' d' = 0) := Lib.hid (by unfold compv; rw [if_neg (by simp [ha])])
    rw [HC.out]
    clear ha HC
    unfold fracv
    go_enter Tryz.func91, Tryz.ntmps91
    go_wp2_with fail
    refine (validF n d _ hn1 hn2 hd1 hd2).mono ?_
    rintro e w1 ⟨rfl, hb1⟩
    rw [HA.out]
    go_wp2
    go_ret
    exact ⟨rfl, by (repeat (first | assumption | with_reducible exact Below.refl _ _ | with_reducible refine Below.drew ?_ | with_reducible refine Below.al ?_ _ | with_reducible refine Below.next ?_ (by assumption)))⟩
end Go.Proofs.YtajpdnphamomjaaGreat
