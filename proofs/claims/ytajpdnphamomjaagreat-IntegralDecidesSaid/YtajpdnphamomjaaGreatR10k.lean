/- The reference of layer 10: Valid, Fit. -/
import Derived.Test.YtajpdnphamomjaaGreatR10j
namespace Go.Proofs.YtajpdnphamomjaaGreat
open Go.RowKit Go.Q Go.Q.Num

/-- a fraction that may be valid, as a value -/
def fracv (n d : Int) : Value := .agg #[.int .i64 n, .int .i64 d]
/-- the fractions that are valid -/
def IsFrac (n d : Int) : Prop := 1 ≤ d ∧ d ≤ 100000000000000000 ∧ -100000000000000000 ≤ n ∧ n ≤ 100000000000000000 ∧ Nat.gcd n.natAbs d.natAbs = 1
instance (n d : Int) : Decidable (IsFrac n d) := inferInstanceAs (Decidable (_ ∧ _))
def QBool (b : Bool) (w : World) (e : Ending) (w' : World) : Prop := e = .returned (.bool b) ∧ Below w.heap.size w w'

theorem drb {w w' : World} (h : Dr w w') : Below w.heap.size w w' := h.below
theorem Below.next {w x w' : World} (h : Below w.heap.size w x) (hb : Below x.heap.size x w') : Below w.heap.size w w' := h.trans (hb.mono h.size)
theorem Below.al {w x : World} (h : Below w.heap.size w x) (o : Obj) : Below w.heap.size w (x.alloc o) := h.alloc h.size o
theorem NumAt.al {B : Nat} {k : IntKind} {w : World} {a : Option Addr} {n c v : Nat} (h : NumAt B k w a n c v) (o : Obj) : NumAt B k (w.alloc o) a n c v := h.kept ((Below.refl _ _).alloc (Nat.le_refl _) _)
theorem NumAt.drew {B : Nat} {k : IntKind} {w : World} {a : Option Addr} {n c v : Nat} (h : NumAt B k w a n c v) : NumAt B k w.drew a n c v := h.kept (Below.refl _ _).drew

set_option maxHeartbeats 1600000 in
theorem valid10 (n d : Int) (w : World) (hn1 : -9223372036854775808 ≤ n) (hn2 : n ≤ 9223372036854775807) (hd1 : -9223372036854775808 ≤ d) (hd2 : d ≤ 9223372036854775807) :
    Calls Tryz.prog 46 #[fracv n d] w (QBool (decide (IsFrac n d)) w) := by
  unfold fracv
  by_cases g1 : 1 ≤ d
  · by_cases g2 : d ≤ 100000000000000000
    · by_cases g3 : -100000000000000000 ≤ n
      · by_cases g4 : n ≤ 100000000000000000
        · have HV : Hid (decide (IsFrac n d) = (cmpn (Nat.gcd n.natAbs d.natAbs) 1 == 0)) := by
            show _ = _
            simp [IsFrac, g1, g2, g3, g4]
            unfold cmpn
            have : 0 < Nat.gcd n.natAbs d.natAbs := Nat.gcd_pos_of_pos_right _ (by omega)
            by_cases h : Nat.gcd n.natAbs d.natAbs = 1
            · simp [h]
            · rw [if_neg (by omega), if_pos (by omega)]; simp [h]
          go_enter Tryz.func46, Tryz.ntmps46
          go_wp2
          go_region_held3 (fun w' => w'.cell? ⟨w.heap.size, 0, none⟩ = some (.int .i64 n) ∧ w'.cell? ⟨w.heap.size, 1, none⟩ = some (.int .i64 d))
            (first | (go_split_ands; exact ⟨by assumption, by assumption⟩) | (go_split_ands; refine ⟨?_, ?_⟩ <;> (rw [far1 _ _ _ _ _ (by omega)]; assumption)) | (go_keep; done))
            ((first
              | (go_at_call 71; with_reducible refine (of10 n _ (by omega) (by omega)).mono ?_
                 rintro e w1 ⟨xa, xn, xc, rfl, hxv, hxn, hb1, _⟩
                 obtain ⟨hc1, hf1⟩ := bcell hb1
                 have hs1 : w.heap.size < w1.heap.size := by have := hb1.size; simp at this; omega
                 have c10 : w1.cell? ⟨w.heap.size, 0, none⟩ = some (.int .i64 n) := by rw [hc1 _ _ (by simp; try omega)]; go_keep
                 have c11 : w1.cell? ⟨w.heap.size, 1, none⟩ = some (.int .i64 d) := by rw [hc1 _ _ (by simp; try omega)]; go_keep
                 clear hc1 hf1)
              | (go_at_call 71; with_reducible refine (of10 d _ (by omega) (by omega)).mono ?_
                 rintro e w2 ⟨ya, yn, yc, rfl, hyv, hyn, hb2, _⟩
                 obtain ⟨hc2, hf2⟩ := bcell hb2
                 have hs2 : w.heap.size < w2.heap.size := by have := hb2.size; (try simp at this); omega
                 have c20 : w2.cell? ⟨w.heap.size, 0, none⟩ = some (.int .i64 n) := by rw [hc2 _ _ (by first | assumption | (simp; omega))]; first | assumption | go_keep
                 have c21 : w2.cell? ⟨w.heap.size, 1, none⟩ = some (.int .i64 d) := by rw [hc2 _ _ (by first | assumption | (simp; omega))]; first | assumption | go_keep
                 clear hc2 hf2)
              | (go_at_call 70; with_reducible refine (gcd10 xa ya xn yn xc yc n.natAbs d.natAbs _ ?_ ?_ (by omega) (by omega)).mono ?_
                 · (repeat (first | assumption | exact one10 _ | exact oneAt _ _ (by simp; done) | with_reducible refine NumAt.drew ?_ | with_reducible refine NumAt.al ?_ _ | with_reducible refine NumAt.kept ?_ (by assumption)))
                 · (repeat (first | assumption | exact one10 _ | exact oneAt _ _ (by simp; done) | with_reducible refine NumAt.drew ?_ | with_reducible refine NumAt.al ?_ _ | with_reducible refine NumAt.kept ?_ (by assumption)))
                 rintro e w3 ⟨ga, gn, gc, rfl, hgv, hgn, hb3⟩
                 obtain ⟨hc3, hf3⟩ := bcell hb3
                 have hs3 : w.heap.size < w3.heap.size := by have := hb3.size; (try simp at this); omega
                 have c30 : w3.cell? ⟨w.heap.size, 0, none⟩ = some (.int .i64 n) := by rw [hc3 _ _ (by first | assumption | (simp; omega))]; first | assumption | go_keep
                 have c31 : w3.cell? ⟨w.heap.size, 1, none⟩ = some (.int .i64 d) := by rw [hc3 _ _ (by first | assumption | (simp; omega))]; first | assumption | go_keep
                 clear hc3 hf3)
              | (go_at_call 69; with_reducible refine (compare10 ga _ gn 1 gc 1 (Nat.gcd n.natAbs d.natAbs) 1 _ ?_ ?_).mono ?_
                 · (repeat (first | assumption | exact one10 _ | exact oneAt _ _ (by simp; done) | with_reducible refine NumAt.drew ?_ | with_reducible refine NumAt.al ?_ _ | with_reducible refine NumAt.kept ?_ (by assumption)))
                 · (repeat (first | assumption | exact one10 _ | exact oneAt _ _ (by simp; done) | with_reducible refine NumAt.drew ?_ | with_reducible refine NumAt.al ?_ _ | with_reducible refine NumAt.kept ?_ (by assumption)))
                 rintro e w4 ⟨rfl, hd4⟩
                 have hb4 := drb hd4
                 obtain ⟨hc4, hf4⟩ := bcell hb4
                 have c40 : w4.cell? ⟨w.heap.size, 0, none⟩ = some (.int .i64 n) := by rw [hc4 _ _ (by first | assumption | (simp; omega))]; first | assumption | go_keep
                 have c41 : w4.cell? ⟨w.heap.size, 1, none⟩ = some (.int .i64 d) := by rw [hc4 _ _ (by first | assumption | (simp; omega))]; first | assumption | go_keep
                 clear hc4 hf4)))
          all_goals go_wp2
          all_goals go_ret
          all_goals exact ⟨by rw [HV.out]; rfl, by (repeat (first | assumption | with_reducible exact Below.refl _ _ | with_reducible refine Below.drew ?_ | with_reducible refine Below.al ?_ _ | with_reducible refine Below.next ?_ (by assumption)))⟩
        · have HV : Hid (decide (IsFrac n d) = false) := by show _ = _; simp [IsFrac, g4]
          have g1' : decide (1 ≤ d) = true := by simpa using g1
          have g2' : decide (d ≤ 100000000000000000) = true := by simpa using g2
          have g3' : decide (-100000000000000000 ≤ n) = true := by simpa using g3
          have g4' : decide (n ≤ 100000000000000000) = false := by simpa using g4
          clear g1 g2 g3 g4
          go_enter Tryz.func46, Tryz.ntmps46
          go_wp2
          go_quiet (fail)
          all_goals go_wp2
          go_ret
          exact ⟨by rw [HV.out]; rfl, below_drewN (Below.al (Below.refl _ _) _) _⟩
      · have HV : Hid (decide (IsFrac n d) = false) := by show _ = _; simp [IsFrac, g3]
        have g1' : decide (1 ≤ d) = true := by simpa using g1
        have g2' : decide (d ≤ 100000000000000000) = true := by simpa using g2
        have g3' : decide (-100000000000000000 ≤ n) = false := by simpa using g3
        clear g1 g2 g3
        go_enter Tryz.func46, Tryz.ntmps46
        go_wp2
        go_quiet (fail)
        all_goals go_wp2
        go_ret
        exact ⟨by rw [HV.out]; rfl, below_drewN (Below.al (Below.refl _ _) _) _⟩
    · have HV : Hid (decide (IsFrac n d) = false) := by show _ = _; simp [IsFrac, g2]
      have g1' : decide (1 ≤ d) = true := by simpa using g1
      have g2' : decide (d ≤ 100000000000000000) = false := by simpa using g2
      clear g1 g2
      go_enter Tryz.func46, Tryz.ntmps46
      go_wp2
      go_quiet (fail)
      all_goals go_wp2
      go_ret
      exact ⟨by rw [HV.out]; rfl, below_drewN (Below.al (Below.refl _ _) _) _⟩
  · have HV : Hid (decide (IsFrac n d) = false) := by show _ = _; simp [IsFrac, g1]
    have g1' : decide (1 ≤ d) = false := by simpa using g1
    clear g1
    go_enter Tryz.func46, Tryz.ntmps46
    go_wp2
    go_quiet (fail)
    all_goals go_wp2
    go_ret
    exact ⟨by rw [HV.out]; rfl, below_drewN (Below.al (Below.refl _ _) _) _⟩
end Go.Proofs.YtajpdnphamomjaaGreat
