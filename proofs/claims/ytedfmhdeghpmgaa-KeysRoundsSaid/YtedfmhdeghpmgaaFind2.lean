import Derived.Test.YtedfmhdeghpmgaaFind
namespace Go.Proofs.Ytedfmhdeghpmgaa
open Go.RowKit Go.Q

set_option maxHeartbeats 400000 in
theorem find17 (a0 : Option Addr) (n c : Nat) (l : List Int) (m : Int) (w : World) (hs : Sl w a0 n 1 (ints .i64 l)) (hn2 : n ≤ 200) :
    Calls Try.prog 17 #[.slice a0 n c, .int .i64 m] w (QFind l m w) := by
  have HL := Lib.hid hs.int
  obtain ⟨er, her⟩ : ∃ er, er = offsErr l := ⟨_, rfl⟩
  have HE := Lib.hid her
  obtain ⟨ol, hol⟩ : ∃ ol, ol = offsList l := ⟨_, rfl⟩
  have HO := Lib.hid hol
  by_cases h0 : er = 0
  · have HZ := Lib.hid h0
    have hb0 : (er != 0) = false := by simpa using h0
    have HOP : Hid (ol = psums l) := by rw [hol]; unfold offsList; rw [← her, if_pos h0]; rfl
    obtain ⟨hnn, hsum⟩ := offs0_nonneg (l := l) (by rw [← her]; exact h0)
    have HN := Lib.hid hnn
    obtain ⟨T, hT⟩ : ∃ T, T = l.sum := ⟨_, rfl⟩
    have HT := Lib.hid hT
    rw [← hT] at hsum
    have HTL : Hid ((psums l)[n]? = some T) := by rw [hT, psums_at (by rw [HL.out]; omega), pre_last HL.out]; rfl
    clear h0 her hol hnn hT
    go_enter Try.func17, Try.ntmps17
    go_wp2_with fail
    refine (offs15 _ _ _ _ _ hs hn2).mono ?_
    rintro e wa ⟨a1, n1, c1, rfl, hs1, hb1⟩
    rw [← HE.out]
    rw [← HO.out, HOP.out] at hs1
    obtain rfl : n + 1 = n1 := by have := hs1.int; rw [psums_len] at this; have := HL.out; omega
    by_cases hm0 : m < 0
    · go_wp2
      go_ret3
      exact find_no (by omega) hb1
    obtain ⟨ad, y, rfl, hc, hy, _⟩ := hs1.get (i := n) (by omega)
    obtain rfl : y = T := by have h1 := hy.out; rw [HTL.out] at h1; simpa using h1.symm
    by_cases hmT : y ≤ m
    · go_wp2
      go_ret3
      exact find_no (by have := HT.out; omega) hb1
    · go_wp2_with fail
      refine (bs21 _ _ _ _ _ _ hs1 (by omega) (psums_asc HN.out)).mono ?_
      rintro e wb ⟨k, b, rfl, hk, hlo, hhi, hd⟩
      have HLo := Lib.hid hlo
      have HHi := Lib.hid hhi
      have hk1 : 1 ≤ k := by
        rcases Nat.eq_zero_or_pos k with rfl | h
        · have := hhi 0 0 (by omega) (by rw [psums_at (by omega), pre_zero]); omega
        · omega
      have hk2 : k ≤ n := by
        by_cases h : k ≤ n
        · exact h
        · have := hlo n y (by omega) HTL.out; omega
      clear hlo hhi hk
      obtain ⟨i, rfl⟩ : ∃ i, k = i + 1 := ⟨k - 1, by omega⟩
      obtain ⟨ad', x, had, hc', hx, _⟩ := (hs1.dr hd).get (i := i) (by omega)
      cases had
      have HX : Hid (x = pre l i) := Lib.hid (psums_get hx.out).2
      have hx1 : x < m + 1 := HLo.out i x (by omega) hx.out
      have HX2 : Hid (m + 1 ≤ pre l (i + 1)) := Lib.hid (HHi.out (i + 1) (pre l (i + 1)) (by omega) (psums_at (by rw [HL.out]; omega)))
      have hx0 : 0 ≤ x := by rw [HX.out, ← pre_zero l]; exact pre_le HN.out (by omega)
      go_wp2
      go_quiet (fail)
      go_wp2
      go_ret3
      exact ⟨i, m - x, true, by go_num, .inr ⟨rfl, by rw [← HE.out]; exact HZ.out, i, by rw [HL.out]; omega, rfl, by rw [← HX.out]; omega, by have := HX2.out; omega, by rw [HX.out]⟩, hb1.trans ((Below.dr (Dr.below hd) ((Dr.refl _).drewN _)).mono hb1.size)⟩
  · have hb0 : (er != 0) = true := by simpa using h0
    have HZ := Lib.hid h0
    clear h0 her hol
    go_enter Try.func17, Try.ntmps17
    go_wp2_with fail
    refine (offs15 _ _ _ _ _ hs hn2).mono ?_
    rintro e wa ⟨a1, n1, c1, rfl, hs1, hb1⟩
    rw [← HE.out]
    go_wp2
    go_ret3
    exact find_no (by rw [← HE.out]; exact fun h => HZ.out h.1) hb1

theorem not_succ {l : List Int} {m : Int} {k : Nat} (h : ∀ i, i < k → ¬ (pre l i ≤ m ∧ m < pre l (i + 1))) (hk : ¬ (pre l k ≤ m ∧ m < pre l (k + 1))) : ∀ i, i < k + 1 → ¬ (pre l i ≤ m ∧ m < pre l (i + 1)) := by
  intro i hi hh
  rcases Nat.lt_or_ge i k with h1 | h1
  · exact h i h1 hh
  · obtain rfl : i = k := by omega
    exact hk hh
theorem none_found {l : List Int} {m : Int} {k : Nat} (h : ∀ i, i < k → ¬ (pre l i ≤ m ∧ m < pre l (i + 1))) (h0 : 0 ≤ m) : pre l k ≤ m := by
  induction k with
  | zero => rw [pre_zero]; exact h0
  | succ k ih =>
    have h1 := ih (fun i hi => h i (by omega))
    have h2 := h k (by omega)
    omega

set_option maxHeartbeats 400000 in
theorem find18 (a0 : Option Addr) (n c : Nat) (l : List Int) (m : Int) (w : World) (hs : Sl w a0 n 1 (ints .i64 l)) (hn2 : n ≤ 200) :
    Calls Try.prog 18 #[.slice a0 n c, .int .i64 m] w (QFind l m w) := by
  have HL := Lib.hid hs.int
  obtain ⟨er, her⟩ : ∃ er, er = offsErr l := ⟨_, rfl⟩
  have HE := Lib.hid her
  obtain ⟨ol, hol⟩ : ∃ ol, ol = offsList l := ⟨_, rfl⟩
  have HO := Lib.hid hol
  by_cases h0 : er = 0
  · have HZ := Lib.hid h0
    have hb0 : (er != 0) = false := by simpa using h0
    have HOP : Hid (ol = psums l) := by rw [hol]; unfold offsList; rw [← her, if_pos h0]; rfl
    obtain ⟨hnn, hsum⟩ := offs0_nonneg (l := l) (by rw [← her]; exact h0)
    have HN := Lib.hid hnn
    clear h0 her hol hnn hsum
    go_enter Try.func18, Try.ntmps18
    go_wp2_with fail
    refine (offs16 _ _ _ _ _ hs hn2).mono ?_
    rintro e wa ⟨a1, n1, c1, rfl, hs1, hb1⟩
    rw [← HE.out]
    rw [← HO.out, HOP.out] at hs1
    obtain rfl : n + 1 = n1 := by have := hs1.int; rw [psums_len] at this; have := HL.out; omega
    go_wp2
    go_loopw [9] (fun i wr => ∃ k : Nat, k ≤ n ∧ i = .int .i64 k ∧ Hid (∀ i, i < k → ¬ (pre l i ≤ m ∧ m < pre l (i + 1))) ∧ Dr wa wr) (fun i _ => n - (intOf i).toNat)
    case atStart => exact ⟨0, Nat.zero_le _, rfl, by intro i h; omega, Dr.refl _⟩
    case round =>
      obtain ⟨k, hk, rfl, hnot, hd⟩ := hrel
      by_cases hlt : k < n
      · obtain ⟨ad, x, rfl, hc, hx, _⟩ := (hs1.dr hd).get (i := k) (by omega)
        obtain ⟨ad', y, had, hc', hy, _⟩ := (hs1.dr hd).get (i := k + 1) (by omega)
        cases had
        rw [addr_succ] at hc'
        have HX : Hid (x = pre l k) := Lib.hid (psums_get hx.out).2
        have HY : Hid (y = pre l (k + 1)) := Lib.hid (psums_get hy.out).2
        by_cases h1 : x ≤ m
        · by_cases h2 : m < y
          · have hx0 : 0 ≤ x := by rw [HX.out, ← pre_zero l]; exact pre_le HN.out (by omega)
            have hy0 : y ≤ 1000000000 := by
              have h3 := pre_le_sum HN.out (k + 1)
              have h4 := (offs0_nonneg (l := l) (by rw [← HE.out]; exact HZ.out)).2
              rw [HY.out]; omega
            have i0 : (0 : Int) ≤ (k : Int) := by omega
            have i1 : (k : Int) < (n : Int) + 1 := by omega
            go_wp2
            go_quiet (fail)
            go_wp2
            go_ret3
            exact ⟨k, m - x, true, rfl, .inr ⟨rfl, by rw [← HE.out]; exact HZ.out, k, by rw [HL.out]; omega, rfl, by rw [← HX.out]; exact h1, by rw [← HY.out]; exact h2, by rw [HX.out]⟩, hb1.trans ((Dr.below (hd.drewN _)).mono hb1.size)⟩
          · go_wp2
            go_roundw
            case rel => exact ⟨k + 1, by omega, by go_num, not_succ hnot (by rw [← HX.out, ← HY.out]; omega), hd⟩
            case measure => simp [intOf]; omega
        · go_wp2
          go_roundw
          case rel => exact ⟨k + 1, by omega, by go_num, not_succ hnot (by rw [← HX.out, ← HY.out]; omega), hd⟩
          case measure => simp [intOf]; omega
      · obtain rfl : k = n := by omega
        go_wp2
        go_ret3
        refine find_no ?_ (hb1.trans ((Dr.below hd).mono hb1.size))
        rintro ⟨_, h1, h2⟩
        have := none_found hnot h1
        rw [pre_last HL.out] at this
        omega
  · have hb0 : (er != 0) = true := by simpa using h0
    have HZ := Lib.hid h0
    clear h0 her hol
    go_enter Try.func18, Try.ntmps18
    go_wp2_with fail
    refine (offs16 _ _ _ _ _ hs hn2).mono ?_
    rintro e wa ⟨a1, n1, c1, rfl, hs1, hb1⟩
    rw [← HE.out]
    go_wp2
    go_ret3
    exact find_no (by rw [← HE.out]; exact fun h => HZ.out h.1) hb1

/-- what Target answers -/
def targetOk (l : List Int) (b m : Int) : Bool := decide (offsErr l = 0 ∧ 0 ≤ b ∧ b < l.length ∧ l[b.toNat]? ≠ some 0 ∧ 0 ≤ m)
def targetVal (l : List Int) (b m : Int) : Int := if targetOk l b m = true then pre l b.toNat + m % (l[b.toNat]?.getD 0) else 0
def QTar (l : List Int) (b m : Int) (w : World) (e : Ending) (w' : World) : Prop :=
  e = .returned (.tuple #[.int .i64 (targetVal l b m), .bool (targetOk l b m)]) ∧ Below w.heap.size w w'

theorem tar_no {l : List Int} {b m : Int} {w w' : World} (h : ¬ (offsErr l = 0 ∧ 0 ≤ b ∧ b < l.length ∧ l[b.toNat]? ≠ some 0 ∧ 0 ≤ m)) (hb : Below w.heap.size w w') :
    QTar l b m w (.returned (.tuple #[.int .i64 0, .bool false])) w' := by
  have h1 : targetOk l b m = false := decide_eq_false h
  refine ⟨?_, hb⟩
  unfold targetVal
  rw [h1]
  rfl

set_option maxHeartbeats 800000 in
theorem tar13 (a0 : Option Addr) (n c : Nat) (l : List Int) (b m : Int) (w : World) (hs : Sl w a0 n 1 (ints .i64 l)) (hn2 : n ≤ 200) (hm9 : m ≤ 9223372036854775807) :
    Calls Try.prog 13 #[.slice a0 n c, .int .i64 b, .int .i64 m] w (QTar l b m w) := by
  have HL := Lib.hid hs.int
  obtain ⟨er, her⟩ : ∃ er, er = offsErr l := ⟨_, rfl⟩
  have HE := Lib.hid her
  obtain ⟨ol, hol⟩ : ∃ ol, ol = offsList l := ⟨_, rfl⟩
  have HO := Lib.hid hol
  by_cases h0 : er = 0
  · have HZ := Lib.hid h0
    have hb0 : (er != 0) = false := by simpa using h0
    have HOP : Hid (ol = psums l) := by rw [hol]; unfold offsList; rw [← her, if_pos h0]; rfl
    obtain ⟨hnn, hsum⟩ := offs0_nonneg (l := l) (by rw [← her]; exact h0)
    have HN := Lib.hid hnn
    clear h0 her hol hnn hsum
    go_enter Try.func13, Try.ntmps13
    go_wp2_with fail
    refine (offs15 _ _ _ _ _ hs hn2).mono ?_
    rintro e wa ⟨a1, n1, c1, rfl, hs1, hb1⟩
    rw [← HE.out]
    rw [← HO.out, HOP.out] at hs1
    obtain rfl : n + 1 = n1 := by have := hs1.int; rw [psums_len] at this; have := HL.out; omega
    by_cases hbl : b < 0
    · go_wp2
      go_ret2
      exact tar_no (by omega) hb1
    by_cases hbn : (n : Int) ≤ b
    · go_wp2
      go_ret2
      exact tar_no (by have := HL.out; omega) hb1
    obtain ⟨i, rfl⟩ : ∃ i : Nat, b = (i : Int) := ⟨b.toNat, by omega⟩
    have hsa := hs.kept hb1
    obtain ⟨ld, x, rfl, hc, hx, _⟩ := hsa.get (i := i) (by omega)
    by_cases hx0 : x = 0
    · subst hx0
      go_wp2
      go_ret2
      exact tar_no (fun h => h.2.2.2.1 (by simpa using hx.out)) hb1
    have hxb : (x == 0) = false := by simpa using hx0
    have hxp : 0 ≤ x := HN.out x (List.mem_of_getElem? hx.out)
    have hxp' : 1 ≤ x := by omega
    have HX0 := Lib.hid hx0
    clear hx0
    by_cases hm0 : m < 0
    · go_wp2
      go_ret2
      exact tar_no (fun h => by have := h.2.2.2.2; omega) hb1
    obtain ⟨ad, y, rfl, hc', hy, _⟩ := hs1.get (i := i) (by omega)
    have HY : Hid (y = pre l i) := Lib.hid (psums_get hy.out).2
    have hy0 : 0 ≤ y := by rw [HY.out, ← pre_zero l]; exact pre_le HN.out (by omega)
    have hyx : y + x ≤ 1000000000 := by
      have h3 := pre_le_sum HN.out (i + 1)
      have h4 := (offs0_nonneg (l := l) (by rw [← HE.out]; exact HZ.out)).2
      rw [pre_succ hx.out] at h3
      rw [HY.out]; omega
    obtain ⟨z, hz⟩ : ∃ z, z = m % x := ⟨_, rfl⟩
    have hz0 : 0 ≤ m % x := Int.emod_nonneg _ (by omega)
    have hz1 : m % x < x := Int.emod_lt_of_pos _ (by omega)
    have HM := Lib.hid hz
    clear hz
    have i0 : (0 : Int) ≤ (i : Int) := by omega
    have i1 : (i : Int) < (n : Int) + 1 := by omega
    have i2 : (i : Int) < (n : Int) := by omega
    go_wp2
    go_quiet (fail)
    go_wp2
    go_ret2
    have hok : targetOk l i m = true := by
      refine decide_eq_true ⟨by rw [← HE.out]; exact HZ.out, by omega, by rw [HL.out]; omega, ?_, by omega⟩
      simp only [Int.toNat_natCast]
      rw [hx.out]
      simpa using HX0.out
    refine ⟨?_, Below.trans hb1 ((Dr.below ((Dr.refl _).drewN _)).mono hb1.size)⟩
    unfold targetVal
    rw [if_pos hok, hok]
    simp only [Int.toNat_natCast]
    rw [hx.out, ← HY.out]
    rfl
  · have hb0 : (er != 0) = true := by simpa using h0
    have HZ := Lib.hid h0
    clear h0 her hol
    go_enter Try.func13, Try.ntmps13
    go_wp2_with fail
    refine (offs15 _ _ _ _ _ hs hn2).mono ?_
    rintro e wa ⟨a1, n1, c1, rfl, hs1, hb1⟩
    rw [← HE.out]
    go_wp2
    go_ret2
    exact tar_no (by rw [← HE.out]; exact fun h => HZ.out h.1) hb1
set_option maxHeartbeats 800000 in
theorem tar14 (a0 : Option Addr) (n c : Nat) (l : List Int) (b m : Int) (w : World) (hs : Sl w a0 n 1 (ints .i64 l)) (hn2 : n ≤ 200) (hm9 : m ≤ 9223372036854775807) :
    Calls Try.prog 14 #[.slice a0 n c, .int .i64 b, .int .i64 m] w (QTar l b m w) := by
  have HL := Lib.hid hs.int
  obtain ⟨er, her⟩ : ∃ er, er = offsErr l := ⟨_, rfl⟩
  have HE := Lib.hid her
  obtain ⟨ol, hol⟩ : ∃ ol, ol = offsList l := ⟨_, rfl⟩
  have HO := Lib.hid hol
  by_cases h0 : er = 0
  · have HZ := Lib.hid h0
    have hb0 : (er != 0) = false := by simpa using h0
    have HOP : Hid (ol = psums l) := by rw [hol]; unfold offsList; rw [← her, if_pos h0]; rfl
    obtain ⟨hnn, hsum⟩ := offs0_nonneg (l := l) (by rw [← her]; exact h0)
    have HN := Lib.hid hnn
    clear h0 her hol hnn hsum
    go_enter Try.func14, Try.ntmps14
    go_wp2_with fail
    refine (offs16 _ _ _ _ _ hs hn2).mono ?_
    rintro e wa ⟨a1, n1, c1, rfl, hs1, hb1⟩
    rw [← HE.out]
    rw [← HO.out, HOP.out] at hs1
    obtain rfl : n + 1 = n1 := by have := hs1.int; rw [psums_len] at this; have := HL.out; omega
    by_cases hbl : b < 0
    · go_wp2
      go_ret2
      exact tar_no (by omega) hb1
    by_cases hbn : (n : Int) ≤ b
    · go_wp2
      go_ret2
      exact tar_no (by have := HL.out; omega) hb1
    obtain ⟨i, rfl⟩ : ∃ i : Nat, b = (i : Int) := ⟨b.toNat, by omega⟩
    have hsa := hs.kept hb1
    obtain ⟨ld, x, rfl, hc, hx, _⟩ := hsa.get (i := i) (by omega)
    by_cases hx0 : x = 0
    · subst hx0
      go_wp2
      go_ret2
      exact tar_no (fun h => h.2.2.2.1 (by simpa using hx.out)) hb1
    have hxb : (x == 0) = false := by simpa using hx0
    have hxp : 0 ≤ x := HN.out x (List.mem_of_getElem? hx.out)
    have hxp' : 1 ≤ x := by omega
    have HX0 := Lib.hid hx0
    clear hx0
    by_cases hm0 : m < 0
    · go_wp2
      go_ret2
      exact tar_no (fun h => by have := h.2.2.2.2; omega) hb1
    obtain ⟨ad, y, rfl, hc', hy, _⟩ := hs1.get (i := i) (by omega)
    have HY : Hid (y = pre l i) := Lib.hid (psums_get hy.out).2
    have hy0 : 0 ≤ y := by rw [HY.out, ← pre_zero l]; exact pre_le HN.out (by omega)
    have hyx : y + x ≤ 1000000000 := by
      have h3 := pre_le_sum HN.out (i + 1)
      have h4 := (offs0_nonneg (l := l) (by rw [← HE.out]; exact HZ.out)).2
      rw [pre_succ hx.out] at h3
      rw [HY.out]; omega
    obtain ⟨z, hz⟩ : ∃ z, z = m % x := ⟨_, rfl⟩
    have hz0 : 0 ≤ m % x := Int.emod_nonneg _ (by omega)
    have hz1 : m % x < x := Int.emod_lt_of_pos _ (by omega)
    have HM := Lib.hid hz
    clear hz
    have i0 : (0 : Int) ≤ (i : Int) := by omega
    have i1 : (i : Int) < (n : Int) + 1 := by omega
    have i2 : (i : Int) < (n : Int) := by omega
    go_wp2
    go_quiet (fail)
    go_wp2
    go_ret2
    have hok : targetOk l i m = true := by
      refine decide_eq_true ⟨by rw [← HE.out]; exact HZ.out, by omega, by rw [HL.out]; omega, ?_, by omega⟩
      simp only [Int.toNat_natCast]
      rw [hx.out]
      simpa using HX0.out
    refine ⟨?_, Below.trans hb1 ((Dr.below ((Dr.refl _).drewN _)).mono hb1.size)⟩
    unfold targetVal
    rw [if_pos hok, hok]
    simp only [Int.toNat_natCast]
    rw [hx.out, ← HY.out]
    rfl
  · have hb0 : (er != 0) = true := by simpa using h0
    have HZ := Lib.hid h0
    clear h0 her hol
    go_enter Try.func14, Try.ntmps14
    go_wp2_with fail
    refine (offs16 _ _ _ _ _ hs hn2).mono ?_
    rintro e wa ⟨a1, n1, c1, rfl, hs1, hb1⟩
    rw [← HE.out]
    go_wp2
    go_ret2
    exact tar_no (by rw [← HE.out]; exact fun h => HZ.out h.1) hb1
end Go.Proofs.Ytedfmhdeghpmgaa
