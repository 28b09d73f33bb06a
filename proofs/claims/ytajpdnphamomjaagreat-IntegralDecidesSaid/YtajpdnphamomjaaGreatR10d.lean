/- Numbers of any size of the reference of layer 10: div, gcd. -/
import Derived.Test.YtajpdnphamomjaaGreatR10c
namespace Go.Proofs.YtajpdnphamomjaaGreat
open Go.RowKit Go.Q Go.Q.Num

theorem infoNum : (Tryz.prog.info? 81).map (fun i => (i.zero, i.size, i.bytes)) = some (some (.slice none 0 0), 1, 24) := by kernel_rfl

theorem lit1 (w : World) (x : Nat) : Sl (w.alloc (.cells #[.int .u64 (x : Int)] 108)) (some ⟨w.heap.size, 0, none⟩) 1 1 1 (nats .u64 [x]) :=
  Own.sl (Own.lit w 0 108 1 1 #[.int .u64 (x : Int)] (Nat.zero_le _) rfl (by decide))
theorem one10 (w : World) : NumAt 1000000000 .u64 (w.alloc (.cells #[.int .u64 1] 108)) (some ⟨w.heap.size, 0, none⟩) 1 1 1 :=
  ⟨[1], lit1 w 1, ⟨by intro d hd; simp at hd; omega, by simp⟩, by simp [val]⟩
theorem NumAt.zero (B : Nat) (k : IntKind) (w : World) : NumAt B k w none 0 0 0 := ⟨[], Sl.nil _ _, Dig.nil B, rfl⟩

/-- the powers that div keeps: y, 2y, 4y, .. -/
def Pows (w : World) (hs : List Hdr) (y : Nat) : Prop := ∀ (j : Nat) (h : Hdr), hs[j]? = some h → NumAt 1000000000 .u64 w h.1 h.2.1 h.2.2 (y * 2 ^ j)
theorem Pows.kept {w w' : World} {hs : List Hdr} {y : Nat} (h : Pows w hs y) (hb : Below w.heap.size w w') : Pows w' hs y := fun j x hx => (h j x hx).kept hb
theorem Pows.snoc {w : World} {hs : List Hdr} {y : Nat} (h : Pows w hs y) {x : Hdr} (hx : NumAt 1000000000 .u64 w x.1 x.2.1 x.2.2 (y * 2 ^ hs.length)) : Pows w (hs ++ [x]) y := by
  intro j z hz
  rcases Nat.lt_or_ge j hs.length with hj | hj
  · rw [List.getElem?_append_left hj] at hz; exact h j z hz
  · rw [List.getElem?_append_right hj] at hz
    obtain ⟨h1, h2⟩ := List.getElem?_eq_some_iff.1 hz
    simp at h1
    obtain rfl : j = hs.length := by omega
    simp at h2
    subst h2; exact hx

theorem pow_few {x y t n : Nat} (hx : x < 1000000000 ^ n) (hy : 0 < y) (h : y * 2 ^ t ≤ x) : t < 30 * n := by
  have h1 : 1 * 2 ^ t ≤ y * 2 ^ t := Nat.mul_le_mul_right _ hy
  have h2 : 1000000000 ^ n ≤ (2 ^ 30) ^ n := Nat.pow_le_pow_left (by decide) n
  rw [← Nat.pow_mul] at h2
  have h3 : 2 ^ t < 2 ^ (30 * n) := by omega
  exact (Nat.pow_lt_pow_iff_right (by omega)).1 h3

theorem cmpn_le {x y : Nat} (h : x ≤ y) : cmpn x y ≤ 0 := by unfold cmpn; split <;> (try split) <;> omega
theorem cmpn_gt {x y : Nat} (h : y < x) : 0 < cmpn x y := by unfold cmpn; rw [if_neg (by omega), if_pos h]; omega

def QDiv (B : Nat) (k : IntKind) (q r : Nat) (w : World) (e : Ending) (w' : World) : Prop :=
  ∃ (a b : Option Addr) (n c m d : Nat), e = .returned (.tuple #[.slice a n c, .slice b m d]) ∧ NumAt B k w' a n c q ∧ NumAt B k w' b m d r ∧ Below w.heap.size w w' ∧ Fr w a

theorem div_up {x y t : Nat} (hy : 0 < y) (h : y * 2 ^ t ≤ x) : x + 1 - y * 2 ^ (t + 1) < x + 1 - y * 2 ^ t := by
  have : 0 < y * 2 ^ t := Nat.mul_pos hy (Nat.pow_pos (by omega))
  rw [Nat.pow_succ, ← Nat.mul_assoc]; omega
theorem div_dbl {y t : Nat} : y * 2 ^ t + y * 2 ^ t = y * 2 ^ (t + 1) := by rw [Nat.pow_succ, ← Nat.mul_assoc]; omega
theorem div_no {x y q a i : Nat} (h : x = q * (y * 2 ^ (i + 1)) + a) : x = (q + q) * (y * 2 ^ i) + a := by
  rw [h, Nat.pow_succ, Nat.add_mul, ← Nat.mul_assoc y]
  have : q * (y * 2 ^ i * 2) = q * (y * 2 ^ i) * 2 := by rw [Nat.mul_assoc q]
  omega
theorem div_yes {x y q a i : Nat} (h : x = q * (y * 2 ^ (i + 1)) + a) (ha : y * 2 ^ i ≤ a) : x = (q + q + 1) * (y * 2 ^ i) + (a - y * 2 ^ i) := by
  have := div_no h
  rw [Nat.add_mul (q + q) 1, Nat.one_mul]
  omega
theorem div_lt {y a i : Nat} (h : a < y * 2 ^ (i + 1)) : a - y * 2 ^ i < y * 2 ^ i ∨ a < y * 2 ^ i := by
  rw [← div_dbl] at h
  omega
theorem div_q {x y q a k : Nat} (hy : 0 < y) (h : x = q * (y * 2 ^ k) + a) : q ≤ x ∧ a ≤ x := by
  have h1 : 0 < y * 2 ^ k := Nat.mul_pos hy (Nat.pow_pos (by omega))
  have h2 : q * 1 ≤ q * (y * 2 ^ k) := Nat.mul_le_mul_left _ h1
  omega
theorem div_end {x y q a : Nat} (h : x = q * (y * 2 ^ 0) + a) (ha : a < y * 2 ^ 0) : q = x / y ∧ a = x % y := by
  simp only [Nat.pow_zero, Nat.mul_one] at h ha
  subst h
  rw [Nat.mul_comm q y]
  exact ⟨by rw [Nat.mul_add_div (by omega), Nat.div_eq_of_lt ha]; omega, by rw [Nat.mul_add_mod, Nat.mod_eq_of_lt ha]⟩

theorem NumAt.lt_heap {B : Nat} {k : IntKind} {w : World} {a : Option Addr} {n c v : Nat} (h : NumAt B k w a n c v) (hv : v ≠ 0) : ∀ ad, a = some ad → ad.block < w.heap.size := by
  obtain ⟨l, h1, h2, h3⟩ := h
  intro ad ha
  exact h1.lt ad ha (by rintro hx; apply hv; rw [← h3]; have := h1.nat; have e : l = [] := by simpa [nats] using hx
                        rw [e]; rfl)
theorem NumAt.off {B : Nat} {k : IntKind} {w w' : World} {a : Option Addr} {n c v : Nat} {p : Option Addr} (h : NumAt B k w a n c v) (ho : Off p a) (hg : w.grownBy w' (blk p)) : NumAt B k w' a n c v :=
  h.grown hg (fun ad ha _ _ => ho.ne ad ha)

/-- the invariant of div's first loop -/
def Div1 (w : World) (B0 n y : Nat) (t : Nat) (pw p : Value) (wr : World) : Prop :=
  ∃ (pa : Option Addr) (pc : Nat) (qa : Option Addr) (qn qc : Nat) (hs : List Hdr), pw = .slice pa t pc ∧ p = .slice qa qn qc ∧ Own wr B0 81 1 pa t pc (hs.map hv) ∧ Pows wr hs y ∧ NumAt 1000000000 .u64 wr qa qn qc (y * 2 ^ t) ∧
    (∀ (j : Nat) (h : Hdr), hs[j]? = some h → Off pa h.1) ∧ Off pa qa ∧ Below w.heap.size w wr ∧ (t = 0 ∨ t ≤ 30 * n)

/-- the invariant of div's second loop: the numbers so far -/
def Div2 (w w0 : World) (x y : Nat) (k : Nat) (av qv : Value) (wr : World) : Prop :=
  ∃ (aa : Option Addr) (an ac : Nat) (qa : Option Addr) (qn qc : Nat) (a q : Nat), av = .slice aa an ac ∧ qv = .slice qa qn qc ∧ NumAt 1000000000 .u64 wr aa an ac a ∧ NumAt 1000000000 .u64 wr qa qn qc q ∧ x = q * (y * 2 ^ k) + a ∧ a < y * 2 ^ k ∧ Below w.heap.size w wr ∧ Below w0.heap.size w0 wr ∧ Fr w qa

set_option maxHeartbeats 1600000 in
theorem div10 (a b : Option Addr) (n m ca cb x y : Nat) (w : World) (ha : NumAt 1000000000 .u64 w a n ca x) (hb : NumAt 1000000000 .u64 w b m cb y) (hn : n ≤ 1000000000) (hy : 0 < y) :
    Calls Tryz.prog 97 #[.slice a n ca, .slice b m cb] w (QDiv 1000000000 .u64 (x / y) (x % y) w) := by
  obtain ⟨B0, hB⟩ : ∃ B0, B0 = w.heap.size := ⟨_, rfl⟩
  have hb0 : Below B0 w w := Below.refl _ _
  have hB' : B0 ≤ w.heap.size := by omega
  have HB := Lib.hid hB
  have HX := Lib.hid (ha.lt (by omega))
  have HA := Lib.hid ha
  have HY := Lib.hid hy
  clear hB ha hy
  go_enter Tryz.func97, Tryz.ntmps97
  go_wp2
  go_loopg [6, 7] (x + 1 - y * 2 ^ 0) (fun g pw p wr => ∃ t : Nat, g = x + 1 - y * 2 ^ t ∧ Div1 w B0 n y t pw p wr)
  case atStart => exact ⟨0, rfl, none, 0, b, m, cb, [], rfl, rfl, Own.nil _ _ _ _, by intro j h hj; simp at hj, by simpa using hb, by intro j h hj; simp at hj, Off.nil _, Below.refl _ _, .inl rfl⟩
  case round =>
    obtain ⟨t, hg, pa, pc, qa, qn, qc, hs, rfl, rfl, hown, hpw, hp, hoff, hoffq, hbel, ht⟩ := hrel
    have HG := Lib.hid hg
    have HT : Hid (hs.length = t) := by have := hown.1; rw [List.length_map, Nat.mul_one] at this; exact this
    have HPW := Lib.hid hpw
    have HOF := Lib.hid hoff
    clear hg hpw hoff
    go_wp2_with fail
    refine (compare10 _ _ _ _ _ _ _ _ _ hp (HA.out.kept hbel)).mono ?_
    rintro e w1 ⟨rfl, hd1⟩
    have hown1 := hown.dr hd1
    have hp1 := hp.dr hd1
    have HPW1 := Lib.hid (HPW.out.kept hd1.below)
    have hbel1 := Below.dr hbel hd1
    have hBr1 : B0 ≤ w1.heap.size := by have := hbel1.size; omega
    have hbel0 : Below B0 w w1 := hbel1.mono hB'
    by_cases hle : y * 2 ^ t ≤ x
    · have HLE := Lib.hid hle
      have ht2 := pow_few HX.out HY.out hle
      have hqn : qn ≤ n := hp.len_le (by omega) (Nat.lt_of_le_of_lt hle HX.out)
      have hc0 := cmpn_le hle
      have HP0 : Hid (y * 2 ^ t ≠ 0) := Lib.hid (Nat.ne_of_gt (Nat.mul_pos HY.out (Nat.pow_pos (by omega))))
      obtain ⟨cv, hcv⟩ : ∃ cv, cv = cmpn (y * 2 ^ t) x := ⟨_, rfl⟩
      rw [← hcv] at hc0 ⊢
      clear hcv hle
      go_wp2_with (at_builtin; refine app1 143 81 (.slice none 0 0) 1 24 Tryz.underlying143 infoNum rfl (by decide) (by decide) rfl _ _ rfl B0 _ _ _ _ hown1 hbel0 hBr1 rfl rfl rfl (by simp [Value.oneCell']) (by omega) ?_)
      intro a' c' w2 hap hb2 hB2
      have hal : Below w1.heap.size w1 (w1.alloc (.cells #[.slice qa qn qc] 81)) := (Below.refl _ _).alloc (Nat.le_refl _) _
      have hp2 : NumAt 1000000000 .u64 w2 qa qn qc (y * 2 ^ t) := (hp1.kept hal).off hoffq hap.grown
      have HPW2 : Hid (Pows w2 (hs ++ [(qa, qn, qc)]) y) := by
        refine Pows.snoc (fun j h hj => (((HPW1.out j h hj).kept hal).off (HOF.out j h hj) hap.grown)) ?_
        rw [HT.out]; exact hp2
      have hbw2 : Below w.heap.size w w2 := by rw [← HB.out]; exact hb2
      have hoffq2 : Off a' qa := hoffq.app hap (fun ad h => by have := hp1.lt_heap HP0.out ad h; simp; omega)
      have HOF2 : Hid (∀ (j : Nat) (h : Hdr), (hs ++ [(qa, qn, qc)])[j]? = some h → Off a' h.1) := by
        intro j h hj
        rcases Nat.lt_or_ge j hs.length with hjl | hjl
        · rw [List.getElem?_append_left hjl] at hj
          exact (HOF.out j h hj).app hap (fun ad hh => by
            have := (HPW1.out j h hj).lt_heap (Nat.ne_of_gt (Nat.mul_pos HY.out (Nat.pow_pos (by omega)))) ad hh
            simp; omega)
        · rw [List.getElem?_append_right hjl] at hj
          obtain ⟨h1, h2⟩ := List.getElem?_eq_some_iff.1 hj
          simp at h1
          have : j = hs.length := by omega
          subst this
          simp at h2
          subst h2; exact hoffq2
      have hown2 : Own w2 B0 81 1 a' (t + 1) c' ((hs ++ [(qa, qn, qc)]).map hv) := by rw [List.map_append]; exact hap.own
      clear hap hal hown1 hown hp hp1 hoffq
      go_wp2_with fail
      refine (plus10 _ _ _ _ _ _ _ _ _ hp2 hp2 (by omega) (by omega)).mono ?_
      rintro e w3 ⟨ra, rn, rc, rfl, hr, _, hb3, hf3⟩
      rw [div_dbl] at hr
      go_wp2
      go_roundg (x + 1 - y * 2 ^ (t + 1))
      case measure => rw [HG.out]; exact div_up HY.out HLE.out
      case rel => exact ⟨t + 1, rfl, a', c', ra, rn, rc, hs ++ [(qa, qn, qc)], rfl, rfl, hown2.kept hb3, HPW2.out.kept hb3, hr, HOF2.out, Off.fresh hown2 hf3, hbw2.trans (hb3.mono hbw2.size), .inr (by omega)⟩
    · have hc0 := cmpn_gt (show x < y * 2 ^ t by omega)
      have HLT : Hid (x < y * 2 ^ t) := Lib.hid (by omega)
      obtain ⟨cv, hcv⟩ : ∃ cv, cv = cmpn (y * 2 ^ t) x := ⟨_, rfl⟩
      rw [← hcv] at hc0 ⊢
      clear hcv hle
      have ht9 : t ≤ 30000000000 := by omega
      have hA1 := HA.out.kept hbel1
      have hsl := hown1.sl
      obtain ⟨w0, rfl⟩ : ∃ w0 : World, w0 = w1 := ⟨_, rfl⟩
      go_wp2
      go_loopg [0, 8, 9] t (fun g av qv i wr => i = .int .i64 ((g : Int) - 1) ∧ g ≤ t ∧ Div2 w w0 x y g av qv wr)
      case atStart => exact ⟨rfl, Nat.le_refl _, a, n, ca, none, 0, 0, x, 0, rfl, rfl, hA1, NumAt.zero _ _ _, by simp, HLT.out, hbel1, Below.refl _ _, Fr.none _⟩
      case round =>
        obtain ⟨rfl, hgt, aa, an, ac, qa', qn', qc', av, qv, rfl, rfl, hav, hqv, hxv, hlt, hbel2, hbel3, hfr⟩ := hrel
        have HXV := Lib.hid hxv
        have HLT2 := Lib.hid hlt
        have hsr := hsl.kept hbel3
        obtain ⟨hq1, hq2⟩ := div_q HY.out hxv
        have han : an ≤ n := hav.len_le (by omega) (Nat.lt_of_le_of_lt hq2 HX.out)
        have hqn' : qn' ≤ n := hqv.len_le (by omega) (Nat.lt_of_le_of_lt hq1 HX.out)
        clear hxv hlt
        by_cases h0 : gk = 0
        · subst h0
          obtain ⟨e1, e2⟩ := div_end HXV.out HLT2.out
          go_wp2
          go_ret2
          exact ⟨qa', aa, qn', qc', an, ac, rfl, by rw [← e1]; exact hqv, by rw [← e2]; exact hav, hbel2, hfr⟩
        · obtain ⟨i, rfl⟩ : ∃ i, gk = i + 1 := ⟨gk - 1, by omega⟩
          obtain ⟨ad, hd, rfl, hcell, hhd, hadb⟩ := hsr.geth (i := i) (by omega)
          have hpi := (HPW1.out i hd hhd.out).kept hbel3
          obtain ⟨ha1, hn1, hc1⟩ := hd
          have hpi' : NumAt 1000000000 .u64 wr ha1 hn1 hc1 (y * 2 ^ i) := hpi
          clear hpi
          go_wp2_with fail
          refine (plus10 _ _ _ _ _ _ _ _ _ hqv hqv (by omega) (by omega)).mono ?_
          rintro e w3 ⟨ra, rn, rc, rfl, hr, hrn, hb3, hf3⟩
          have hcell3 : w3.cell? (ad.add i) = some (.slice ha1 hn1 hc1) := by rw [hb3.cell (by rw [add_block]; exact hadb)]; exact hcell
          go_wp2_with fail
          refine (compare10 _ _ _ _ _ _ _ _ _ (hpi'.kept hb3) (hav.kept hb3)).mono ?_
          rintro e w4 ⟨rfl, hd4⟩
          have hbel4 : Below w.heap.size w w4 := Below.dr (hbel2.trans (hb3.mono hbel2.size)) hd4
          have hbel40 : Below w0.heap.size w0 w4 := Below.dr (hbel3.trans (hb3.mono hbel3.size)) hd4
          have hcell4 : w4.cell? (ad.add i) = some (.slice ha1 hn1 hc1) := by obtain ⟨d, rfl⟩ := hd4; exact hcell3
          have hav4 := (hav.kept hb3).dr hd4
          have hpi4 := (hpi'.kept hb3).dr hd4
          have hr4 := hr.dr hd4
          by_cases hle : y * 2 ^ i ≤ av
          · have hc0 := cmpn_le hle
            have HLE := Lib.hid hle
            obtain ⟨cv, hcv⟩ : ∃ cv, cv = cmpn (y * 2 ^ i) av := ⟨_, rfl⟩
            rw [← hcv] at hc0 ⊢
            clear hcv hle hcell hcell3
            go_wp2_with fail
            refine (minus10 _ _ _ _ _ _ _ _ _ hav4 hpi4 (by omega) HLE.out).mono ?_
            rintro e w5 ⟨sa, sn, sc, rfl, hs5, _, hb5, _⟩
            go_wp2_with fail
            refine (plus10 _ _ _ _ _ _ _ _ _ ((hr4.kept hb5).kept ((Below.refl _ _).alloc (Nat.le_refl _) _)) (one10 w5) (by omega) (by omega)).mono ?_
            rintro e w6 ⟨ua, un, uc, rfl, hu, _, hb6, hf6⟩
            have h56 : Below w5.heap.size w5 w6 := Below.trans ((Below.refl _ _).alloc (Nat.le_refl _) _) (hb6.mono (by simp))
            have h46 : Below w4.heap.size w4 w6 := hb5.trans (h56.mono hb5.size)
            go_wp2
            go_roundg i
            case measure => omega
            case rel => exact ⟨by go_num, by omega, sa, sn, sc, ua, un, uc, _, _, rfl, rfl, hs5.kept h56, hu, div_yes HXV.out HLE.out, by rcases div_lt HLT2.out with h | h; exact h; have := HLE.out; omega, hbel4.trans (h46.mono hbel4.size), hbel40.trans (h46.mono hbel40.size), hf6.mono (by have h1 := hbel4.size; have h2 := hb5.size; simp; omega)⟩
          · have hc0 := cmpn_gt (show av < y * 2 ^ i by omega)
            have HLE : Hid (av < y * 2 ^ i) := Lib.hid (by omega)
            obtain ⟨cv, hcv⟩ : ∃ cv, cv = cmpn (y * 2 ^ i) av := ⟨_, rfl⟩
            rw [← hcv] at hc0 ⊢
            clear hcv hle hcell hcell3
            go_wp2
            go_roundg i
            case measure => omega
            case rel => exact ⟨by go_num, by omega, aa, an, ac, ra, rn, rc, _, _, rfl, rfl, hav4, hr4, div_no HXV.out, HLE.out, hbel4, hbel40, hf3.mono hbel2.size⟩
end Go.Proofs.YtajpdnphamomjaaGreat
