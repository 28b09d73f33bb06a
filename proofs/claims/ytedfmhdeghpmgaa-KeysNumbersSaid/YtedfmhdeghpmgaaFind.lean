import Derived.Test.YtedfmhdeghpmgaaOffs2
namespace Go.Proofs.Ytedfmhdeghpmgaa
open Go.RowKit Go.Q

/-- ascending -/
def Asc (xs : List Int) : Prop := ∀ (i j : Nat) (x y : Int), i ≤ j → xs[i]? = some x → xs[j]? = some y → x ≤ y
theorem asc_lo {xs : List Int} {t : Int} {m : Nat} {x : Int} (ha : Asc xs) (hx : xs[m]? = some x) (h : x < t) : ∀ (i : Nat) (y : Int), i < m + 1 → xs[i]? = some y → y < t := by
  intro i y hi hy
  have := ha i m y x (by omega) hy hx
  omega
theorem asc_hi {xs : List Int} {t : Int} {m : Nat} {x : Int} (ha : Asc xs) (hx : xs[m]? = some x) (h : t ≤ x) : ∀ (i : Nat) (y : Int), m ≤ i → xs[i]? = some y → t ≤ y := by
  intro i y hi hy
  have := ha m i x y (by omega) hx hy
  omega

def QBs (xs : List Int) (t : Int) (w : World) (e : Ending) (w' : World) : Prop :=
  ∃ (k : Nat) (b : Bool), e = .returned (.tuple #[.int .i64 k, .bool b]) ∧ k ≤ xs.length ∧ (∀ (i : Nat) (x : Int), i < k → xs[i]? = some x → x < t) ∧ (∀ (i : Nat) (x : Int), k ≤ i → xs[i]? = some x → t ≤ x) ∧ Dr w w'

set_option maxHeartbeats 400000 in
theorem bs21 (a0 : Option Addr) (n c : Nat) (xs : List Int) (t : Int) (w : World) (hs : Sl w a0 n 1 (ints .i64 xs)) (hn2 : n ≤ 1000) (hasc : Asc xs) :
    Calls Try.prog 21 #[.slice a0 n c, .int .i64 t] w (QBs xs t w) := by
  have HL := Lib.hid hs.int
  have HA := Lib.hid hasc
  clear hasc
  go_enter Try.func21, Try.ntmps21
  go_wp2
  go_loopw [7, 8, 9] (fun i j _ wr => ∃ (p q : Nat), p ≤ q ∧ q ≤ n ∧ i = .int .i64 p ∧ j = .int .i64 q ∧ Hid (∀ (i : Nat) (x : Int), i < p → xs[i]? = some x → x < t) ∧ Hid (∀ (i : Nat) (x : Int), q ≤ i → xs[i]? = some x → t ≤ x) ∧ Dr w wr) (fun i j _ _ => (intOf j).toNat - (intOf i).toNat)
  case atStart => exact ⟨0, n, by omega, Nat.le_refl _, rfl, rfl, by intro i x h; omega, by intro i x h h2; have := (List.getElem?_eq_some_iff.1 h2).1; have := HL.out; omega, Dr.refl _⟩
  case round =>
    obtain ⟨p, q, hpq, hqn, rfl, rfl, h1, h2, hd⟩ := hrel
    by_cases hlt : p < q
    · obtain ⟨ad, x, rfl, hc, hx, _⟩ := (hs.dr hd).get (i := (p + q) / 2) (by omega)
      go_wp2_with fail
      refine (less23 _ _ _).mono ?_
      rintro e wa ⟨rfl, hda⟩
      have hd' := hd.trans hda
      by_cases hxt : x < t
      · have HX := Lib.hid hxt
        rw [decide_eq_true hxt]
        go_wp2
        go_roundw
        case rel => exact ⟨(p + q) / 2 + 1, q, by omega, by omega, by go_num, rfl, asc_lo HA.out hx.out HX.out, h2, hd'⟩
        case measure => simp [intOf]; omega
      · have HX : Hid (t ≤ x) := Lib.hid (by omega)
        rw [decide_eq_false hxt]
        go_wp2
        go_roundw
        case rel => exact ⟨p, (p + q) / 2, by omega, by omega, rfl, by go_num, h1, asc_hi HA.out hx.out HX.out, hd'⟩
        case measure => simp [intOf]; omega
    · obtain rfl : p = q := by omega
      by_cases hpn : p < n
      · obtain ⟨ad, x, rfl, hc, hx, _⟩ := (hs.dr hd).get hpn
        by_cases hxt : x = t
        · have hb : (x == t) = true := by simpa using hxt
          have HX := Lib.hid hxt
          clear hxt
          go_wp2
          go_ret2
          exact ⟨p, _, rfl, by rw [HL.out]; omega, h1, h2, hd⟩
        · have hb : (x == t) = false := by simpa using hxt
          have HX := Lib.hid hxt
          clear hxt
          go_wp2_with fail
          refine (nan24 _ _).mono ?_
          rintro e wa ⟨rfl, hda⟩
          go_wp2
          go_ret2
          exact ⟨p, _, rfl, by rw [HL.out]; omega, h1, h2, hd.trans hda⟩
      · go_wp2
        go_ret2
        exact ⟨p, _, rfl, by rw [HL.out]; omega, h1, h2, hd⟩

/-- what Find answers -/
def FindR (l : List Int) (n x j : Int) (ok : Bool) : Prop :=
  (ok = false ∧ x = 0 ∧ j = 0 ∧ ¬ (offsErr l = 0 ∧ 0 ≤ n ∧ n < l.sum)) ∨
  (ok = true ∧ offsErr l = 0 ∧ ∃ i : Nat, i < l.length ∧ x = i ∧ pre l i ≤ n ∧ n < pre l (i + 1) ∧ j = n - pre l i)

theorem pre_last {l : List Int} {n : Nat} (h : l.length = n) : pre l n = l.sum := pre_all l n (by omega)

theorem offs0_nonneg {l : List Int} (h : offsErr l = 0) : (∀ x ∈ l, 0 ≤ x) ∧ l.sum ≤ 1000000000 := by
  rcases hn : anyNeg l
  · refine ⟨nonneg_of hn, ?_⟩
    simp [offsErr, hn] at h
    omega
  · rw [offs_neg hn] at h; omega

theorem FindR_uniq {l : List Int} {n x j x' j' : Int} {ok ok' : Bool} (h : FindR l n x j ok) (h' : FindR l n x' j' ok') : x = x' ∧ j = j' ∧ ok = ok' := by
  rcases h with ⟨rfl, rfl, rfl, h⟩ | ⟨rfl, h0, i, hi, rfl, h1, h2, rfl⟩ <;> rcases h' with ⟨rfl, rfl, rfl, h'⟩ | ⟨rfl, h0', i', hi', rfl, h1', h2', rfl⟩
  · exact ⟨rfl, rfl, rfl⟩
  · exfalso
    obtain ⟨hp, _⟩ := offs0_nonneg h0'
    have := pre_le hp (Nat.zero_le i'); rw [pre_zero] at this
    have := pre_le_sum hp (i' + 1)
    exact h ⟨h0', by omega, by omega⟩
  · exfalso
    obtain ⟨hp, _⟩ := offs0_nonneg h0
    have := pre_le hp (Nat.zero_le i); rw [pre_zero] at this
    have := pre_le_sum hp (i + 1)
    exact h' ⟨h0, by omega, by omega⟩
  · obtain ⟨hp, _⟩ := offs0_nonneg h0
    have : i = i' := by
      rcases Nat.lt_trichotomy i i' with h | h | h
      · have := pre_le hp (show i + 1 ≤ i' by omega); omega
      · exact h
      · have := pre_le hp (show i' + 1 ≤ i by omega); omega
    subst this
    exact ⟨rfl, rfl, rfl⟩

def QFind (l : List Int) (n : Int) (w : World) (e : Ending) (w' : World) : Prop :=
  ∃ (x j : Int) (ok : Bool), e = .returned (.tuple #[.int .i64 x, .int .i64 j, .bool ok]) ∧ FindR l n x j ok ∧ Below w.heap.size w w'

theorem find_no {l : List Int} {n : Int} {w w' : World} (h : ¬ (offsErr l = 0 ∧ 0 ≤ n ∧ n < l.sum)) (hb : Below w.heap.size w w') :
    QFind l n w (.returned (.tuple #[.int .i64 0, .int .i64 0, .bool false])) w' := ⟨0, 0, false, rfl, .inl ⟨rfl, rfl, rfl, h⟩, hb⟩

theorem psums_at {l : List Int} {i : Nat} (h : i ≤ l.length) : (psums l)[i]? = some (pre l i) := by
  simp [psums, show i < l.length + 1 by omega]
theorem psums_asc {l : List Int} (h : ∀ x ∈ l, 0 ≤ x) : Asc (psums l) := by
  intro i j x y hij hx hy
  obtain ⟨_, rfl⟩ := psums_get hx
  obtain ⟨_, rfl⟩ := psums_get hy
  exact pre_le h hij
end Go.Proofs.Ytedfmhdeghpmgaa
