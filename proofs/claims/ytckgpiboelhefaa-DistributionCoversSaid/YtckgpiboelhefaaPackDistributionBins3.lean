import Derived.KernelRfl
import Derived.Test.YtckgpiboelhefaaDI
import Derived.Test.YtckgpiboelhefaaPackDistributionBins2

/- Spread, quantile and shuffle: plain law. -/

namespace Go.Ds
open Go.Bag
def srt (zs : List Int) : List Int := zs.mergeSort fun x y => decide (x ≤ y)
theorem sub_to : TO fun a b : Int => a - b := by
  refine ⟨fun a b => ?_, fun a b => ?_, fun a b d => ?_⟩ <;> omega
theorem srt_eq (zs : List Int) : sortR (fun a b : Int => a - b) zs = srt zs := by
  unfold sortR srt
  congr 1
  funext a b
  exact decide_eq_decide.2 (show a - b ≤ 0 ↔ a ≤ b by omega)
theorem srt_perm (zs : List Int) : (srt zs).Perm zs := List.mergeSort_perm zs _
theorem srt_len (zs : List Int) : (srt zs).length = zs.length := (srt_perm zs).length_eq
theorem srt_asc (zs : List Int) : (srt zs).Pairwise (· ≤ ·) := by
  have := sortR_asc sub_to zs
  rw [srt_eq] at this
  exact this.imp fun {a b} h => by change a - b ≤ 0 at h; omega
/-! ### quantiles -/
def cnt (s : List Int) (v : Int) : Nat := s.countP fun x => decide (x ≤ v)
theorem cnt_le (s : List Int) (v : Int) : cnt s v ≤ s.length := List.countP_le_length
theorem cnt_suc {s : List Int} {k : Nat} {x : Int} (h : s[k]? = some x) (v : Int) : cnt (s.take (k + 1)) v = cnt (s.take k) v + if x ≤ v then 1 else 0 := by
  unfold cnt
  rw [List.take_add_one, h, List.countP_append]
  by_cases z : x ≤ v <;> simp [z]
theorem asc_at {s : List Int} (h : s.Pairwise (· ≤ ·)) {i j : Nat} {a b : Int} (hi : s[i]? = some a) (hj : s[j]? = some b) (hij : i ≤ j) : a ≤ b := by
  obtain ⟨h1, h2⟩ := List.getElem?_eq_some_iff.1 hi
  obtain ⟨h3, h4⟩ := List.getElem?_eq_some_iff.1 hj
  rcases Nat.eq_or_lt_of_le hij with e | e
  · subst e; rw [h2] at h4; omega
  · have := List.pairwise_iff_getElem.1 h i j h1 h3 e
    omega
theorem cnt_ge {s : List Int} (h : s.Pairwise (· ≤ ·)) {i : Nat} {a : Int} (hi : s[i]? = some a) : i + 1 ≤ cnt s a := by
  have hl := (List.getElem?_eq_some_iff.1 hi).1
  have h1 : cnt (s.take (i + 1)) a = (s.take (i + 1)).length := by
    unfold cnt
    rw [List.countP_eq_length]
    intro x hx
    obtain ⟨j, hj, e⟩ := List.mem_take_iff_getElem.1 hx
    have hjs : s[j]? = some x := by rw [List.getElem?_eq_getElem (by omega), e]
    exact decide_eq_true (asc_at h hjs hi (by omega))
  have h2 : cnt (s.take (i + 1)) a ≤ cnt s a := (List.take_sublist _ _).countP_le
  rw [h1, List.length_take] at h2
  omega
theorem cnt_lt {s : List Int} (h : s.Pairwise (· ≤ ·)) {i : Nat} {a v : Int} (hi : s[i]? = some a) (hv : v < a) : cnt s v ≤ i := by
  have h1 : cnt s v = cnt (s.take i) v + cnt (s.drop i) v := by
    unfold cnt
    rw [← List.countP_append, List.take_append_drop]
  have h2 : cnt (s.drop i) v = 0 := by
    unfold cnt
    rw [List.countP_eq_zero]
    intro x hx
    obtain ⟨j, hj, e⟩ := List.mem_iff_getElem.1 hx
    rw [List.length_drop] at hj
    rw [List.getElem_drop] at e
    have hjs : s[i + j]? = some x := by rw [List.getElem?_eq_getElem (by omega), e]
    have := asc_at h hi hjs (by omega)
    simp; omega
  have h3 := cnt_le (s.take i) v
  rw [List.length_take] at h3
  omega
/-- the place of a quantile -/
def qIx (n : Nat) (p q : Int) : Nat := (max 1 ((p * n + q - 1) / q) - 1).toNat
def qE (n : Nat) (p q : Int) : Int := if 1000 < n then 8 else if 1000000 < q then 8 else if q < 1 then 1 else if p < 0 then 1 else if q < p then 1 else if n = 0 then 12 else 0
def qV (s : List Int) (p q : Int) : Int := if qE s.length p q = 0 then s.getD (qIx s.length p q) 0 else 0
theorem qE_ok {n : Nat} {p q : Int} (h : qE n p q = 0) : n ≤ 1000 ∧ 1 ≤ q ∧ q ≤ 1000000 ∧ 0 ≤ p ∧ p ≤ q ∧ 0 < n := by
  unfold qE at h
  repeat' (split at h)
  all_goals first | omega | (refine ⟨by omega, by omega, by omega, by omega, by omega, by omega⟩)
theorem qE_of {n : Nat} {p q : Int} (h1 : n ≤ 1000) (h2 : q ≤ 1000000) (h3 : 1 ≤ q) (h4 : 0 ≤ p) (h5 : p ≤ q) (h6 : 0 < n) : qE n p q = 0 := by
  unfold qE
  rw [if_neg (by omega), if_neg (by omega), if_neg (by omega), if_neg (by omega), if_neg (by omega), if_neg (by omega)]
theorem ceil_le {a q m : Int} (hq : 1 ≤ q) : (a + q - 1) / q ≤ m ↔ a ≤ m * q := by
  have h1 := Int.emod_add_mul_ediv (a + q - 1) q
  have h2 := Int.emod_nonneg (a + q - 1) (show q ≠ 0 by omega)
  have h3 := Int.emod_lt_of_pos (a + q - 1) (show 0 < q by omega)
  generalize (a + q - 1) / q = c at h1
  generalize (a + q - 1) % q = r at h1 h2 h3
  constructor
  · intro h
    have : q * c ≤ q * m := Int.mul_le_mul_of_nonneg_left h (by omega)
    rw [Int.mul_comm m q]
    omega
  · intro h
    apply Classical.byContradiction
    intro hn
    have : q * (m + 1) ≤ q * c := Int.mul_le_mul_of_nonneg_left (by omega) (by omega)
    rw [Int.mul_add, Int.mul_one] at this
    rw [Int.mul_comm m q] at h
    omega
theorem qIx_lt {n : Nat} {p q : Int} (h : qE n p q = 0) : qIx n p q < n ∧ ((qIx n p q : Nat) : Int) = max 1 ((p * n + q - 1) / q) - 1 := by
  obtain ⟨h1, h2, h3, h4, h5, h6⟩ := qE_ok h
  have hc : (p * n + q - 1) / q ≤ n := (ceil_le h2).2 (by
    have : p * (n : Int) ≤ q * n := Int.mul_le_mul_of_nonneg_right h5 (by omega)
    rw [Int.mul_comm (n : Int) q]; exact this)
  unfold qIx
  omega
theorem q_hit {s : List Int} (hs : s.Pairwise (· ≤ ·)) {p q : Int} (h : qE s.length p q = 0) {i : Nat} {v : Int} (hi : s[i]? = some v) (hv : p * s.length ≤ cnt s v * q) (hb : ∀ j, j < i → ∀ x, s[j]? = some x → ¬ p * s.length ≤ cnt s x * q) : v = qV s p q := by
  obtain ⟨h1, h2, h3, h4, h5, h6⟩ := qE_ok h
  obtain ⟨k1, k2⟩ := qIx_lt h
  unfold qV
  rw [if_pos h]
  have hx : s[qIx s.length p q]? = some (s.getD (qIx s.length p q) 0) := by
    rw [List.getD_eq_getElem?_getD, List.getElem?_eq_getElem k1]; rfl
  generalize hk : qIx s.length p q = k at k1 k2 hx
  generalize s.getD k 0 = x at hx
  have c1 := cnt_ge hs hx
  have c2 := cnt_ge hs hi
  have hx' : p * s.length ≤ cnt s x * q := (ceil_le h2).1 (by omega)
  have hik : i ≤ k := by
    apply Classical.byContradiction
    intro hn
    exact hb k (by omega) x hx hx'
  have h7 := asc_at hs hi hx hik
  have h8 := (ceil_le (a := p * s.length) h2).2 hv
  apply Classical.byContradiction
  intro hne
  have := cnt_lt hs hx (v := v) (by omega)
  omega
theorem q_end {s : List Int} (hs : s.Pairwise (· ≤ ·)) {p q : Int} (h : qE s.length p q = 0) (hb : ∀ j, j < s.length → ∀ x, s[j]? = some x → ¬ p * s.length ≤ cnt s x * q) : False := by
  obtain ⟨h1, h2, h3, h4, h5, h6⟩ := qE_ok h
  obtain ⟨k1, k2⟩ := qIx_lt h
  have hx : s[qIx s.length p q]? = some (s.getD (qIx s.length p q) 0) := by
    rw [List.getD_eq_getElem?_getD, List.getElem?_eq_getElem k1]; rfl
  have c1 := cnt_ge hs hx
  exact hb _ k1 _ hx ((ceil_le h2).1 (by omega))
theorem qV_mono {s : List Int} (hs : s.Pairwise (· ≤ ·)) {p p' q : Int} (h : qE s.length p q = 0) (h' : qE s.length p' q = 0) (hp : p ≤ p') : qV s p q ≤ qV s p' q := by
  obtain ⟨h1, h2, h3, h4, h5, h6⟩ := qE_ok h
  obtain ⟨k1, k2⟩ := qIx_lt h
  obtain ⟨j1, j2⟩ := qIx_lt h'
  unfold qV
  rw [if_pos h, if_pos h']
  have hx : s[qIx s.length p q]? = some (s.getD (qIx s.length p q) 0) := by
    rw [List.getD_eq_getElem?_getD, List.getElem?_eq_getElem k1]; rfl
  have hy : s[qIx s.length p' q]? = some (s.getD (qIx s.length p' q) 0) := by
    rw [List.getD_eq_getElem?_getD, List.getElem?_eq_getElem j1]; rfl
  refine asc_at hs hx hy ?_
  have : (p * s.length + q - 1) / q ≤ (p' * s.length + q - 1) / q := Int.ediv_le_ediv (by omega) (by
    have : p * (s.length : Int) ≤ p' * s.length := Int.mul_le_mul_of_nonneg_right hp (by omega)
    omega)
  omega
theorem qV_last {s : List Int} {q : Int} (h : qE s.length q q = 0) : qV s q q = s.getD (s.length - 1) 0 := by
  obtain ⟨h1, h2, h3, h4, h5, h6⟩ := qE_ok h
  obtain ⟨k1, k2⟩ := qIx_lt h
  unfold qV
  rw [if_pos h]
  have hc : (s.length : Int) ≤ (q * s.length + q - 1) / q := by
    apply Classical.byContradiction
    intro hn
    have := (ceil_le (a := q * s.length) (m := s.length - 1) h2).1 (by omega)
    rw [Int.sub_mul, Int.one_mul, Int.mul_comm] at this
    omega
  have : qIx s.length q q = s.length - 1 := by omega
  rw [this]
/-! ### spreads -/
def spE (low high count : Int) : Int := if 1000 < count then 8 else if low < -1000000000000 ∨ 1000000000000 < low then 8 else if high < -1000000000000 ∨ 1000000000000 < high then 8 else if count < 0 then 1 else if high < low then 1 else 0
def spA (low high count : Int) (i : Nat) : Int := low + i * (high - low + 1) / count
def spL (low high count : Int) : List Int := if spE low high count = 0 then (List.range count.toNat).map (spA low high count) else []
theorem spE_ok {low high count : Int} (h : spE low high count = 0) : count ≤ 1000 ∧ 0 ≤ count ∧ -1000000000000 ≤ low ∧ low ≤ high ∧ high ≤ 1000000000000 := by
  unfold spE at h
  repeat' (split at h)
  all_goals first | omega | (refine ⟨by omega, by omega, by omega, by omega, by omega⟩)
theorem spE_of {low high count : Int} (h1 : count ≤ 1000) (h2 : 0 ≤ count) (h3 : -1000000000000 ≤ low) (h4 : low ≤ high) (h5 : high ≤ 1000000000000) : spE low high count = 0 := by
  unfold spE
  rw [if_neg (by omega), if_neg (by omega), if_neg (by omega), if_neg (by omega), if_neg (by omega)]
theorem spA_in {low high count : Int} (h : spE low high count = 0) {i : Nat} (hi : (i : Int) < count) : 0 ≤ i * (high - low + 1) ∧ i * (high - low + 1) ≤ 2000000000001000 ∧ low ≤ spA low high count i ∧ spA low high count i ≤ high := by
  obtain ⟨h1, h2, h3, h4, h5⟩ := spE_ok h
  have a1 : 0 ≤ (i : Int) * (high - low + 1) := Int.mul_nonneg (by omega) (by omega)
  have a2 : (i : Int) * (high - low + 1) ≤ 1000 * (high - low + 1) := Int.mul_le_mul_of_nonneg_right (by omega) (by omega)
  have a3 : (i : Int) * (high - low + 1) / count < high - low + 1 := Int.ediv_lt_of_lt_mul (by omega) (by
    rw [Int.mul_comm (high - low + 1) count]
    exact Int.mul_lt_mul_of_pos_right hi (by omega))
  have a4 : 0 ≤ (i : Int) * (high - low + 1) / count := Int.ediv_nonneg a1 (by omega)
  unfold spA
  omega
theorem spA_mono {low high count : Int} (h : spE low high count = 0) {i j : Nat} (hij : i ≤ j) (hj : (j : Int) < count) : spA low high count i ≤ spA low high count j := by
  obtain ⟨h1, h2, h3, h4, h5⟩ := spE_ok h
  have : (i : Int) * (high - low + 1) ≤ j * (high - low + 1) := Int.mul_le_mul_of_nonneg_right (by omega) (by omega)
  have := Int.ediv_le_ediv (c := count) (by omega) this
  unfold spA
  omega
/-! ### orders -/
def nxt (s : Int) : Int := IntKind.wrap .u64 (IntKind.wrap .u64 (s * 6364136223846793005) + 1442695040888963407)
def jx (s : Int) (k : Nat) : Nat := (nxt s / 2 ^ 33 % ((k : Int) + 1)).toNat
def swp (L : List Int) (i j : Nat) : List Int := (L.set i (L.getD j 0)).set j (L.getD i 0)
def shuf : Nat → Int → List Int → List Int
  | 0, _, L => L
  | k + 1, s, L => shuf k (nxt s) (swp L (k + 1) (jx s (k + 1)))
theorem swp_len (L : List Int) (i j : Nat) : (swp L i j).length = L.length := by simp [swp]
theorem swp_perm (L : List Int) {i j : Nat} (hi : i < L.length) (hj : j < L.length) : (swp L i j).Perm L := by
  have h := Array.swap_perm (xs := L.toArray) (i := i) (j := j) (by simpa using hi) (by simpa using hj)
  have e : (L.toArray.swap i j (by simpa using hi) (by simpa using hj)).toList = swp L i j := by
    unfold swp
    simp [Array.swap_def, List.getD_eq_getElem?_getD, hi, hj]
  rw [← e]
  exact h.toList
theorem wrap64 (n : Int) : IntKind.wrap .u64 n = n % 18446744073709551616 := by
  simp [IntKind.wrap, IntKind.signed, IntKind.bits]
theorem nxt_nn (s : Int) : 0 ≤ nxt s ∧ nxt s < 18446744073709551616 := by
  unfold nxt
  rw [wrap64]
  omega
theorem jx_le (s : Int) (k : Nat) : jx s k ≤ k ∧ ((jx s k : Nat) : Int) = nxt s / 2 ^ 33 % ((k : Int) + 1) := by
  have h0 := (nxt_nn s).1
  have h1 : 0 ≤ nxt s / 2 ^ 33 % ((k : Int) + 1) := Int.emod_nonneg _ (by omega)
  have h2 := Int.emod_lt_of_pos (nxt s / 2 ^ 33) (show 0 < (k : Int) + 1 by omega)
  unfold jx
  omega
theorem shuf_perm : ∀ (k : Nat) (s : Int) (L : List Int), k < L.length → (shuf k s L).Perm L
  | 0, _, L, _ => List.Perm.refl L
  | k + 1, s, L, h => by
    have h1 := jx_le s (k + 1)
    exact (shuf_perm k (nxt s) _ (by rw [swp_len]; omega)).trans (swp_perm L h (by omega))
def shE (n : Int) : Int := if n < 0 then 1 else if 1000 < n then 8 else 0
def iot (n : Nat) : List Int := (List.range n).map fun i : Nat => (i : Int)
def shL (seed n : Int) : List Int := if shE n = 0 then shuf (n.toNat - 1) seed (iot n.toNat) else []
theorem iot_len (n : Nat) : (iot n).length = n := by simp [iot]
theorem shL_perm {seed n : Int} (h : shE n = 0) : (shL seed n).Perm (iot n.toNat) := by
  unfold shL
  rw [if_pos h]
  by_cases z : n.toNat = 0
  · rw [z]; exact List.Perm.refl _
  · exact shuf_perm _ _ _ (by rw [iot_len]; omega)
end Go.Ds

/- The conditions of functions, printed by our tool; each is checked against the code by the kernel. -/



namespace Go.Proofs
open Go Go.V Go.RowKit
/-- querylab/distribution.Spread -/
def S12 (low_ : Int) (high_ : Int) (count_ : Int) (w0 : World) (R : Value → World → Prop) : Prop :=
 br (decide (count_ > 1000)) (R (.tuple #[(.slice none 0 0), (.int .i64 8)]) w0)
 (call Try.prog 28 [(.int .i64 low_)] (.one (.one .bool)) w0 fun (x1 : Bool) (w2 : World) =>
 br x1 (R (.tuple #[(.slice none 0 0), (.int .i64 8)]) w2)
 (call Try.prog 28 [(.int .i64 high_)] (.one (.one .bool)) w2 fun (x3 : Bool) (w4 : World) =>
 br x3 (R (.tuple #[(.slice none 0 0), (.int .i64 8)]) w4)
 (br (decide (count_ < 0)) (R (.tuple #[(.slice none 0 0), (.int .i64 1)]) w4)
 (br (decide (high_ < low_)) (R (.tuple #[(.slice none 0 0), (.int .i64 1)]) w4)
 (loop (T := ((Option Addr × Nat × Nat) × Int × Unit)) ((none, 0, 0), 0, ()) w4 fun (again5 : ((Option Addr × Nat × Nat) × Int × Unit) → World → Prop) (s6 : ((Option Addr × Nat × Nat) × Int × Unit)) w7 => ∀ _ : Nat → Value,
 br (decide (s6.2.1 < count_)) (z (IntKind.wrap .i64 (high_ - low_)) fun (z8 : Int) =>
 z (IntKind.wrap .i64 (z8 + 1)) fun (z9 : Int) =>
 z (IntKind.wrap .i64 (s6.2.1 * z9)) fun (z10 : Int) =>
 rdp Try.prog (cmpS .quo 2 (.tmp 41) (.tmp 42) (.int .i64 z10) (.int .i64 count_)) (.one (.int .i64)) fun (x11 : Int) =>
 z (IntKind.wrap .i64 (low_ + x11)) fun (z12 : Int) =>
 wr Try.prog (Instr.buildSlice 32 1 #[(0, (.int .i64 z12))]) (.one .slice) w7 fun (x13 : (Option Addr × Nat × Nat)) (w14 : World) =>
 wr Try.prog (Builtin.append_ #[32, 32] 32 #[(.slice s6.1.1 s6.1.2.1 s6.1.2.2), (.slice x13.1 x13.2.1 x13.2.2)]) (.one .slice) w14 fun (x15 : (Option Addr × Nat × Nat)) (w16 : World) =>
 z (IntKind.wrap .i64 (s6.2.1 + 1)) fun (z17 : Int) =>
 again5 ((x15.1, x15.2.1, x15.2.2), z17, ()) w16)
 (R (.tuple #[(.slice s6.1.1 s6.1.2.1 s6.1.2.2), (.int .i64 0)]) w7))))))
def H12 : Hints := ⟨[(2, 0, [(9, (.one .slice)), (31, (.one (.int .i64)))])], [], [], []⟩
set_option maxRecDepth 100000 in
theorem S12_eq (low_ : Int) (high_ : Int) (count_ : Int) (w0 : World) (R : Value → World → Prop) : vcFn Try.prog H12 Try.f12 [(.int .i64 low_), (.int .i64 high_), (.int .i64 count_)] w0 R = S12 low_ high_ count_ w0 R := by kernel_rfl
set_option maxRecDepth 100000 in
theorem S12_calls (low_ : Int) (high_ : Int) (count_ : Int) (w0 : World) (R : Value → World → Prop) (h : S12 low_ high_ count_ w0 R) : Calls Try.prog 12 #[(.int .i64 low_), (.int .i64 high_), (.int .i64 count_)] w0 (ret R) := by
  rw [← S12_eq] at h; exact vcFn_sound follows_ Try.func12 h

/-- querylab/distribution.Spread$1 -/
def S28 (n_ : Int) (w0 : World) (R : Value → World → Prop) : Prop :=
 br (decide (n_ < (-1000000000000))) (R (.bool true) w0)
 (R (.bool (decide (n_ > 1000000000000))) w0)
def H28 : Hints := ⟨[], [], [], []⟩
set_option maxRecDepth 100000 in
theorem S28_eq (n_ : Int) (w0 : World) (R : Value → World → Prop) : vcFn Try.prog H28 Try.f28 [(.int .i64 n_)] w0 R = S28 n_ w0 R := by kernel_rfl
set_option maxRecDepth 100000 in
theorem S28_calls (n_ : Int) (w0 : World) (R : Value → World → Prop) (h : S28 n_ w0 R) : Calls Try.prog 28 #[(.int .i64 n_)] w0 (ret R) := by
  rw [← S28_eq] at h; exact vcFn_sound follows_ Try.func28 h

/-- querylab/distribution.Quantile -/
def S14 (values_a : Option Addr) (values_n : Nat) (values_c : Nat) (p_ : Int) (q_ : Int) (w0 : World) (R : Value → World → Prop) : Prop :=
 br (decide (((values_n : Nat) : Int) > 1000)) (R (.tuple #[(.int .i64 0), (.int .i64 8)]) w0)
 (br (decide (q_ > 1000000)) (R (.tuple #[(.int .i64 0), (.int .i64 8)]) w0)
 (br (decide (q_ < 1)) (R (.tuple #[(.int .i64 0), (.int .i64 1)]) w0)
 (br (decide (p_ < 0)) (R (.tuple #[(.int .i64 0), (.int .i64 1)]) w0)
 (br (decide (p_ > q_)) (R (.tuple #[(.int .i64 0), (.int .i64 1)]) w0)
 (br (((values_n : Nat) : Int) == 0) (R (.tuple #[(.int .i64 0), (.int .i64 12)]) w0)
 (call Try.prog 30 [(.slice values_a values_n values_c)] (.one (.one .any)) w0 fun (x1 : Value) (w2 : World) => kv (fun (y1 : FV) =>
 call Try.prog 29 [y1.den] (.one (.one .slice)) w2 fun (x3 : (Option Addr × Nat × Nat)) (w4 : World) =>
 z (IntKind.wrap .i64 (p_ * ((x3.2.1 : Nat) : Int))) fun (z5 : Int) =>
 z (IntKind.wrap .i64 (z5 + q_)) fun (z6 : Int) =>
 z (IntKind.wrap .i64 (z6 - 1)) fun (z7 : Int) =>
 rdp Try.prog (cmpS .quo 3 (.tmp 43) (.tmp 44) (.int .i64 z7) (.int .i64 q_)) (.one (.int .i64)) fun (x8 : Int) =>
 z (if x8 > 1 then x8 else 1) fun (z9 : Int) =>
 z (IntKind.wrap .i64 (z9 - 1)) fun (z10 : Int) =>
 rdp Try.prog (Instr.indexAt 32 (.slice x3.1 x3.2.1 x3.2.2) (.int .i64 z10)) (.one .addr) fun (x11 : Addr) =>
 rd Try.prog (Instr.loadAt 2 (.pointer (some x11))) (.one (.int .i64)) w4 fun (x12 : Int) =>
 R (.tuple #[(.int .i64 x12), (.int .i64 0)]) w4) x1))))))
def H14 : Hints := ⟨[], [], [], []⟩
set_option maxRecDepth 100000 in
theorem S14_eq (values_a : Option Addr) (values_n : Nat) (values_c : Nat) (p_ : Int) (q_ : Int) (w0 : World) (R : Value → World → Prop) : vcFn Try.prog H14 Try.f14 [(.slice values_a values_n values_c), (.int .i64 p_), (.int .i64 q_)] w0 R = S14 values_a values_n values_c p_ q_ w0 R := by kernel_rfl
set_option maxRecDepth 100000 in
theorem S14_calls (values_a : Option Addr) (values_n : Nat) (values_c : Nat) (p_ : Int) (q_ : Int) (w0 : World) (R : Value → World → Prop) (h : S14 values_a values_n values_c p_ q_ w0 R) : Calls Try.prog 14 #[(.slice values_a values_n values_c), (.int .i64 p_), (.int .i64 q_)] w0 (ret R) := by
  rw [← S14_eq] at h; exact vcFn_sound follows_ Try.func14 h

/-- querylab/distribution.Shuffle -/
def S16 (seed_ : Int) (n_ : Int) (w0 : World) (R : Value → World → Prop) : Prop :=
 br (decide (n_ < 0)) (R (.tuple #[(.slice none 0 0), (.int .i64 1)]) w0)
 (br (decide (n_ > 1000)) (R (.tuple #[(.slice none 0 0), (.int .i64 8)]) w0)
 (wr Try.prog (Instr.makeSlice 22 (.int .i64 n_) (.int .i64 n_)) (.one .slice) w0 fun (x1 : (Option Addr × Nat × Nat)) (w2 : World) =>
 loop (T := (Int × Unit)) (0, ()) w2 fun (again3 : (Int × Unit) → World → Prop) (s4 : (Int × Unit)) w5 => ∀ _ : Nat → Value,
 br (decide (s4.1 < ((x1.2.1 : Nat) : Int))) (rdp Try.prog (Instr.indexAt 22 (.slice x1.1 x1.2.1 x1.2.2) (.int .i64 s4.1)) (.one .addr) fun (x6 : Addr) =>
 wu Try.prog (Instr.storeAt 3 (.pointer (some x6)) (.int .i64 s4.1)) w5 fun (w7 : World) =>
 z (IntKind.wrap .i64 (s4.1 + 1)) fun (z8 : Int) =>
 again3 (z8, ()) w7)
 (z (IntKind.wrap .i64 (n_ - 1)) fun (z9 : Int) =>
 loop (T := (Int × Int × Unit)) (seed_, z9, ()) w5 fun (again10 : (Int × Int × Unit) → World → Prop) (s11 : (Int × Int × Unit)) w12 => ∀ _ : Nat → Value,
 br (decide (s11.2.1 ≥ 1)) (z (IntKind.wrap .u64 (s11.1 * 6364136223846793005)) fun (z13 : Int) =>
 z (IntKind.wrap .u64 (z13 + 1442695040888963407)) fun (z14 : Int) =>
 rdp Try.prog (cmpS .shr 33 (.tmp 35) (.const (.int .u64 33)) (.int .u64 z14) (.int .u64 33)) (.one (.int .u64)) fun (x15 : Int) =>
 z (IntKind.wrap .i64 (s11.2.1 + 1)) fun (z16 : Int) =>
 z (IntKind.wrap .u64 z16) fun (z17 : Int) =>
 rdp Try.prog (cmpS .rem 33 (.tmp 36) (.tmp 39) (.int .u64 x15) (.int .u64 z17)) (.one (.int .u64)) fun (x18 : Int) =>
 z (IntKind.wrap .i64 x18) fun (z19 : Int) =>
 drw w12 fun w20 =>
 rdp Try.prog (Instr.indexAt 22 (.slice x1.1 x1.2.1 x1.2.2) (.int .i64 z19)) (.one .addr) fun (x21 : Addr) =>
 rd Try.prog (Instr.loadAt 3 (.pointer (some x21))) (.one (.int .i64)) w20 fun (x22 : Int) =>
 rdp Try.prog (Instr.indexAt 22 (.slice x1.1 x1.2.1 x1.2.2) (.int .i64 s11.2.1)) (.one .addr) fun (x23 : Addr) =>
 rd Try.prog (Instr.loadAt 3 (.pointer (some x23))) (.one (.int .i64)) w20 fun (x24 : Int) =>
 rdp Try.prog (Instr.indexAt 22 (.slice x1.1 x1.2.1 x1.2.2) (.int .i64 s11.2.1)) (.one .addr) fun (x25 : Addr) =>
 wu Try.prog (Instr.storeAt 3 (.pointer (some x25)) (.int .i64 x22)) w20 fun (w26 : World) =>
 rdp Try.prog (Instr.indexAt 22 (.slice x1.1 x1.2.1 x1.2.2) (.int .i64 z19)) (.one .addr) fun (x27 : Addr) =>
 wu Try.prog (Instr.storeAt 3 (.pointer (some x27)) (.int .i64 x24)) w26 fun (w28 : World) =>
 z (IntKind.wrap .i64 (s11.2.1 - 1)) fun (z29 : Int) =>
 again10 (z14, z29, ()) w28)
 (R (.tuple #[(.slice x1.1 x1.2.1 x1.2.2), (.int .i64 0)]) w12))))
def H16 : Hints := ⟨[(2, 0, [(18, (.one (.int .i64)))]), (2, 2, [(0, (.one (.int .u64))), (8, (.one (.int .i64)))])], [(16, 12)], [], []⟩
set_option maxRecDepth 100000 in
theorem S16_eq (seed_ : Int) (n_ : Int) (w0 : World) (R : Value → World → Prop) : vcFn Try.prog H16 Try.f16 [(.int .u64 seed_), (.int .i64 n_)] w0 R = S16 seed_ n_ w0 R := by kernel_rfl
set_option maxRecDepth 100000 in
theorem S16_calls (seed_ : Int) (n_ : Int) (w0 : World) (R : Value → World → Prop) (h : S16 seed_ n_ w0 R) : Calls Try.prog 16 #[(.int .u64 seed_), (.int .i64 n_)] w0 (ret R) := by
  rw [← S16_eq] at h; exact vcFn_sound follows_ Try.func16 h

/-- querylab/querylabref20.Spread -/
def S13 (low_ : Int) (high_ : Int) (count_ : Int) (w0 : World) (R : Value → World → Prop) : Prop :=
 br (decide (count_ > 1000)) (R (.tuple #[(.slice none 0 0), (.int .i64 8)]) w0)
 (br (decide (low_ < (-1000000000000))) (R (.tuple #[(.slice none 0 0), (.int .i64 8)]) w0)
 (br (decide (low_ > 1000000000000)) (R (.tuple #[(.slice none 0 0), (.int .i64 8)]) w0)
 (br (decide (high_ < (-1000000000000))) (R (.tuple #[(.slice none 0 0), (.int .i64 8)]) w0)
 (br (decide (high_ > 1000000000000)) (R (.tuple #[(.slice none 0 0), (.int .i64 8)]) w0)
 (br (decide (count_ < 0)) (R (.tuple #[(.slice none 0 0), (.int .i64 1)]) w0)
 (br (decide (high_ < low_)) (R (.tuple #[(.slice none 0 0), (.int .i64 1)]) w0)
 (loop (T := ((Option Addr × Nat × Nat) × Int × Unit)) ((none, 0, 0), 0, ()) w0 fun (again1 : ((Option Addr × Nat × Nat) × Int × Unit) → World → Prop) (s2 : ((Option Addr × Nat × Nat) × Int × Unit)) w3 => ∀ _ : Nat → Value,
 br (decide (s2.2.1 < count_)) (z (IntKind.wrap .i64 (high_ - low_)) fun (z4 : Int) =>
 z (IntKind.wrap .i64 (z4 + 1)) fun (z5 : Int) =>
 z (IntKind.wrap .i64 (s2.2.1 * z5)) fun (z6 : Int) =>
 rdp Try.prog (cmpS .quo 2 (.tmp 47) (.tmp 48) (.int .i64 z6) (.int .i64 count_)) (.one (.int .i64)) fun (x7 : Int) =>
 z (IntKind.wrap .i64 (low_ + x7)) fun (z8 : Int) =>
 wr Try.prog (Instr.buildSlice 32 1 #[(0, (.int .i64 z8))]) (.one .slice) w3 fun (x9 : (Option Addr × Nat × Nat)) (w10 : World) =>
 wr Try.prog (Builtin.append_ #[32, 32] 32 #[(.slice s2.1.1 s2.1.2.1 s2.1.2.2), (.slice x9.1 x9.2.1 x9.2.2)]) (.one .slice) w10 fun (x11 : (Option Addr × Nat × Nat)) (w12 : World) =>
 z (IntKind.wrap .i64 (s2.2.1 + 1)) fun (z13 : Int) =>
 again1 ((x11.1, x11.2.1, x11.2.2), z13, ()) w12)
 (R (.tuple #[(.slice s2.1.1 s2.1.2.1 s2.1.2.2), (.int .i64 0)]) w3))))))))
def H13 : Hints := ⟨[(2, 0, [(8, (.one .slice)), (9, (.one (.int .i64)))])], [], [], []⟩
set_option maxRecDepth 100000 in
theorem S13_eq (low_ : Int) (high_ : Int) (count_ : Int) (w0 : World) (R : Value → World → Prop) : vcFn Try.prog H13 Try.f13 [(.int .i64 low_), (.int .i64 high_), (.int .i64 count_)] w0 R = S13 low_ high_ count_ w0 R := by kernel_rfl
set_option maxRecDepth 100000 in
theorem S13_calls (low_ : Int) (high_ : Int) (count_ : Int) (w0 : World) (R : Value → World → Prop) (h : S13 low_ high_ count_ w0 R) : Calls Try.prog 13 #[(.int .i64 low_), (.int .i64 high_), (.int .i64 count_)] w0 (ret R) := by
  rw [← S13_eq] at h; exact vcFn_sound follows_ Try.func13 h

/-- querylab/querylabref20.Quantile -/
def S15 (values_a : Option Addr) (values_n : Nat) (values_c : Nat) (p_ : Int) (q_ : Int) (w0 : World) (R : Value → World → Prop) : Prop :=
 br (decide (((values_n : Nat) : Int) > 1000)) (R (.tuple #[(.int .i64 0), (.int .i64 8)]) w0)
 (br (decide (q_ > 1000000)) (R (.tuple #[(.int .i64 0), (.int .i64 8)]) w0)
 (br (decide (q_ < 1)) (R (.tuple #[(.int .i64 0), (.int .i64 1)]) w0)
 (br (decide (p_ < 0)) (R (.tuple #[(.int .i64 0), (.int .i64 1)]) w0)
 (br (decide (p_ > q_)) (R (.tuple #[(.int .i64 0), (.int .i64 1)]) w0)
 (br (((values_n : Nat) : Int) == 0) (R (.tuple #[(.int .i64 0), (.int .i64 12)]) w0)
 (call Try.prog 19 [(.slice values_a values_n values_c)] (.one (.one .slice)) w0 fun (x1 : (Option Addr × Nat × Nat)) (w2 : World) =>
 loop (T := (Int × Unit)) (0, ()) w2 fun (again3 : (Int × Unit) → World → Prop) (s4 : (Int × Unit)) w5 => ∀ _ : Nat → Value,
 br (decide (s4.1 < ((x1.2.1 : Nat) : Int))) (loop (T := (Int × Int × Unit)) (0, 0, ()) w5 fun (again6 : (Int × Int × Unit) → World → Prop) (s7 : (Int × Int × Unit)) w8 => ∀ _ : Nat → Value,
 br (decide (s7.2.1 < ((x1.2.1 : Nat) : Int))) (join (T := (Int × Unit)) (fun (s10 : (Int × Unit)) w11 => ∀ _ : Nat → Value,
 z (IntKind.wrap .i64 (s7.2.1 + 1)) fun (z12 : Int) =>
 again6 (s10.1, z12, ()) w11)
  fun (K9 : (Int × Unit) → World → Prop) =>
 drw w8 fun w13 =>
 rdp Try.prog (Instr.indexAt 32 (.slice x1.1 x1.2.1 x1.2.2) (.int .i64 s7.2.1)) (.one .addr) fun (x14 : Addr) =>
 rd Try.prog (Instr.loadAt 2 (.pointer (some x14))) (.one (.int .i64)) w13 fun (x15 : Int) =>
 rdp Try.prog (Instr.indexAt 32 (.slice x1.1 x1.2.1 x1.2.2) (.int .i64 s4.1)) (.one .addr) fun (x16 : Addr) =>
 rd Try.prog (Instr.loadAt 2 (.pointer (some x16))) (.one (.int .i64)) w13 fun (x17 : Int) =>
 br (decide (x15 ≤ x17)) (z (IntKind.wrap .i64 (s7.1 + 1)) fun (z18 : Int) =>
 K9 (z18, ()) w13)
 (K9 (s7.1, ()) w13))
 (z (IntKind.wrap .i64 (s7.1 * q_)) fun (z19 : Int) =>
 z (IntKind.wrap .i64 (p_ * ((x1.2.1 : Nat) : Int))) fun (z20 : Int) =>
 br (decide (z19 ≥ z20)) (rdp Try.prog (Instr.indexAt 32 (.slice x1.1 x1.2.1 x1.2.2) (.int .i64 s4.1)) (.one .addr) fun (x21 : Addr) =>
 rd Try.prog (Instr.loadAt 2 (.pointer (some x21))) (.one (.int .i64)) w8 fun (x22 : Int) =>
 R (.tuple #[(.int .i64 x22), (.int .i64 0)]) w8)
 (z (IntKind.wrap .i64 (s4.1 + 1)) fun (z23 : Int) =>
 again3 (z23, ()) w8)))
 (z (IntKind.wrap .i64 (((x1.2.1 : Nat) : Int) - 1)) fun (z24 : Int) =>
 rdp Try.prog (Instr.indexAt 32 (.slice x1.1 x1.2.1 x1.2.2) (.int .i64 z24)) (.one .addr) fun (x25 : Addr) =>
 rd Try.prog (Instr.loadAt 2 (.pointer (some x25))) (.one (.int .i64)) w5 fun (x26 : Int) =>
 R (.tuple #[(.int .i64 x26), (.int .i64 0)]) w5)))))))
def H15 : Hints := ⟨[(2, 0, [(9, (.one (.int .i64)))]), (2, 2, [(10, (.one (.int .i64))), (11, (.one (.int .i64)))]), (1, 3, [(10, (.one (.int .i64)))])], [(15, 8)], [], []⟩
set_option maxRecDepth 100000 in
theorem S15_eq (values_a : Option Addr) (values_n : Nat) (values_c : Nat) (p_ : Int) (q_ : Int) (w0 : World) (R : Value → World → Prop) : vcFn Try.prog H15 Try.f15 [(.slice values_a values_n values_c), (.int .i64 p_), (.int .i64 q_)] w0 R = S15 values_a values_n values_c p_ q_ w0 R := by kernel_rfl
set_option maxRecDepth 100000 in
theorem S15_calls (values_a : Option Addr) (values_n : Nat) (values_c : Nat) (p_ : Int) (q_ : Int) (w0 : World) (R : Value → World → Prop) (h : S15 values_a values_n values_c p_ q_ w0 R) : Calls Try.prog 15 #[(.slice values_a values_n values_c), (.int .i64 p_), (.int .i64 q_)] w0 (ret R) := by
  rw [← S15_eq] at h; exact vcFn_sound follows_ Try.func15 h

/-- querylab/querylabref20.Shuffle -/
def S17 (seed_ : Int) (n_ : Int) (w0 : World) (R : Value → World → Prop) : Prop :=
 br (decide (n_ < 0)) (R (.tuple #[(.slice none 0 0), (.int .i64 1)]) w0)
 (br (decide (n_ > 1000)) (R (.tuple #[(.slice none 0 0), (.int .i64 8)]) w0)
 (loop (T := ((Option Addr × Nat × Nat) × Int × Unit)) ((none, 0, 0), 0, ()) w0 fun (again1 : ((Option Addr × Nat × Nat) × Int × Unit) → World → Prop) (s2 : ((Option Addr × Nat × Nat) × Int × Unit)) w3 => ∀ _ : Nat → Value,
 br (decide (s2.2.1 < n_)) (wr Try.prog (Instr.buildSlice 22 1 #[(0, (.int .i64 s2.2.1))]) (.one .slice) w3 fun (x4 : (Option Addr × Nat × Nat)) (w5 : World) =>
 wr Try.prog (Builtin.append_ #[22, 22] 22 #[(.slice s2.1.1 s2.1.2.1 s2.1.2.2), (.slice x4.1 x4.2.1 x4.2.2)]) (.one .slice) w5 fun (x6 : (Option Addr × Nat × Nat)) (w7 : World) =>
 z (IntKind.wrap .i64 (s2.2.1 + 1)) fun (z8 : Int) =>
 again1 ((x6.1, x6.2.1, x6.2.2), z8, ()) w7)
 (z (IntKind.wrap .i64 (n_ - 1)) fun (z9 : Int) =>
 loop (T := (Int × Int × Unit)) (seed_, z9, ()) w3 fun (again10 : (Int × Int × Unit) → World → Prop) (s11 : (Int × Int × Unit)) w12 => ∀ _ : Nat → Value,
 br (decide (s11.2.1 ≥ 1)) (z (IntKind.wrap .u64 (s11.1 * 6364136223846793005)) fun (z13 : Int) =>
 z (IntKind.wrap .u64 (z13 + 1442695040888963407)) fun (z14 : Int) =>
 rdp Try.prog (cmpS .shr 33 (.tmp 32) (.const (.int .u64 33)) (.int .u64 z14) (.int .u64 33)) (.one (.int .u64)) fun (x15 : Int) =>
 z (IntKind.wrap .i64 (s11.2.1 + 1)) fun (z16 : Int) =>
 z (IntKind.wrap .u64 z16) fun (z17 : Int) =>
 rdp Try.prog (cmpS .rem 33 (.tmp 33) (.tmp 36) (.int .u64 x15) (.int .u64 z17)) (.one (.int .u64)) fun (x18 : Int) =>
 z (IntKind.wrap .i64 x18) fun (z19 : Int) =>
 drw w12 fun w20 =>
 rdp Try.prog (Instr.indexAt 22 (.slice s2.1.1 s2.1.2.1 s2.1.2.2) (.int .i64 z19)) (.one .addr) fun (x21 : Addr) =>
 rd Try.prog (Instr.loadAt 3 (.pointer (some x21))) (.one (.int .i64)) w20 fun (x22 : Int) =>
 rdp Try.prog (Instr.indexAt 22 (.slice s2.1.1 s2.1.2.1 s2.1.2.2) (.int .i64 s11.2.1)) (.one .addr) fun (x23 : Addr) =>
 rd Try.prog (Instr.loadAt 3 (.pointer (some x23))) (.one (.int .i64)) w20 fun (x24 : Int) =>
 rdp Try.prog (Instr.indexAt 22 (.slice s2.1.1 s2.1.2.1 s2.1.2.2) (.int .i64 s11.2.1)) (.one .addr) fun (x25 : Addr) =>
 wu Try.prog (Instr.storeAt 3 (.pointer (some x25)) (.int .i64 x22)) w20 fun (w26 : World) =>
 rdp Try.prog (Instr.indexAt 22 (.slice s2.1.1 s2.1.2.1 s2.1.2.2) (.int .i64 z19)) (.one .addr) fun (x27 : Addr) =>
 wu Try.prog (Instr.storeAt 3 (.pointer (some x27)) (.int .i64 x24)) w26 fun (w28 : World) =>
 z (IntKind.wrap .i64 (s11.2.1 - 1)) fun (z29 : Int) =>
 again10 (z14, z29, ()) w28)
 (R (.tuple #[(.slice s2.1.1 s2.1.2.1 s2.1.2.2), (.int .i64 0)]) w12))))
def H17 : Hints := ⟨[(2, 0, [(6, (.one .slice)), (7, (.one (.int .i64)))]), (2, 2, [(0, (.one (.int .u64))), (8, (.one (.int .i64)))])], [(15, 12)], [], []⟩
set_option maxRecDepth 100000 in
theorem S17_eq (seed_ : Int) (n_ : Int) (w0 : World) (R : Value → World → Prop) : vcFn Try.prog H17 Try.f17 [(.int .u64 seed_), (.int .i64 n_)] w0 R = S17 seed_ n_ w0 R := by kernel_rfl
set_option maxRecDepth 100000 in
theorem S17_calls (seed_ : Int) (n_ : Int) (w0 : World) (R : Value → World → Prop) (h : S17 seed_ n_ w0 R) : Calls Try.prog 17 #[(.int .u64 seed_), (.int .i64 n_)] w0 (ret R) := by
  rw [← S17_eq] at h; exact vcFn_sound follows_ Try.func17 h

/-- querylab/querylabref20.Sorted -/
def S19 (l_a : Option Addr) (l_n : Nat) (l_c : Nat) (w0 : World) (R : Value → World → Prop) : Prop :=
 br (decide (((l_n : Nat) : Int) < 2)) (wr Try.prog (Builtin.append_ #[32, 32] 32 #[(.slice none 0 0), (.slice l_a l_n l_c)]) (.one .slice) w0 fun (x1 : (Option Addr × Nat × Nat)) (w2 : World) =>
 R (.slice x1.1 x1.2.1 x1.2.2) w2)
 (drw w0 fun w3 => flEx fun F4 =>
 rdp Try.prog (cmpS .quo 3 (.tmp 17) (.const (.int .i64 2)) (.int .i64 ((l_n : Nat) : Int)) (.int .i64 2)) (.one (.int .i64)) fun (x5 : Int) =>
 rdp Try.prog (Instr.sliceAt 32 (.slice l_a l_n l_c) none (some (.int .i64 x5)) none) (.one .slice) fun (x6 : (Option Addr × Nat × Nat)) =>
 flc bel w3 (fun _w8 => True) (fun (w7 : World) =>
   call Try.prog 19 [(.slice x6.1 x6.2.1 x6.2.2)] (.one (.one .slice)) w7 fun (x9 : (Option Addr × Nat × Nat)) (w10 : World) =>
 (bel w7 w10 ∧ F4 5 [(.slice x6.1 x6.2.1 x6.2.2)] (.slice x9.1 x9.2.1 x9.2.2) w10))
  fun (x11 : (Option Addr × Nat × Nat)) =>
 rdp Try.prog (cmpS .quo 3 (.tmp 23) (.const (.int .i64 2)) (.int .i64 ((l_n : Nat) : Int)) (.int .i64 2)) (.one (.int .i64)) fun (x12 : Int) =>
 rdp Try.prog (Instr.sliceAt 32 (.slice l_a l_n l_c) (some (.int .i64 x12)) none none) (.one .slice) fun (x13 : (Option Addr × Nat × Nat)) =>
 flend bel w3 (fun w15 => F4 5 [(.slice x6.1 x6.2.1 x6.2.2)] (.slice x11.1 x11.2.1 x11.2.2) w15 ∧ True) fun w14 =>
 call Try.prog 19 [(.slice x13.1 x13.2.1 x13.2.2)] (.one (.one .slice)) w14 fun (x16 : (Option Addr × Nat × Nat)) (w17 : World) =>
 loop (T := ((Option Addr × Nat × Nat) × Int × Int × Unit)) ((none, 0, 0), 0, 0, ()) w17 fun (again18 : ((Option Addr × Nat × Nat) × Int × Int × Unit) → World → Prop) (s19 : ((Option Addr × Nat × Nat) × Int × Int × Unit)) w20 => ∀ _ : Nat → Value,
 join (T := (Unit)) (fun (_s22 : (Unit)) w23 => ∀ _ : Nat → Value,
 join (T := (Bool × Unit)) (fun (s25 : (Bool × Unit)) w26 => ∀ _ : Nat → Value,
 br s25.1 (rdp Try.prog (Instr.indexAt 32 (.slice x11.1 x11.2.1 x11.2.2) (.int .i64 s19.2.1)) (.one .addr) fun (x27 : Addr) =>
 rd Try.prog (Instr.loadAt 2 (.pointer (some x27))) (.one (.int .i64)) w26 fun (x28 : Int) =>
 wr Try.prog (Instr.buildSlice 32 1 #[(0, (.int .i64 x28))]) (.one .slice) w26 fun (x29 : (Option Addr × Nat × Nat)) (w30 : World) =>
 wr Try.prog (Builtin.append_ #[32, 32] 32 #[(.slice s19.1.1 s19.1.2.1 s19.1.2.2), (.slice x29.1 x29.2.1 x29.2.2)]) (.one .slice) w30 fun (x31 : (Option Addr × Nat × Nat)) (w32 : World) =>
 z (IntKind.wrap .i64 (s19.2.1 + 1)) fun (z33 : Int) =>
 again18 ((x31.1, x31.2.1, x31.2.2), z33, s19.2.2.1, ()) w32)
 (rdp Try.prog (Instr.indexAt 32 (.slice x16.1 x16.2.1 x16.2.2) (.int .i64 s19.2.2.1)) (.one .addr) fun (x34 : Addr) =>
 rd Try.prog (Instr.loadAt 2 (.pointer (some x34))) (.one (.int .i64)) w26 fun (x35 : Int) =>
 wr Try.prog (Instr.buildSlice 32 1 #[(0, (.int .i64 x35))]) (.one .slice) w26 fun (x36 : (Option Addr × Nat × Nat)) (w37 : World) =>
 wr Try.prog (Builtin.append_ #[32, 32] 32 #[(.slice s19.1.1 s19.1.2.1 s19.1.2.2), (.slice x36.1 x36.2.1 x36.2.2)]) (.one .slice) w37 fun (x38 : (Option Addr × Nat × Nat)) (w39 : World) =>
 z (IntKind.wrap .i64 (s19.2.2.1 + 1)) fun (z40 : Int) =>
 again18 ((x38.1, x38.2.1, x38.2.2), s19.2.1, z40, ()) w39))
  fun (K24 : (Bool × Unit) → World → Prop) =>
 drw w23 fun w41 =>
 br (s19.2.2.1 == ((x16.2.1 : Nat) : Int)) (K24 (true, ()) w41)
 (br (decide (s19.2.1 < ((x11.2.1 : Nat) : Int))) (rdp Try.prog (Instr.indexAt 32 (.slice x11.1 x11.2.1 x11.2.2) (.int .i64 s19.2.1)) (.one .addr) fun (x42 : Addr) =>
 rd Try.prog (Instr.loadAt 2 (.pointer (some x42))) (.one (.int .i64)) w41 fun (x43 : Int) =>
 rdp Try.prog (Instr.indexAt 32 (.slice x16.1 x16.2.1 x16.2.2) (.int .i64 s19.2.2.1)) (.one .addr) fun (x44 : Addr) =>
 rd Try.prog (Instr.loadAt 2 (.pointer (some x44))) (.one (.int .i64)) w41 fun (x45 : Int) =>
 K24 ((decide (x43 ≤ x45)), ()) w41)
 (K24 (false, ()) w41)))
  fun (K21 : (Unit) → World → Prop) =>
 br (decide (s19.2.1 < ((x11.2.1 : Nat) : Int))) (K21 (()) w20)
 (br (decide (s19.2.2.1 < ((x16.2.1 : Nat) : Int))) (K21 (()) w20)
 (R (.slice s19.1.1 s19.1.2.1 s19.1.2.2) w20)))
def H19 : Hints := ⟨[(2, 0, [(6, (.one .slice)), (7, (.one (.int .i64))), (8, (.one (.int .i64)))]), (0, 36, []), (3, 8, [(57, (.one .bool))])], [(4, 11), (8, 18)], [], []⟩
set_option maxRecDepth 100000 in
theorem S19_eq (l_a : Option Addr) (l_n : Nat) (l_c : Nat) (w0 : World) (R : Value → World → Prop) : vcFn Try.prog H19 Try.f19 [(.slice l_a l_n l_c)] w0 R = S19 l_a l_n l_c w0 R := by kernel_rfl
set_option maxRecDepth 100000 in
theorem S19_calls (l_a : Option Addr) (l_n : Nat) (l_c : Nat) (w0 : World) (R : Value → World → Prop) (h : S19 l_a l_n l_c w0 R) : Calls Try.prog 19 #[(.slice l_a l_n l_c)] w0 (ret R) := by
  rw [← S19_eq] at h; exact vcFn_sound follows_ Try.func19 h

/-- querylab/querylablaw20.numbers -/
def S18 (a_a : Option Addr) (a_n : Nat) (a_c : Nat) (b_a : Option Addr) (b_n : Nat) (b_c : Nat) (w0 : World) (R : Value → World → Prop) : Prop :=
 br (((a_n : Nat) : Int) != ((b_n : Nat) : Int)) (R (.bool false) w0)
 (loop (T := (Int × Unit)) (0, ()) w0 fun (again1 : (Int × Unit) → World → Prop) (s2 : (Int × Unit)) w3 => ∀ _ : Nat → Value,
 br (decide (s2.1 < ((a_n : Nat) : Int))) (drw w3 fun w4 =>
 rdp Try.prog (Instr.indexAt 32 (.slice a_a a_n a_c) (.int .i64 s2.1)) (.one .addr) fun (x5 : Addr) =>
 rd Try.prog (Instr.loadAt 2 (.pointer (some x5))) (.one (.int .i64)) w4 fun (x6 : Int) =>
 rdp Try.prog (Instr.indexAt 32 (.slice b_a b_n b_c) (.int .i64 s2.1)) (.one .addr) fun (x7 : Addr) =>
 rd Try.prog (Instr.loadAt 2 (.pointer (some x7))) (.one (.int .i64)) w4 fun (x8 : Int) =>
 br (x6 != x8) (R (.bool false) w4)
 (z (IntKind.wrap .i64 (s2.1 + 1)) fun (z9 : Int) =>
 again1 (z9, ()) w4))
 (R (.bool true) w3))
def H18 : Hints := ⟨[(2, 0, [(5, (.one (.int .i64)))])], [(6, 8)], [], []⟩
set_option maxRecDepth 100000 in
theorem S18_eq (a_a : Option Addr) (a_n : Nat) (a_c : Nat) (b_a : Option Addr) (b_n : Nat) (b_c : Nat) (w0 : World) (R : Value → World → Prop) : vcFn Try.prog H18 Try.f18 [(.slice a_a a_n a_c), (.slice b_a b_n b_c)] w0 R = S18 a_a a_n a_c b_a b_n b_c w0 R := by kernel_rfl
set_option maxRecDepth 100000 in
theorem S18_calls (a_a : Option Addr) (a_n : Nat) (a_c : Nat) (b_a : Option Addr) (b_n : Nat) (b_c : Nat) (w0 : World) (R : Value → World → Prop) (h : S18 a_a a_n a_c b_a b_n b_c w0 R) : Calls Try.prog 18 #[(.slice a_a a_n a_c), (.slice b_a b_n b_c)] w0 (ret R) := by
  rw [← S18_eq] at h; exact vcFn_sound follows_ Try.func18 h

/-- querylab/querylablaw20.DistributionSpreads -/
def S5 (low_ : Int) (high_ : Int) (count_ : Int) (l_a : Option Addr) (l_n : Nat) (l_c : Nat) (p_ : Int) (q_ : Int) (seed_ : Int) (w0 : World) (R : Value → World → Prop) : Prop :=
 br (decide (((l_n : Nat) : Int) > 100)) (R (.bool true) w0)
 (call Try.prog 12 [(.int .i64 low_), (.int .i64 high_), (.int .i64 count_)] (.many [(.one .slice), (.one (.int .i64))]) w0 fun (x1 : ((Option Addr × Nat × Nat) × Int × Unit)) (w2 : World) =>
 call Try.prog 13 [(.int .i64 low_), (.int .i64 high_), (.int .i64 count_)] (.many [(.one .slice), (.one (.int .i64))]) w2 fun (x3 : ((Option Addr × Nat × Nat) × Int × Unit)) (w4 : World) =>
 call Try.prog 14 [(.slice l_a l_n l_c), (.int .i64 p_), (.int .i64 q_)] (.many [(.one (.int .i64)), (.one (.int .i64))]) w4 fun (x5 : (Int × Int × Unit)) (w6 : World) =>
 call Try.prog 15 [(.slice l_a l_n l_c), (.int .i64 p_), (.int .i64 q_)] (.many [(.one (.int .i64)), (.one (.int .i64))]) w6 fun (x7 : (Int × Int × Unit)) (w8 : World) =>
 call Try.prog 16 [(.int .u64 seed_), (.int .i64 count_)] (.many [(.one .slice), (.one (.int .i64))]) w8 fun (x9 : ((Option Addr × Nat × Nat) × Int × Unit)) (w10 : World) =>
 call Try.prog 17 [(.int .u64 seed_), (.int .i64 count_)] (.many [(.one .slice), (.one (.int .i64))]) w10 fun (x11 : ((Option Addr × Nat × Nat) × Int × Unit)) (w12 : World) =>
 call Try.prog 18 [(.slice x1.1.1 x1.1.2.1 x1.1.2.2), (.slice x3.1.1 x3.1.2.1 x3.1.2.2)] (.one (.one .bool)) w12 fun (x13 : Bool) (w14 : World) =>
 br x13 (br (x1.2.1 == x3.2.1) (br (x5.1 == x7.1) (br (x5.2.1 == x7.2.1) (call Try.prog 11 [(.slice x9.1.1 x9.1.2.1 x9.1.2.2), (.slice x11.1.1 x11.1.2.1 x11.1.2.2)] (.one (.one .bool)) w14 fun (x15 : Bool) (w16 : World) =>
 br x15 (R (.bool (x9.2.1 == x11.2.1)) w16)
 (R (.bool false) w16))
 (R (.bool false) w14))
 (R (.bool false) w14))
 (R (.bool false) w14))
 (R (.bool false) w14))
def H5 : Hints := ⟨[], [], [], []⟩
set_option maxRecDepth 100000 in
theorem S5_eq (low_ : Int) (high_ : Int) (count_ : Int) (l_a : Option Addr) (l_n : Nat) (l_c : Nat) (p_ : Int) (q_ : Int) (seed_ : Int) (w0 : World) (R : Value → World → Prop) : vcFn Try.prog H5 Try.f5 [(.int .i64 low_), (.int .i64 high_), (.int .i64 count_), (.slice l_a l_n l_c), (.int .i64 p_), (.int .i64 q_), (.int .u64 seed_)] w0 R = S5 low_ high_ count_ l_a l_n l_c p_ q_ seed_ w0 R := by kernel_rfl
set_option maxRecDepth 100000 in
theorem S5_calls (low_ : Int) (high_ : Int) (count_ : Int) (l_a : Option Addr) (l_n : Nat) (l_c : Nat) (p_ : Int) (q_ : Int) (seed_ : Int) (w0 : World) (R : Value → World → Prop) (h : S5 low_ high_ count_ l_a l_n l_c p_ q_ seed_ w0 R) : Calls Try.prog 5 #[(.int .i64 low_), (.int .i64 high_), (.int .i64 count_), (.slice l_a l_n l_c), (.int .i64 p_), (.int .i64 q_), (.int .u64 seed_)] w0 (ret R) := by
  rw [← S5_eq] at h; exact vcFn_sound follows_ Try.func5 h

/-- querylab/querylablaw20.DistributionOrders -/
def S6 (low_ : Int) (width_ : Int) (count_ : Int) (small_a : Option Addr) (small_n : Nat) (small_c : Nat) (seed_ : Int) (w0 : World) (R : Value → World → Prop) : Prop :=
 br (((small_n : Nat) : Int) == 0) (R (.bool true) w0)
 (br (decide (((small_n : Nat) : Int) > 60)) (R (.bool true) w0)
 (z (IntKind.wrap .i64 count_) fun (z1 : Int) =>
 z (IntKind.wrap .i64 (1 + z1)) fun (z2 : Int) =>
 z (IntKind.wrap .i64 low_) fun (z3 : Int) =>
 z (IntKind.wrap .i64 low_) fun (z4 : Int) =>
 z (IntKind.wrap .i64 width_) fun (z5 : Int) =>
 z (IntKind.wrap .i64 (z4 + z5)) fun (z6 : Int) =>
 call Try.prog 12 [(.int .i64 z3), (.int .i64 z6), (.int .i64 z2)] (.many [(.one .slice), (.one (.int .i64))]) w0 fun (x7 : ((Option Addr × Nat × Nat) × Int × Unit)) (w8 : World) =>
 call Try.prog 16 [(.int .u64 seed_), (.int .i64 z2)] (.many [(.one .slice), (.one (.int .i64))]) w8 fun (x9 : ((Option Addr × Nat × Nat) × Int × Unit)) (w10 : World) =>
 br (x7.2.1 != 0) (R (.bool false) w10)
 (br (x9.2.1 != 0) (R (.bool false) w10)
 (br (((x7.1.2.1 : Nat) : Int) != z2) (R (.bool false) w10)
 (br (((x9.1.2.1 : Nat) : Int) != z2) (R (.bool false) w10)
 (wr Try.prog (Instr.makeSlice 42 (.int .i64 z2) (.int .i64 z2)) (.one .slice) w10 fun (x11 : (Option Addr × Nat × Nat)) (w12 : World) =>
 loop (T := (Int × Unit)) (0, ()) w12 fun (again13 : (Int × Unit) → World → Prop) (s14 : (Int × Unit)) w15 => ∀ _ : Nat → Value,
 br (decide (s14.1 < z2)) (join (T := (Unit)) (fun (_s17 : (Unit)) w18 => ∀ _ : Nat → Value,
 z (IntKind.wrap .i64 (s14.1 + 1)) fun (z19 : Int) =>
 again13 (z19, ()) w18)
  fun (K16 : (Unit) → World → Prop) =>
 join (T := (Unit)) (fun (_s21 : (Unit)) w22 => ∀ _ : Nat → Value,
 rdp Try.prog (Instr.indexAt 22 (.slice x9.1.1 x9.1.2.1 x9.1.2.2) (.int .i64 s14.1)) (.one .addr) fun (x23 : Addr) =>
 rd Try.prog (Instr.loadAt 3 (.pointer (some x23))) (.one (.int .i64)) w22 fun (x24 : Int) =>
 rdp Try.prog (Instr.indexAt 42 (.slice x11.1 x11.2.1 x11.2.2) (.int .i64 x24)) (.one .addr) fun (x25 : Addr) =>
 wu Try.prog (Instr.storeAt 4 (.pointer (some x25)) (.bool true)) w22 fun (w26 : World) =>
 K16 (()) w26)
  fun (K20 : (Unit) → World → Prop) =>
 join (T := (Bool × Unit)) (fun (s28 : (Bool × Unit)) w29 => ∀ _ : Nat → Value,
 br s28.1 (R (.bool false) w29)
 (K20 (()) w29))
  fun (K27 : (Bool × Unit) → World → Prop) =>
 drw w15 fun w30 =>
 rdp Try.prog (Instr.indexAt 32 (.slice x7.1.1 x7.1.2.1 x7.1.2.2) (.int .i64 s14.1)) (.one .addr) fun (x31 : Addr) =>
 rd Try.prog (Instr.loadAt 2 (.pointer (some x31))) (.one (.int .i64)) w30 fun (x32 : Int) =>
 z (IntKind.wrap .i64 low_) fun (z33 : Int) =>
 br (decide (x32 < z33)) (K27 (true, ()) w30)
 (rdp Try.prog (Instr.indexAt 32 (.slice x7.1.1 x7.1.2.1 x7.1.2.2) (.int .i64 s14.1)) (.one .addr) fun (x34 : Addr) =>
 rd Try.prog (Instr.loadAt 2 (.pointer (some x34))) (.one (.int .i64)) w30 fun (x35 : Int) =>
 z (IntKind.wrap .i64 low_) fun (z36 : Int) =>
 z (IntKind.wrap .i64 width_) fun (z37 : Int) =>
 z (IntKind.wrap .i64 (z36 + z37)) fun (z38 : Int) =>
 br (decide (x35 > z38)) (K27 (true, ()) w30)
 (br (decide (s14.1 > 0)) (rdp Try.prog (Instr.indexAt 32 (.slice x7.1.1 x7.1.2.1 x7.1.2.2) (.int .i64 s14.1)) (.one .addr) fun (x39 : Addr) =>
 rd Try.prog (Instr.loadAt 2 (.pointer (some x39))) (.one (.int .i64)) w30 fun (x40 : Int) =>
 z (IntKind.wrap .i64 (s14.1 - 1)) fun (z41 : Int) =>
 rdp Try.prog (Instr.indexAt 32 (.slice x7.1.1 x7.1.2.1 x7.1.2.2) (.int .i64 z41)) (.one .addr) fun (x42 : Addr) =>
 rd Try.prog (Instr.loadAt 2 (.pointer (some x42))) (.one (.int .i64)) w30 fun (x43 : Int) =>
 br (decide (x40 < x43)) (K27 (true, ()) w30)
 (rdp Try.prog (Instr.indexAt 22 (.slice x9.1.1 x9.1.2.1 x9.1.2.2) (.int .i64 s14.1)) (.one .addr) fun (x44 : Addr) =>
 rd Try.prog (Instr.loadAt 3 (.pointer (some x44))) (.one (.int .i64)) w30 fun (x45 : Int) =>
 br (decide (x45 < 0)) (K27 (true, ()) w30)
 (rdp Try.prog (Instr.indexAt 22 (.slice x9.1.1 x9.1.2.1 x9.1.2.2) (.int .i64 s14.1)) (.one .addr) fun (x46 : Addr) =>
 rd Try.prog (Instr.loadAt 3 (.pointer (some x46))) (.one (.int .i64)) w30 fun (x47 : Int) =>
 br (decide (x47 ≥ z2)) (K27 (true, ()) w30)
 (rdp Try.prog (Instr.indexAt 22 (.slice x9.1.1 x9.1.2.1 x9.1.2.2) (.int .i64 s14.1)) (.one .addr) fun (x48 : Addr) =>
 rd Try.prog (Instr.loadAt 3 (.pointer (some x48))) (.one (.int .i64)) w30 fun (x49 : Int) =>
 rdp Try.prog (Instr.indexAt 42 (.slice x11.1 x11.2.1 x11.2.2) (.int .i64 x49)) (.one .addr) fun (x50 : Addr) =>
 rd Try.prog (Instr.loadAt 4 (.pointer (some x50))) (.one .bool) w30 fun (x51 : Bool) =>
 K27 (x51, ()) w30))))
 (rdp Try.prog (Instr.indexAt 22 (.slice x9.1.1 x9.1.2.1 x9.1.2.2) (.int .i64 s14.1)) (.one .addr) fun (x52 : Addr) =>
 rd Try.prog (Instr.loadAt 3 (.pointer (some x52))) (.one (.int .i64)) w30 fun (x53 : Int) =>
 br (decide (x53 < 0)) (K27 (true, ()) w30)
 (rdp Try.prog (Instr.indexAt 22 (.slice x9.1.1 x9.1.2.1 x9.1.2.2) (.int .i64 s14.1)) (.one .addr) fun (x54 : Addr) =>
 rd Try.prog (Instr.loadAt 3 (.pointer (some x54))) (.one (.int .i64)) w30 fun (x55 : Int) =>
 br (decide (x55 ≥ z2)) (K27 (true, ()) w30)
 (rdp Try.prog (Instr.indexAt 22 (.slice x9.1.1 x9.1.2.1 x9.1.2.2) (.int .i64 s14.1)) (.one .addr) fun (x56 : Addr) =>
 rd Try.prog (Instr.loadAt 3 (.pointer (some x56))) (.one (.int .i64)) w30 fun (x57 : Int) =>
 rdp Try.prog (Instr.indexAt 42 (.slice x11.1 x11.2.1 x11.2.2) (.int .i64 x57)) (.one .addr) fun (x58 : Addr) =>
 rd Try.prog (Instr.loadAt 4 (.pointer (some x58))) (.one .bool) w30 fun (x59 : Bool) =>
 K27 (x59, ()) w30))))))
 (loop (T := ((Option Addr × Nat × Nat) × Int × Unit)) ((none, 0, 0), 0, ()) w15 fun (again60 : ((Option Addr × Nat × Nat) × Int × Unit) → World → Prop) (s61 : ((Option Addr × Nat × Nat) × Int × Unit)) w62 => ∀ _ : Nat → Value,
 br (decide (s61.2.1 < ((small_n : Nat) : Int))) (rdp Try.prog (Instr.indexAt 41 (.slice small_a small_n small_c) (.int .i64 s61.2.1)) (.one .addr) fun (x63 : Addr) =>
 rd Try.prog (Instr.loadAt 43 (.pointer (some x63))) (.one (.int .i8)) w62 fun (x64 : Int) =>
 z (IntKind.wrap .i64 x64) fun (z65 : Int) =>
 wr Try.prog (Instr.buildSlice 32 1 #[(0, (.int .i64 z65))]) (.one .slice) w62 fun (x66 : (Option Addr × Nat × Nat)) (w67 : World) =>
 wr Try.prog (Builtin.append_ #[32, 32] 32 #[(.slice s61.1.1 s61.1.2.1 s61.1.2.2), (.slice x66.1 x66.2.1 x66.2.2)]) (.one .slice) w67 fun (x68 : (Option Addr × Nat × Nat)) (w69 : World) =>
 z (IntKind.wrap .i64 (s61.2.1 + 1)) fun (z70 : Int) =>
 again60 ((x68.1, x68.2.1, x68.2.2), z70, ()) w69)
 (loop (T := (Int × Int × Unit)) ((-1000), 0, ()) w62 fun (again71 : (Int × Int × Unit) → World → Prop) (s72 : (Int × Int × Unit)) w73 => ∀ _ : Nat → Value,
 br (decide (s72.2.1 ≤ 8)) (call Try.prog 14 [(.slice s61.1.1 s61.1.2.1 s61.1.2.2), (.int .i64 s72.2.1), (.int .i64 8)] (.many [(.one (.int .i64)), (.one (.int .i64))]) w73 fun (x74 : (Int × Int × Unit)) (w75 : World) =>
 br (x74.2.1 != 0) (R (.bool false) w75)
 (br (decide (x74.1 < s72.1)) (R (.bool false) w75)
 (z (IntKind.wrap .i64 (s72.2.1 + 1)) fun (z76 : Int) =>
 again71 (x74.1, z76, ()) w75)))
 (call Try.prog 19 [(.slice s61.1.1 s61.1.2.1 s61.1.2.2)] (.one (.one .slice)) w73 fun (x77 : (Option Addr × Nat × Nat)) (w78 : World) =>
 z (IntKind.wrap .i64 (((x77.2.1 : Nat) : Int) - 1)) fun (z79 : Int) =>
 rdp Try.prog (Instr.indexAt 32 (.slice x77.1 x77.2.1 x77.2.2) (.int .i64 z79)) (.one .addr) fun (x80 : Addr) =>
 rd Try.prog (Instr.loadAt 2 (.pointer (some x80))) (.one (.int .i64)) w78 fun (x81 : Int) =>
 br (s72.1 == x81) (rdp Try.prog (Instr.indexAt 32 (.slice x7.1.1 x7.1.2.1 x7.1.2.2) (.int .i64 0)) (.one .addr) fun (x82 : Addr) =>
 rd Try.prog (Instr.loadAt 2 (.pointer (some x82))) (.one (.int .i64)) w78 fun (x83 : Int) =>
 z (IntKind.wrap .i64 low_) fun (z84 : Int) =>
 R (.bool (x83 == z84)) w78)
 (R (.bool false) w78))))))))))
def H6 : Hints := ⟨[(2, 0, [(17, (.one (.int .i64)))]), (3, 12, [(137, (.one .bool))]), (0, 137, []), (1, 1, []), (2, 2, [(18, (.one .slice)), (19, (.one (.int .i64)))]), (2, 4, [(20, (.one (.int .i64))), (21, (.one (.int .i64)))])], [(12, 48)], [], []⟩
set_option maxRecDepth 100000 in
theorem S6_eq (low_ : Int) (width_ : Int) (count_ : Int) (small_a : Option Addr) (small_n : Nat) (small_c : Nat) (seed_ : Int) (w0 : World) (R : Value → World → Prop) : vcFn Try.prog H6 Try.f6 [(.int .i32 low_), (.int .u16 width_), (.int .u8 count_), (.slice small_a small_n small_c), (.int .u64 seed_)] w0 R = S6 low_ width_ count_ small_a small_n small_c seed_ w0 R := by kernel_rfl
set_option maxRecDepth 100000 in
theorem S6_calls (low_ : Int) (width_ : Int) (count_ : Int) (small_a : Option Addr) (small_n : Nat) (small_c : Nat) (seed_ : Int) (w0 : World) (R : Value → World → Prop) (h : S6 low_ width_ count_ small_a small_n small_c seed_ w0 R) : Calls Try.prog 6 #[(.int .i32 low_), (.int .u16 width_), (.int .u8 count_), (.slice small_a small_n small_c), (.int .u64 seed_)] w0 (ret R) := by
  rw [← S6_eq] at h; exact vcFn_sound follows_ Try.func6 h

end Go.Proofs

/- Sorted, Spread, Quantile, Shuffle walked. -/





namespace Go.Bag
section
variable {α : Type} {c : α → α → Int}
theorem mr_b {X Y : List α} {i k : Nat} {p q : α} (h : X[i]? = some p) (h' : Y[k]? = some q) : mergeR c (X.drop i) (Y.drop k) = if c p q ≤ 0 then p :: mergeR c (X.drop (i + 1)) (Y.drop k) else q :: mergeR c (X.drop i) (Y.drop (k + 1)) := by
  obtain ⟨h1, h2⟩ := List.getElem?_eq_some_iff.1 h
  obtain ⟨h3, h4⟩ := List.getElem?_eq_some_iff.1 h'
  rw [List.drop_eq_getElem_cons h1, List.drop_eq_getElem_cons h3, h2, h4, mergeR]
theorem mr_l {X Y : List α} {i k : Nat} {p : α} (h : X[i]? = some p) (h' : k = Y.length) : mergeR c (X.drop i) (Y.drop k) = p :: mergeR c (X.drop (i + 1)) (Y.drop k) := by
  obtain ⟨h1, h2⟩ := List.getElem?_eq_some_iff.1 h
  rw [List.drop_eq_getElem_cons h1, List.drop_of_length_le (l := Y) (by omega), h2, mergeR_nil, mergeR_nil]
theorem mr_r {X Y : List α} {i k : Nat} {q : α} (h : i = X.length) (h' : Y[k]? = some q) : mergeR c (X.drop i) (Y.drop k) = q :: mergeR c (X.drop i) (Y.drop (k + 1)) := by
  obtain ⟨h1, h2⟩ := List.getElem?_eq_some_iff.1 h'
  rw [List.drop_eq_getElem_cons h1, List.drop_of_length_le (l := X) (by omega), h2]
  simp [mergeR]
theorem sort_small (H : TO c) {A : List α} (h : A.length < 2) : sortR c A = A := by
  refine (sortR_eq H ?_ (List.Perm.refl A)).symm
  match A, h with
  | [], _ => exact List.Pairwise.nil
  | [a], _ => exact List.pairwise_singleton _ _
end
end Go.Bag
namespace Go.Proofs.Ytckgpiboelhefaa
open Go.RowKit Go.Q Go.V Go.Bag Go.Ds

theorem tyL : TyS Try.prog 32 2 (.int .i64 0) 1 8 := ⟨by kernel_rfl, by kernel_rfl⟩
theorem cell_spot {w : World} {a : Addr} {v : Value} (h : w.cell? a = some v) : a.spot = none := by
  unfold World.cell? at h
  split at h
  · split at h
    · cases h
    · rename_i q; simpa using q
  · cases h
theorem Ints.of {w : World} {h : Hdr} {zs : List Int} (S : SlI w h zs) : Ints w.heap.size w (.slice h.1 h.2.1 h.2.2) zs := by
  have hl : zs.length = h.2.1 := S.int
  obtain ⟨a, n, c⟩ := h
  dsimp only at hl ⊢
  subst hl
  cases hz : zs with
  | nil => exact .inl ⟨a, c, rfl, rfl⟩
  | cons z zs' =>
    have h0 : (ints .i64 zs)[0]? = some (.int .i64 z) := by rw [hz]; rfl
    obtain ⟨ad, q1, q2, q3⟩ := S.at' 0 _ h0
    have hs := cell_spot q2
    rw [Go.Q.add_zero] at hs
    obtain ⟨b, off, spot⟩ := ad
    dsimp only at hs q1
    subst hs q1
    refine .inr ⟨b, off, c, rfl, q3, fun j hj => ?_⟩
    rw [← hz] at hj ⊢
    have hj' : (ints .i64 zs)[j]? = some (.int .i64 (zs[j]?.getD 0)) := by
      unfold ints
      rw [List.getElem?_map, List.getElem?_eq_getElem hj]; rfl
    obtain ⟨ad, q1, q2, _⟩ := S.at' j _ hj'
    cases q1
    have e : (⟨b, off, none⟩ : Addr).add j = ⟨b, off + j, none⟩ := by unfold Addr.add; split <;> simp_all
    rw [e] at q2; exact q2
theorem valuesC (h : Hdr) (w : World) : call Try.prog 30 [.slice h.1 h.2.1 h.2.2] (.one (.one .any)) w (fun (x : Value) w' => x = .func (.func 37) #[] #[.pointer (some ⟨w.heap.size, 0, none⟩)] ∧ w' = w.alloc (.cells #[.slice h.1 h.2.1 h.2.2] 32)) := by
  refine call_of (Calls.mono ((callsIn_wide (n := 6)).1 (values_in Go.Fence.wide 6 trivial rfl h.1 h.2.1 h.2.2 w)) ?_)
  rintro e w' ⟨rfl, rfl⟩
  exact ⟨_, rfl, _, rfl, rfl, rfl⟩
theorem sortedC (b : Nat) (h : Hdr) (zs : List Int) (w : World) (hb : b < w.heap.size) (hc : w.cell? ⟨b, 0, none⟩ = some (.slice h.1 h.2.1 h.2.2)) (S : SlI w h zs) (hl : zs.length ≤ 1000000) :
    call Try.prog 29 [.func (.func 37) #[] #[.pointer (some ⟨b, 0, none⟩)]] (.one (.one .slice)) w (fun (x : Hdr) w' => SlI w' x (srt zs) ∧ bel w w') := by
  refine call_of (Calls.mono ((callsIn_wide (n := 6)).1 (sorted_in 6 (by omega) b _ zs hl w hb hc (Ints.of S))) ?_)
  rintro e w' ⟨v, rfl, hrow, hB⟩
  have hr := hrow
  rcases hrow.2 with ⟨rfl, hz⟩ | ⟨g, cap, cur, rfl, _⟩
  · refine ⟨_, rfl, (none, 0, 0), rfl, ?_, hB⟩
    have O : Go.Q.Own w' w.heap.size 2 1 none 0 0 (ints .i64 (srt zs)) := by rw [hz] at hr; exact hr
    exact O.sl
  · refine ⟨_, rfl, (some ⟨g, 0, none⟩, zs.length, cap), rfl, ?_, hB⟩
    have O : Go.Q.Own w' w.heap.size 2 1 (some ⟨g, 0, none⟩) zs.length cap (ints .i64 (srt zs)) := hr
    exact O.sl
/-! ### the specification's sort -/
theorem wr_app0 {t e : TypeId} {z : Value} {bytes : Nat} (T : TyS Try.prog t e z 1 bytes) {w : World} {sa : Option Addr} {n c : Nat} {ty : TypeId} {k : (Option Addr × Nat × Nat) → World → Prop} (hc : n ≤ c) (hk : k (sa, n, c) w) :
    wr Try.prog (Builtin.append_ #[t, t] ty #[.slice sa n c, .slice none 0 0]) (.one .slice) w k := by
  obtain ⟨i, hi0, hz0, hz1, hz2⟩ := info_parts T.hi
  refine ⟨(sa, n, c), w, ?_, hk⟩
  cases sa <;> simp [Builtin.append_, run_underlying T.ht, sizeOf, typeInfo, hi0, Builtin.lenOf, Builtin.firstCells, hc, storeCells] <;> rfl
theorem plainI (zs : List Int) : plainV (ints .i64 zs) = true := by
  unfold plainV
  rw [List.all_eq_true]
  intro u hu
  obtain ⟨p, _, hp⟩ := List.mem_map.1 hu
  subst hp; rfl
theorem copyL {h : Hdr} {zs : List Int} {w : World} (S : SlI w h zs) (hl : zs.length ≤ 1000000) {k : Hdr → World → Prop} (hk : ∀ h' w', SlI w' h' zs → bel w w' → k h' w') :
    wr Try.prog (Builtin.append_ #[32, 32] 32 #[.slice none 0 0, .slice h.1 h.2.1 h.2.2]) (.one .slice) w k := by
  have hn : zs.length = h.2.1 := S.int
  obtain ⟨a, n, c⟩ := h
  dsimp only at hn ⊢
  cases a with
  | none =>
    obtain ⟨n0, c0⟩ := S.nil' rfl
    dsimp only at n0 c0
    subst n0 c0
    have : zs = [] := List.eq_nil_of_length_eq_zero hn
    subst this
    exact wr_app0 tyL (Nat.le_refl _) (hk _ _ (Go.Q.Own.nil w 0 2 1).sl (bel.refl _))
  | some ad =>
    refine wr_app tyL (Go.Q.Own.nil w w.heap.size 2 1) S (Nat.le_refl _) rfl (by decide) (plainI zs) (by dsimp only; omega) (by unfold maxLen; dsimp only; omega) fun a' c' w' O g _ _ => ?_
    exact hk (a', 0 + n, c') w' O.sl ((bel.refl w).own (Go.Q.Own.nil w w.heap.size 2 1) g (Nat.le_refl _))
/-- a list of one's own -/
abbrev OwnL (w : World) (B : Nat) (h : Hdr) (xs : List Int) : Prop := Go.Q.Own w B 2 1 h.1 h.2.1 h.2.2 (ints .i64 xs)
theorem OwnL.app {w : World} {B : Nat} {h : Hdr} {xs : List Int} {x : Int} (O : OwnL w B h xs) (hB : B ≤ w.heap.size) (hl : xs.length ≤ 1000000) {k : Hdr → World → Prop} (hk : ∀ h' w', OwnL w' B h' (xs ++ [x]) → w.grownBy w' (blk h.1) → k h' w') :
    wr Try.prog (Instr.buildSlice 32 1 #[(0, .int .i64 x)]) (.one .slice) w fun y w1 => wr Try.prog (Builtin.append_ #[32, 32] 32 #[.slice h.1 h.2.1 h.2.2, .slice y.1 y.2.1 y.2.2]) (.one .slice) w1 k := by
  have hn : xs.length = h.2.1 := O.sl.int
  refine wr_app1 tyL O hB rfl (by decide) (by decide) rfl rfl (by omega) (by unfold maxLen; omega) fun a' c' w' O' g' _ _ => hk _ w' ?_ g'
  show Go.Q.Own _ _ _ _ _ _ _ (ints .i64 (xs ++ [x]))
  unfold ints at O' ⊢
  rw [List.map_append]; exact O'
theorem half2 {n : Nat} {t : TypeId} {x y : Operand} {K : Int → Prop} (hn : n ≤ 1000000) (hk : K ((n / 2 : Nat) : Int)) : rdp Try.prog (cmpS .quo t x y (.int .i64 (n : Int)) (.int .i64 2)) (.one (.int .i64)) K := by
  refine rdp_quo (by omega) ?_
  rw [Int.tdiv_eq_ediv_of_nonneg (by omega), IntWalk.i64_in _ (by omega)]
  exact hk
theorem sl_from {t e : TypeId} {z : Value} {bytes : Nat} (T : TyS Try.prog t e z 1 bytes) {a : Option Addr} {n c m : Nat} {i : Int} {K : Hdr → Prop} (hi : i = (m : Int)) (hm : m ≤ n) (hk : ∀ h' : Hdr, h'.2.1 = n - m → (∀ w xs, Sl w a n c 1 xs → Sl w h'.1 h'.2.1 h'.2.2 1 (xs.drop m)) → K h') :
    rdp Try.prog (Instr.sliceAt t (.slice a n c) (some (.int .i64 i)) none none) (.one .slice) K := by
  subst hi
  refine ⟨((if c = m then a else a.map (·.add (m * 1))), n - m, c - m), fun w => ?_, hk _ rfl fun w xs S => ?_⟩
  · have ht : Try.prog.underlying t = some (.slice (Try.prog.elem t)) := by rw [T.elem]; exact T.ht
    rw [run_sliceAt_slice _ _ _ _ _ _ ht, run_slice_l _ _ _ _ _ ht _ _ (by omega) (by omega), T.elem, T.size]
    simp only [Result.andThen_ok, Int.toNat_natCast]
    rfl
  · have hl := S.len
    have hc := S.cap
    refine ⟨by dsimp only; rw [List.length_drop]; omega, by dsimp only; omega, by have := S.most; dsimp only; omega, fun e => ?_, fun j u hu => ?_⟩
    · dsimp only at e
      have : a = none := by
        split at e
        · exact e
        · cases a <;> simp_all
      have := S.nil' this
      dsimp only; omega
    · rw [List.getElem?_drop] at hu
      obtain ⟨ad, q1, q2, q3⟩ := S.at' (m + j) u hu
      have hj : j < n - m := by
        have := (List.getElem?_eq_some_iff.1 hu).1
        omega
      refine ⟨ad.add (m * 1), ?_, ?_, ?_⟩
      · dsimp only
        rw [if_neg (by omega), q1]; rfl
      · rw [add_add, Nat.mul_one]; exact q2
      · rw [add_block]; exact q3
theorem from_ints {h : Hdr} {i : Int} {m : Nat} (hi : i = (m : Int)) (hm : m ≤ h.2.1) {K : Hdr → Prop} (hk : ∀ h' : Hdr, (∀ w zs, SlI w h zs → SlI w h' (zs.drop m)) → K h') :
    rdp Try.prog (Instr.sliceAt 32 (.slice h.1 h.2.1 h.2.2) (some (.int .i64 i)) none none) (.one .slice) K :=
  sl_from tyL hi hm fun h' _ hS => hk h' fun w zs S => by
    have := hS w _ S
    have e : List.drop m (ints .i64 zs) = ints .i64 (zs.drop m) := by simp [ints, List.map_drop]
    rw [e] at this; exact this
theorem to_ints {h : Hdr} {i : Int} {m : Nat} (hi : i = (m : Int)) (hc : m ≤ h.2.2) {K : Hdr → Prop} (hk : ∀ h' : Hdr, (∀ w zs, SlI w h zs → m ≤ h.2.1 → SlI w h' (zs.take m)) → K h') :
    rdp Try.prog (Instr.sliceAt 32 (.slice h.1 h.2.1 h.2.2) none (some (.int .i64 i)) none) (.one .slice) K := by
  refine Go.V.sl_to tyL hi hc (hk (h.1, m, h.2.2) fun w zs S hm => ?_)
  have hl : zs.length = h.2.1 := S.int
  refine ⟨?_, hc, S.most, fun e => ?_, fun j u hu => ?_⟩
  · rw [ints_len, List.length_take]; dsimp only; omega
  · have := S.nil' e; dsimp only; omega
  · unfold ints at hu
    rw [List.map_take] at hu
    have hj : j < m := by
      have := (List.getElem?_eq_some_iff.1 hu).1
      rw [List.length_take] at this; omega
    rw [List.getElem?_take_of_lt hj] at hu
    exact S.at' j u hu
theorem atL {a w : World} (hb : bel a w) {h : Hdr} {zs : List Int} (S : SlI a h zs) {i : Int} {j : Nat} (hj : i = (j : Int)) (hn : j < zs.length) {K : Int → Prop} (hk : ∀ x, zs[j]? = some x → K x) :
    rdp Try.prog (Instr.indexAt 32 (.slice h.1 h.2.1 h.2.2) (.int .i64 i)) (.one .addr) fun ad => rd Try.prog (Instr.loadAt 2 (.pointer (some ad))) (.one (.int .i64)) w K := by
  have hl : zs.length = h.2.1 := S.int
  exact at_int tyL (by kernel_rfl) (S.up hb) hj (by omega) hk
theorem RSortedF : ∀ (m : Nat) (h : Hdr) (zs : List Int) (w : World), zs.length = m → SlI w h zs → zs.length ≤ 1000000 →
    call Try.prog 19 [.slice h.1 h.2.1 h.2.2] (.one (.one .slice)) w (fun (x : Hdr) w' => SlI w' x (srt zs) ∧ bel w w') := by
  intro m
  induction m using Nat.strongRecOn with
  | ind m ih =>
  intro h A w em H hm
  refine call_of (S19_calls h.1 h.2.1 h.2.2 w _ ?_)
  unfold S19
  have hl : A.length = h.2.1 := H.int
  have hcap : h.2.1 ≤ h.2.2 := H.cap
  refine br_dec (fun e0 => ?_) (fun e0 => ?_)
  · refine copyL H hm fun x w2 S b => ⟨x, rfl, ?_, b⟩
    rw [← srt_eq, sort_small sub_to (by omega)]; exact S
  · refine drw_mk fun w13 h13 _ => ?_
    replace H : SlI w13 h A := H.up h13
    refine flEx_mk (fun _ _ v w' => ∃ x : Hdr, v = .slice x.1 x.2.1 x.2.2 ∧ SlI w' x (srt (A.take (h.2.1 / 2)))) (fun _ _ _ _ _ ⟨x, e, hx⟩ hb => ⟨x, e, Sl.up hx hb⟩) ?_
    refine half2 (by omega) ?_
    refine to_ints (m := h.2.1 / 2) rfl (by omega) fun h16 k16 => ?_
    refine flc_mk (fun w17 b17 _ => ?_) fun (x21 : Hdr) => ?_
    · refine call_mono (ih (h.2.1 / 2) (by omega) h16 (A.take (h.2.1 / 2)) w17 (by rw [List.length_take]; omega) (k16 _ _ (Sl.up H b17) (by omega)) (by rw [List.length_take]; omega)) fun (x : Hdr) w20 ⟨hx, hb⟩ => ⟨hb, x, rfl, hx⟩
    refine half2 (by omega) ?_
    refine from_ints (m := h.2.1 / 2) rfl (by omega) fun h23 k23 => ?_
    refine flend_mk fun w24 b24 hp => ?_
    obtain ⟨x, hv, HX⟩ := hp.1
    have ex : x21 = x := by
      obtain ⟨x1, x2, x3⟩ := x21
      obtain ⟨y1, y2, y3⟩ := x
      dsimp only at hv
      injection hv with v1 v2 v3
      rw [v1, v2, v3]
    subst ex
    clear hp hv
    refine call_mono (ih (A.length - h.2.1 / 2) (by omega) h23 (A.drop (h.2.1 / 2)) w24 (by rw [List.length_drop]) (k23 _ _ (Sl.up H b24)) (by rw [List.length_drop]; omega)) fun (x26 : Hdr) w27 ⟨HY, b27⟩ => ?_
    replace HX : SlI w27 x21 _ := Sl.up HX b27
    have eS := mergeR_sort sub_to (A.take (h.2.1 / 2)) (A.drop (h.2.1 / 2))
    rw [List.take_append_drop, srt_eq, srt_eq, srt_eq] at eS
    have lX : (srt (A.take (h.2.1 / 2))).length + (srt (A.drop (h.2.1 / 2))).length = A.length := by
      rw [srt_len, srt_len, List.length_take, List.length_drop]; omega
    have lS : (srt A).length = A.length := srt_len A
    rw [← eS] at lS
    rw [← eS]
    generalize srt (A.take (h.2.1 / 2)) = X at HX lX lS ⊢
    generalize srt (A.drop (h.2.1 / 2)) = Y at HY lX lS ⊢
    have nx : X.length = x21.2.1 := HX.int
    have ny : Y.length = x26.2.1 := HY.int
    have b0 := h13.trans (b24.trans b27)
    refine loop_gh (G := Nat × Nat × List Int) (fun g s w' => s.2 = ((g.1 : Int), (g.2.1 : Int), ()) ∧ g.1 ≤ X.length ∧ g.2.1 ≤ Y.length ∧ bel w27 w' ∧ OwnL w' w27.heap.size s.1 g.2.2 ∧ g.2.2 ++ mergeR (fun a b : Int => a - b) (X.drop g.1) (Y.drop g.2.1) = mergeR (fun a b : Int => a - b) X Y) (fun g => (X.length - g.1) + (Y.length - g.2.1)) (0, 0, []) ⟨rfl, Nat.zero_le _, Nat.zero_le _, bel.refl _, Go.Q.Own.nil _ _ _ _, rfl⟩ ?_
    rintro ⟨i, k, T⟩ ⟨out, s⟩ w30 ⟨es, hi, hk, b30, hT, eT⟩ again hag _
    dsimp only at es hi hk hT eT
    subst es
    dsimp only
    have lT : T.length ≤ A.length := by
      have := congrArg List.length eT
      rw [List.length_append, lS] at this
      omega
    refine join_mk (fun _ w' => w' = w30 ∧ (i < X.length ∨ k < Y.length)) (fun K31 hK31 => ?_) ?_
    · refine br_dec (fun e => hK31 () _ ⟨rfl, .inl (by omega)⟩) (fun e => ?_)
      refine br_dec (fun e2 => hK31 () _ ⟨rfl, .inr (by omega)⟩) (fun e2 => ?_)
      rw [List.drop_of_length_le (by omega), List.drop_of_length_le (by omega), mergeR_nil, List.append_nil] at eT
      exact ⟨out, rfl, eT ▸ hT.sl, b0.trans b30⟩
    rintro _ w33 ⟨rfl, hpos⟩ _
    refine join_mk (fun s w' => bel w33 w' ∧ (if s.1 then i < X.length ∧ ∀ p, X[i]? = some p → mergeR (fun a b : Int => a - b) (X.drop i) (Y.drop k) = p :: mergeR (fun a b : Int => a - b) (X.drop (i + 1)) (Y.drop k) else k < Y.length ∧ ∀ q, Y[k]? = some q → mergeR (fun a b : Int => a - b) (X.drop i) (Y.drop k) = q :: mergeR (fun a b : Int => a - b) (X.drop i) (Y.drop (k + 1)))) (fun K34 hK34 => ?_) ?_
    · refine drw_mk fun w51 h51 _ => ?_
      refine br_eq (fun e => hK34 (true, ()) _ ⟨h51, ?_, fun p hp => mr_l hp (by omega)⟩) (fun e => ?_)
      · omega
      refine br_dec (fun e2 => ?_) (fun e2 => hK34 (false, ()) _ ⟨h51, ?_, fun q hq => mr_r (by omega) hq⟩)
      · refine atL (b30.trans h51) HX (j := i) rfl (by omega) fun p hp => ?_
        refine atL (b30.trans h51) HY (j := k) rfl (by omega) fun q hq => ?_
        refine hK34 _ _ ⟨h51, ?_⟩
        have hb := mr_b (c := fun a b : Int => a - b) hp hq
        by_cases z : p ≤ q
        · rw [if_pos (show p - q ≤ 0 by omega)] at hb
          dsimp only
          rw [decide_eq_true z, if_pos rfl]
          exact ⟨by omega, fun p' hp' => by rw [hp] at hp'; cases hp'; exact hb⟩
        · rw [if_neg (show ¬ p - q ≤ 0 by omega)] at hb
          dsimp only
          rw [decide_eq_false z, if_neg (by simp)]
          exact ⟨by omega, fun q' hq' => by rw [hq] at hq'; cases hq'; exact hb⟩
      · omega
    rintro ⟨s, ⟨⟩⟩ w36 ⟨h36, hs⟩ _
    dsimp only at hs ⊢
    refine br_mk (fun e => ?_) (fun e => ?_)
    · rw [e, if_pos rfl] at hs
      refine atL (b30.trans h36) HX (j := i) rfl hs.1 fun p hp => ?_
      replace hT : OwnL w36 _ out T := Go.Q.Own.kept hT h36
      refine OwnL.app hT (b30.trans h36).size (by omega) fun out' w42 hT' g => ?_
      refine z_i64 (by omega) ?_
      refine hag (i + 1, k, T ++ [p]) _ _ ⟨rfl, hs.1, hk, (b30.trans h36).own hT g (Nat.le_refl _), hT', ?_⟩ (by dsimp only; omega)
      rw [← eT, hs.2 p hp, List.append_assoc, List.singleton_append]
    · rw [e, if_neg (by simp)] at hs
      refine atL (b30.trans h36) HY (j := k) rfl hs.1 fun p hp => ?_
      replace hT : OwnL w36 _ out T := Go.Q.Own.kept hT h36
      refine OwnL.app hT (b30.trans h36).size (by omega) fun out' w42 hT' g => ?_
      refine z_i64 (by omega) ?_
      refine hag (i, k + 1, T ++ [p]) _ _ ⟨rfl, hi, hs.1, (b30.trans h36).own hT g (Nat.le_refl _), hT', ?_⟩ (by dsimp only; omega)
      rw [← eT, hs.2 p hp, List.append_assoc, List.singleton_append]
end Go.Proofs.Ytckgpiboelhefaa

/- Spread, Quantile, Shuffle walked. -/

namespace Go.Proofs.Ytckgpiboelhefaa
open Go.RowKit Go.Q Go.V Go.Bag Go.Ds Go.Dist

abbrev SpR (low high count : Int) (x : Hdr × Int × Unit) (w : World) : Prop := SlI w x.1 (spL low high count) ∧ x.2.1 = spE low high count
theorem spR_err {low high count e : Int} (he : e ≠ 0) (h : spE low high count = e) (w : World) : SpR low high count ((none, 0, 0), e, ()) w := by
  refine ⟨?_, h.symm⟩
  unfold spL
  rw [if_neg (by omega)]
  exact (Go.Q.Own.nil w 0 2 1).sl
theorem outF (n : Int) (w : World) : call Try.prog 28 [.int .i64 n] (.one (.one .bool)) w (fun (x : Bool) w' => x = decide (n < -1000000000000 ∨ 1000000000000 < n) ∧ bel w w') := by
  refine call_of (S28_calls n w _ ?_)
  unfold S28
  refine br_dec (fun e => ⟨_, rfl, ?_, bel.refl _⟩) (fun e => ⟨_, rfl, ?_, bel.refl _⟩)
  · rw [decide_eq_true (.inl e)]
  · exact decide_eq_decide.2 (by omega)
theorem z_id {n : Int} {k : Int → Prop} (hk : k n) : z n k := hk
theorem spStep {low high count : Int} (h : spE low high count = 0) {i : Nat} (hi : (i : Int) < count) {t : TypeId} {x y : Operand} {K : Int → Prop} (hk : K (spA low high count i)) :
    z (IntKind.wrap .i64 (high - low)) fun (z8 : Int) => z (IntKind.wrap .i64 (z8 + 1)) fun (z9 : Int) => z (IntKind.wrap .i64 ((i : Int) * z9)) fun (z10 : Int) =>
      rdp Try.prog (cmpS .quo t x y (.int .i64 z10) (.int .i64 count)) (.one (.int .i64)) fun (x11 : Int) => z (IntKind.wrap .i64 (low + x11)) K := by
  obtain ⟨h1, h2, h3, h4, h5⟩ := spE_ok h
  obtain ⟨a1, a2, a3, a4⟩ := spA_in h hi
  refine z_i64 (by omega) ?_
  refine z_i64 (by omega) ?_
  refine z_i64 (by omega) ?_
  refine rdp_quo (by omega) ?_
  have e : (i * (high - low + 1)).tdiv count = i * (high - low + 1) / count := Int.tdiv_eq_ediv_of_nonneg a1
  unfold spA at a3 a4 hk
  rw [e, IntWalk.i64_in (i * (high - low + 1) / count) (by omega)]
  exact z_i64 (by omega) hk
theorem SpreadF (low high count : Int) (hc : I64 count) (hlo : I64 low) (hhi : I64 high) (w : World) :
    call Try.prog 12 [.int .i64 low, .int .i64 high, .int .i64 count] (.many [(.one .slice), (.one (.int .i64))]) w (fun (x : Hdr × Int × Unit) w' => SpR low high count x w' ∧ bel w w') := by
  have _ := hc
  have _ := hlo
  have _ := hhi
  refine call_of (S12_calls low high count w _ ?_)
  unfold S12
  refine br_dec (fun e => ⟨_, rfl, spR_err (by decide) (by unfold spE; rw [if_pos e]) _, bel.refl _⟩) (fun c1 => ?_)
  refine call_mono (outF low w) fun (x1 : Bool) w2 ⟨e1, b2⟩ => ?_
  rw [e1]
  refine br_dec (fun e => ⟨_, rfl, spR_err (by decide) (by unfold spE; rw [if_neg (by omega), if_pos e]) _, b2⟩) (fun c2 => ?_)
  refine call_mono (outF high w2) fun (x3 : Bool) w4 ⟨e3, b4⟩ => ?_
  replace b4 := b2.trans b4
  rw [e3]
  refine br_dec (fun e => ⟨_, rfl, spR_err (by decide) (by unfold spE; rw [if_neg (by omega), if_neg c2, if_pos e]) _, b4⟩) (fun c3 => ?_)
  refine br_dec (fun e => ⟨_, rfl, spR_err (by decide) (by unfold spE; rw [if_neg (by omega), if_neg c2, if_neg c3, if_pos e]) _, b4⟩) (fun c4 => ?_)
  refine br_dec (fun e => ⟨_, rfl, spR_err (by decide) (by unfold spE; rw [if_neg (by omega), if_neg c2, if_neg c3, if_neg c4, if_pos e]) _, b4⟩) (fun c5 => ?_)
  have h0 : spE low high count = 0 := spE_of (by omega) (by omega) (by omega) (by omega) (by omega)
  have eL : spL low high count = (List.range count.toNat).map (spA low high count) := by unfold spL; rw [if_pos h0]
  refine loop_upA count.toNat (fun i (h : Hdr) w' => bel w4 w' ∧ OwnL w' w4.heap.size h ((List.range i).map (spA low high count))) ⟨bel.refl _, Go.Q.Own.nil _ _ _ _⟩ fun i h w7 hi ⟨b7, O7⟩ again hag _ => ?_
  refine br_dec (fun e => ?_) (fun e => ?_)
  · dsimp only at e
    refine spStep h0 (i := i) e ?_
    refine OwnL.app O7 b7.size (by rw [List.length_map, List.length_range]; omega) fun h' w16 O16 g => ?_
    refine z_i64 (by dsimp only; omega) ?_
    refine hag h' w16 (by omega) ⟨b7.own O7 g (Nat.le_refl _), ?_⟩
    rw [List.range_succ, List.map_append]; exact O16
  · dsimp only at e
    have : i = count.toNat := by omega
    subst this
    refine ⟨(h, (0 : Int), ()), rfl, ⟨?_, h0.symm⟩, b4.trans b7⟩
    rw [eL]; exact O7.sl
theorem RSpreadF (low high count : Int) (w : World) :
    call Try.prog 13 [.int .i64 low, .int .i64 high, .int .i64 count] (.many [(.one .slice), (.one (.int .i64))]) w (fun (x : Hdr × Int × Unit) w' => SpR low high count x w' ∧ bel w w') := by
  refine call_of (S13_calls low high count w _ ?_)
  unfold S13
  refine br_dec (fun e => ⟨_, rfl, spR_err (by decide) (by unfold spE; rw [if_pos e]) _, bel.refl _⟩) (fun c1 => ?_)
  refine br_dec (fun e => ⟨_, rfl, spR_err (by decide) (by unfold spE; rw [if_neg (by omega), if_pos (.inl e)]) _, bel.refl _⟩) (fun c2 => ?_)
  refine br_dec (fun e => ⟨_, rfl, spR_err (by decide) (by unfold spE; rw [if_neg (by omega), if_pos (.inr e)]) _, bel.refl _⟩) (fun c2' => ?_)
  refine br_dec (fun e => ⟨_, rfl, spR_err (by decide) (by unfold spE; rw [if_neg (by omega), if_neg (by omega), if_pos (.inl e)]) _, bel.refl _⟩) (fun c3 => ?_)
  refine br_dec (fun e => ⟨_, rfl, spR_err (by decide) (by unfold spE; rw [if_neg (by omega), if_neg (by omega), if_pos (.inr e)]) _, bel.refl _⟩) (fun c3' => ?_)
  refine br_dec (fun e => ⟨_, rfl, spR_err (by decide) (by unfold spE; rw [if_neg (by omega), if_neg (by omega), if_neg (by omega), if_pos e]) _, bel.refl _⟩) (fun c4 => ?_)
  refine br_dec (fun e => ⟨_, rfl, spR_err (by decide) (by unfold spE; rw [if_neg (by omega), if_neg (by omega), if_neg (by omega), if_neg c4, if_pos e]) _, bel.refl _⟩) (fun c5 => ?_)
  have h0 : spE low high count = 0 := spE_of (by omega) (by omega) (by omega) (by omega) (by omega)
  have eL : spL low high count = (List.range count.toNat).map (spA low high count) := by unfold spL; rw [if_pos h0]
  refine loop_upA count.toNat (fun i (h : Hdr) w' => bel w w' ∧ OwnL w' w.heap.size h ((List.range i).map (spA low high count))) ⟨bel.refl _, Go.Q.Own.nil _ _ _ _⟩ fun i h w7 hi ⟨b7, O7⟩ again hag _ => ?_
  have h1 := spE_ok h0
  refine br_dec (fun e => ?_) (fun e => ?_)
  · dsimp only at e
    refine spStep h0 (i := i) e ?_
    refine OwnL.app O7 b7.size (by rw [List.length_map, List.length_range]; omega) fun h' w16 O16 g => ?_
    refine z_i64 (by dsimp only; omega) ?_
    refine hag h' w16 (by omega) ⟨b7.own O7 g (Nat.le_refl _), ?_⟩
    rw [List.range_succ, List.map_append]; exact O16
  · dsimp only at e
    have : i = count.toNat := by omega
    subst this
    refine ⟨(h, (0 : Int), ()), rfl, ⟨?_, h0.symm⟩, b7⟩
    rw [eL]; exact O7.sl
/-! ### quantiles -/
abbrev QtR (s : List Int) (p q : Int) (x : Int × Int × Unit) : Prop := x.1 = qV s p q ∧ x.2.1 = qE s.length p q
theorem qtR_err {s : List Int} {p q e : Int} (he : e ≠ 0) (h : qE s.length p q = e) : QtR s p q ((0 : Int), e, ()) := by
  refine ⟨?_, h.symm⟩
  unfold qV
  rw [if_neg (by omega)]
theorem getD_at {s : List Int} {k : Nat} {x : Int} (h : s[k]? = some x) : s.getD k 0 = x := by rw [List.getD_eq_getElem?_getD, h]; rfl
theorem QuantileF (h : Hdr) (zs : List Int) (p q : Int) (w : World) (S : SlI w h zs) :
    call Try.prog 14 [.slice h.1 h.2.1 h.2.2, .int .i64 p, .int .i64 q] (.many [(.one (.int .i64)), (.one (.int .i64))]) w (fun (x : Int × Int × Unit) w' => QtR (srt zs) p q x ∧ bel w w') := by
  refine call_of (S14_calls h.1 h.2.1 h.2.2 p q w _ ?_)
  unfold S14
  have hl : zs.length = h.2.1 := S.int
  have ls := srt_len zs
  refine br_dec (fun e => ⟨_, rfl, qtR_err (by decide) (by unfold qE; rw [if_pos (by omega)]), bel.refl _⟩) (fun c1 => ?_)
  refine br_dec (fun e => ⟨_, rfl, qtR_err (by decide) (by unfold qE; rw [if_neg (by omega), if_pos (by omega)]), bel.refl _⟩) (fun c2 => ?_)
  refine br_dec (fun e => ⟨_, rfl, qtR_err (by decide) (by unfold qE; rw [if_neg (by omega), if_neg (by omega), if_pos (by omega)]), bel.refl _⟩) (fun c3 => ?_)
  refine br_dec (fun e => ⟨_, rfl, qtR_err (by decide) (by unfold qE; rw [if_neg (by omega), if_neg (by omega), if_neg (by omega), if_pos (by omega)]), bel.refl _⟩) (fun c4 => ?_)
  refine br_dec (fun e => ⟨_, rfl, qtR_err (by decide) (by unfold qE; rw [if_neg (by omega), if_neg (by omega), if_neg (by omega), if_neg (by omega), if_pos (by omega)]), bel.refl _⟩) (fun c5 => ?_)
  refine br_eq (fun e => ⟨_, rfl, qtR_err (by decide) (by unfold qE; rw [if_neg (by omega), if_neg (by omega), if_neg (by omega), if_neg (by omega), if_neg (by omega), if_pos (by omega)]), bel.refl _⟩) (fun c6 => ?_)
  have h0 : qE (srt zs).length p q = 0 := qE_of (by omega) (by omega) (by omega) (by omega) (by omega) (by omega)
  obtain ⟨k1, k2⟩ := qIx_lt h0
  refine call_mono (valuesC h w) ?_
  rintro _ _ ⟨rfl, rfl⟩
  show call _ _ _ _ _ _
  have b2 : bel w (w.alloc (.cells #[.slice h.1 h.2.1 h.2.2] 32)) := bel_alloc _ _
  refine call_mono (sortedC w.heap.size h zs _ (by simp) ((box_new w #[.slice h.1 h.2.1 h.2.2] 32).cell0 rfl) (Sl.up S b2) (by omega)) fun (x3 : Hdr) w4 ⟨S3, b4⟩ => ?_
  replace b4 := b2.trans b4
  have l3 : (srt zs).length = x3.2.1 := S3.int
  have hpn : p * (x3.2.1 : Int) ≤ 1000000 * 1000 := Int.le_trans (Int.mul_le_mul_of_nonneg_right (show p ≤ 1000000 by omega) (by omega)) (Int.mul_le_mul_of_nonneg_left (by omega) (by omega))
  have hp0 : 0 ≤ p * (x3.2.1 : Int) := Int.mul_nonneg (by omega) (by omega)
  refine z_i64 (by omega) ?_
  refine z_i64 (by omega) ?_
  refine z_i64 (by omega) ?_
  refine rdp_quo (by omega) ?_
  have hq0 : 0 ≤ (p * (x3.2.1 : Int) + q - 1) / q := Int.ediv_nonneg (by omega) (by omega)
  rw [l3] at k1 k2
  rw [Int.tdiv_eq_ediv_of_nonneg (by omega), IntWalk.i64_in _ (by omega)]
  refine z_id ?_
  refine z_i64 (by split <;> omega) ?_
  refine atL (bel.refl w4) S3 (j := qIx x3.2.1 p q) (by rw [k2]; split <;> omega) (by omega) fun x hx => ?_
  refine ⟨(x, (0 : Int), ()), rfl, ⟨?_, h0.symm⟩, b4⟩
  unfold qV
  rw [if_pos h0, l3]
  exact (getD_at hx).symm
theorem RQuantileF (h : Hdr) (zs : List Int) (p q : Int) (w : World) (S : SlI w h zs) :
    call Try.prog 15 [.slice h.1 h.2.1 h.2.2, .int .i64 p, .int .i64 q] (.many [(.one (.int .i64)), (.one (.int .i64))]) w (fun (x : Int × Int × Unit) w' => QtR (srt zs) p q x ∧ bel w w') := by
  refine call_of (S15_calls h.1 h.2.1 h.2.2 p q w _ ?_)
  unfold S15
  have hl : zs.length = h.2.1 := S.int
  have ls := srt_len zs
  refine br_dec (fun e => ⟨_, rfl, qtR_err (by decide) (by unfold qE; rw [if_pos (by omega)]), bel.refl _⟩) (fun c1 => ?_)
  refine br_dec (fun e => ⟨_, rfl, qtR_err (by decide) (by unfold qE; rw [if_neg (by omega), if_pos (by omega)]), bel.refl _⟩) (fun c2 => ?_)
  refine br_dec (fun e => ⟨_, rfl, qtR_err (by decide) (by unfold qE; rw [if_neg (by omega), if_neg (by omega), if_pos (by omega)]), bel.refl _⟩) (fun c3 => ?_)
  refine br_dec (fun e => ⟨_, rfl, qtR_err (by decide) (by unfold qE; rw [if_neg (by omega), if_neg (by omega), if_neg (by omega), if_pos (by omega)]), bel.refl _⟩) (fun c4 => ?_)
  refine br_dec (fun e => ⟨_, rfl, qtR_err (by decide) (by unfold qE; rw [if_neg (by omega), if_neg (by omega), if_neg (by omega), if_neg (by omega), if_pos (by omega)]), bel.refl _⟩) (fun c5 => ?_)
  refine br_eq (fun e => ⟨_, rfl, qtR_err (by decide) (by unfold qE; rw [if_neg (by omega), if_neg (by omega), if_neg (by omega), if_neg (by omega), if_neg (by omega), if_pos (by omega)]), bel.refl _⟩) (fun c6 => ?_)
  have h0 : qE (srt zs).length p q = 0 := qE_of (by omega) (by omega) (by omega) (by omega) (by omega) (by omega)
  refine call_mono (RSortedF zs.length h zs w rfl S (by omega)) fun (x1 : Hdr) w2 ⟨S1, b2⟩ => ?_
  have l1 : (srt zs).length = x1.2.1 := S1.int
  have hs := srt_asc zs
  have hpn : p * (x1.2.1 : Int) ≤ 1000000 * 1000 := Int.le_trans (Int.mul_le_mul_of_nonneg_right (show p ≤ 1000000 by omega) (by omega)) (Int.mul_le_mul_of_nonneg_left (by omega) (by omega))
  have hp0 : 0 ≤ p * (x1.2.1 : Int) := Int.mul_nonneg (by omega) (by omega)
  generalize srt zs = s at S1 l1 hs h0 ls
  refine loop_up s.length (fun i w' => bel w2 w' ∧ ∀ j, j < i → ∀ x, s[j]? = some x → ¬ p * s.length ≤ cnt s x * q) ⟨bel.refl _, fun j h => by omega⟩ fun i w5 hi ⟨b5, hb⟩ again hag _ => ?_
  refine br_dec (fun e => ?_) (fun e => ?_)
  · dsimp only at e
    obtain ⟨v, hv⟩ : ∃ v, s[i]? = some v := ⟨_, List.getElem?_eq_getElem (by omega)⟩
    refine loop_upA s.length (fun k (n : Int) w' => bel w2 w' ∧ n = (cnt (s.take k) v : Nat)) ⟨b5, rfl⟩ fun k n w8 hk ⟨b8, hn⟩ again2 hag2 _ => ?_
    subst hn
    have hcl := cnt_le (s.take k) v
    rw [List.length_take] at hcl
    refine br_dec (fun e2 => ?_) (fun e2 => ?_)
    · dsimp only at e2
      obtain ⟨u, hu⟩ : ∃ u, s[k]? = some u := ⟨_, List.getElem?_eq_getElem (by omega)⟩
      have hc := cnt_suc hu v
      refine join_mk (fun (s' : Int × Unit) w' => bel w2 w' ∧ s'.1 = ((cnt (s.take (k + 1)) v : Nat) : Int)) (fun K9 hK9 => ?_) ?_
      · refine drw_mk fun w13 h13 _ => ?_
        replace b8 := b8.trans h13
        refine atL b8 S1 (j := k) rfl (by omega) fun u' hu' => ?_
        rw [hu] at hu'; cases hu'
        refine atL b8 S1 (j := i) rfl (by omega) fun v' hv' => ?_
        rw [hv] at hv'; cases hv'
        refine br_dec (fun q' => ?_) (fun q' => ?_)
        · rw [if_pos q'] at hc
          refine z_i64 (by dsimp only; omega) ?_
          exact hK9 _ _ ⟨b8, by dsimp only; omega⟩
        · rw [if_neg q'] at hc
          exact hK9 _ _ ⟨b8, by dsimp only; omega⟩
      · rintro ⟨n, ⟨⟩⟩ w11 ⟨b11, en⟩ _
        refine z_i64 (by dsimp only; omega) ?_
        exact hag2 _ _ (by omega) ⟨b11, en⟩
    · dsimp only at e2
      have : k = s.length := by omega
      subst this
      rw [List.take_length] at hcl ⊢
      have hcq : (cnt s v : Int) * q ≤ 1000 * 1000000 := Int.le_trans (Int.mul_le_mul_of_nonneg_right (show (cnt s v : Int) ≤ 1000 by omega) (by omega)) (Int.mul_le_mul_of_nonneg_left (by omega) (by omega))
      have hc0 : 0 ≤ (cnt s v : Int) * q := Int.mul_nonneg (by omega) (by omega)
      dsimp only
      refine z_i64 (by omega) ?_
      refine z_i64 (by omega) ?_
      rw [← l1]
      refine br_dec (fun q' => ?_) (fun q' => ?_)
      · rw [l1]
        refine atL b8 S1 (j := i) rfl (by omega) fun v' hv' => ?_
        rw [hv] at hv'; cases hv'
        exact ⟨(v, (0 : Int), ()), rfl, ⟨q_hit hs h0 hv q' hb, h0.symm⟩, b2.trans b8⟩
      · refine z_i64 (by omega) ?_
        refine hag _ (by omega) ⟨b8, pre_step hb hv q'⟩
  · dsimp only at e
    exact (q_end hs h0 fun j hj => hb j (by omega)).elim
/-! ### orders -/
abbrev ShR (seed n : Int) (x : Hdr × Int × Unit) (w : World) : Prop := SlI w x.1 (shL seed n) ∧ x.2.1 = shE n
theorem shR_err {seed n e : Int} (he : e ≠ 0) (h : shE n = e) (w : World) : ShR seed n ((none, 0, 0), e, ()) w := by
  refine ⟨?_, h.symm⟩
  unfold shL
  rw [if_neg (by omega)]
  exact nilI w
theorem shR_err' {seed n e : Int} (he : e ≠ 0) (h : shE n = e) (w : World) : ShR seed n ((none, 0, 0), e, ()) w := shR_err he h w
/-- an exchange -/
theorem swC {w : World} {B : Nat} {h : Hdr} {L : List Int} (O : Go.Q.Own w B 3 1 h.1 h.2.1 h.2.2 (ints .i64 L)) {i j : Nat} (hi : i < L.length) (hj : j < L.length) {ii jj : Int} (ei : ii = (i : Int)) (ej : jj = (j : Int)) {K : World → Prop} (hk : ∀ w', Go.Q.Own w' B 3 1 h.1 h.2.1 h.2.2 (ints .i64 (swp L i j)) → w.grownBy w' (blk h.1) → K w') :
    rdp Try.prog (Instr.indexAt 22 (.slice h.1 h.2.1 h.2.2) (.int .i64 jj)) (.one .addr) fun (x21 : Addr) => rd Try.prog (Instr.loadAt 3 (.pointer (some x21))) (.one (.int .i64)) w fun (x22 : Int) =>
    rdp Try.prog (Instr.indexAt 22 (.slice h.1 h.2.1 h.2.2) (.int .i64 ii)) (.one .addr) fun (x23 : Addr) => rd Try.prog (Instr.loadAt 3 (.pointer (some x23))) (.one (.int .i64)) w fun (x24 : Int) =>
    rdp Try.prog (Instr.indexAt 22 (.slice h.1 h.2.1 h.2.2) (.int .i64 ii)) (.one .addr) fun (x25 : Addr) => wu Try.prog (Instr.storeAt 3 (.pointer (some x25)) (.int .i64 x22)) w fun (w26 : World) =>
    rdp Try.prog (Instr.indexAt 22 (.slice h.1 h.2.1 h.2.2) (.int .i64 jj)) (.one .addr) fun (x27 : Addr) => wu Try.prog (Instr.storeAt 3 (.pointer (some x27)) (.int .i64 x24)) w26 K := by
  have hl : L.length = h.2.1 := Sl.int O.sl
  refine at_int tyI (by kernel_rfl) O.sl ej (by omega) fun x hx => ?_
  refine at_int tyI (by kernel_rfl) O.sl ei (by omega) fun y hy => ?_
  refine set_mk tyI O ei (by omega) rfl fun w1 O1 g1 _ => ?_
  refine set_mk tyI O1 ej (by omega) rfl fun w2 O2 g2 _ => hk w2 ?_ (g1.trans g2)
  unfold swp
  rw [getD_at hx, getD_at hy]
  rw [ints_set, ints_set] at O2; exact O2
theorem iot_suc (n : Nat) : iot (n + 1) = iot n ++ [(n : Int)] := by
  unfold iot
  rw [List.range_succ, List.map_append]; rfl
theorem shufLoop {w : World} {B : Nat} {h : Hdr} {seed : Int} {n : Nat} (hB : B ≤ w.heap.size) (hn : n ≤ 1000) (O : Go.Q.Own w B 3 1 h.1 h.2.1 h.2.2 (ints .i64 (iot n))) {t t2 : TypeId} {x y x' y' : Operand} {Q : World → Prop}
    (hR : ∀ w', Go.Q.Own w' B 3 1 h.1 h.2.1 h.2.2 (ints .i64 (shuf (n - 1) seed (iot n))) → bel w w' ∨ w.grownBy w' (blk h.1) → Q w') :
    z (IntKind.wrap .i64 ((n : Int) - 1)) fun (z9 : Int) =>
    loop (seed, z9, ()) w fun (again10 : (Int × Int × Unit) → World → Prop) (s11 : (Int × Int × Unit)) w12 => ∀ _ : Nat → Value,
    br (decide (s11.2.1 ≥ 1)) (z (IntKind.wrap .u64 (s11.1 * 6364136223846793005)) fun (z13 : Int) =>
    z (IntKind.wrap .u64 (z13 + 1442695040888963407)) fun (z14 : Int) =>
    rdp Try.prog (cmpS .shr t x y (.int .u64 z14) (.int .u64 33)) (.one (.int .u64)) fun (x15 : Int) =>
    z (IntKind.wrap .i64 (s11.2.1 + 1)) fun (z16 : Int) =>
    z (IntKind.wrap .u64 z16) fun (z17 : Int) =>
    rdp Try.prog (cmpS .rem t2 x' y' (.int .u64 x15) (.int .u64 z17)) (.one (.int .u64)) fun (x18 : Int) =>
    z (IntKind.wrap .i64 x18) fun (z19 : Int) =>
    drw w12 fun w20 =>
    rdp Try.prog (Instr.indexAt 22 (.slice h.1 h.2.1 h.2.2) (.int .i64 z19)) (.one .addr) fun (x21 : Addr) =>
    rd Try.prog (Instr.loadAt 3 (.pointer (some x21))) (.one (.int .i64)) w20 fun (x22 : Int) =>
    rdp Try.prog (Instr.indexAt 22 (.slice h.1 h.2.1 h.2.2) (.int .i64 s11.2.1)) (.one .addr) fun (x23 : Addr) =>
    rd Try.prog (Instr.loadAt 3 (.pointer (some x23))) (.one (.int .i64)) w20 fun (x24 : Int) =>
    rdp Try.prog (Instr.indexAt 22 (.slice h.1 h.2.1 h.2.2) (.int .i64 s11.2.1)) (.one .addr) fun (x25 : Addr) =>
    wu Try.prog (Instr.storeAt 3 (.pointer (some x25)) (.int .i64 x22)) w20 fun (w26 : World) =>
    rdp Try.prog (Instr.indexAt 22 (.slice h.1 h.2.1 h.2.2) (.int .i64 z19)) (.one .addr) fun (x27 : Addr) =>
    wu Try.prog (Instr.storeAt 3 (.pointer (some x27)) (.int .i64 x24)) w26 fun (w28 : World) =>
    z (IntKind.wrap .i64 (s11.2.1 - 1)) fun (z29 : Int) =>
    again10 (z14, z29, ()) w28)
    (Q w12) := by
  have _ := hB
  refine z_i64 (by omega) ?_
  refine loop_gh (G := Nat × Int × List Int) (fun g s w' => s = (g.2.1, (g.1 : Int) - 1, ()) ∧ g.1 ≤ n ∧ g.2.2.length = n ∧ Go.Q.Own w' B 3 1 h.1 h.2.1 h.2.2 (ints .i64 g.2.2) ∧ w.grownBy w' (blk h.1) ∧ shuf (g.1 - 1) g.2.1 g.2.2 = shuf (n - 1) seed (iot n)) (fun g => g.1) (n, seed, iot n) ⟨rfl, Nat.le_refl _, iot_len n, O, grown_refl _ _, rfl⟩ ?_
  rintro ⟨k, sd, L⟩ s w12 ⟨es, hk, hL, O12, g12, eS⟩ again hag _
  dsimp only at es hk hL O12 eS
  subst es
  dsimp only
  refine br_dec (fun e => ?_) (fun e => ?_)
  · obtain ⟨j, rfl⟩ : ∃ j, k = j + 2 := ⟨k - 2, by omega⟩
    have hjx := jx_le sd (j + 1)
    have hnn := nxt_nn sd
    have en : IntKind.wrap .u64 (IntKind.wrap .u64 (sd * 6364136223846793005) + 1442695040888963407) = nxt sd := rfl
    refine z_id ?_
    rw [en]
    refine z_id ?_
    refine rdp_shr 33 rfl (by decide) ?_
    refine z_i64 (by omega) ?_
    refine z_u64 (by omega) ?_
    refine rdp_rem (by omega) ?_
    have ediv : 0 ≤ nxt sd / 2 ^ 33 := by omega
    have e1 : (nxt sd / 2 ^ 33).tmod (((j + 2 : Nat) : Int) - 1 + 1) = ((jx sd (j + 1) : Nat) : Int) := by
      rw [Int.tmod_eq_emod_of_nonneg ediv, hjx.2]
      congr 1; omega
    rw [e1]
    refine z_i64 (by omega) ?_
    refine drw_mk fun w20 h20 _ => ?_
    replace O12 := Go.Q.Own.kept O12 h20
    refine swC O12 (i := j + 1) (j := jx sd (j + 1)) (by omega) (by omega) (by omega) rfl fun w28 O28 g28 => ?_
    · refine z_i64 (by omega) ?_
      refine hag (j + 1, nxt sd, swp L (j + 1) (jx sd (j + 1))) _ _ ⟨?_, by dsimp only; omega, by dsimp only; rw [swp_len]; exact hL, O28, g12.trans ((grown_of_bel h20 _).trans g28), ?_⟩ (by dsimp only; omega)
      · dsimp only
        rw [show ((j + 2 : Nat) : Int) - 1 - 1 = ((j + 1 : Nat) : Int) - 1 by omega]
      · rw [← eS]
        show _ = shuf (j + 1) sd L
        rfl
  · have : shuf (k - 1) sd L = L := by rw [show k - 1 = 0 by omega]; rfl
    rw [this] at eS
    rw [← eS] at hR
    exact hR w12 O12 (.inr g12)
theorem ShuffleF (seed n : Int) (w : World) :
    call Try.prog 16 [.int .u64 seed, .int .i64 n] (.many [(.one .slice), (.one (.int .i64))]) w (fun (x : Hdr × Int × Unit) w' => ShR seed n x w' ∧ bel w w') := by
  refine call_of (S16_calls seed n w _ ?_)
  unfold S16
  refine br_dec (fun e => ⟨_, rfl, shR_err (by decide) (by unfold shE; rw [if_pos e]) _, bel.refl _⟩) (fun c1 => ?_)
  refine br_dec (fun e => ⟨_, rfl, shR_err (by decide) (by unfold shE; rw [if_neg c1, if_pos e]) _, bel.refl _⟩) (fun c2 => ?_)
  have h0 : shE n = 0 := by unfold shE; rw [if_neg c1, if_neg (by omega)]
  obtain ⟨m, rfl⟩ : ∃ m : Nat, n = (m : Int) := ⟨n.toNat, by omega⟩
  refine wr_make tyI m rfl rfl (by omega) (by unfold maxLen; omega) fun ad w2 O2 b2 _ _ => ?_
  have O := O2 w.heap.size (Nat.le_refl _)
  rw [zeros_i] at O
  refine loop_up m (fun i w' => bel w w' ∧ Go.Q.Own w' w.heap.size 3 1 (some ad) m m (ints .i64 (mkI m fun x => if x < i then (x : Int) else 0))) ⟨b2, ?_⟩ fun i w5 hi ⟨b5, O5⟩ again hag _ => ?_
  · have : (mkI m fun x : Nat => if x < 0 then (x : Int) else 0) = mkI m fun _ => 0 := mkI_congr fun x _ => by rw [if_neg (by omega)]
    rw [this]; exact O
  refine br_dec (fun e => ?_) (fun e => ?_)
  · dsimp only at e
    refine set_mk tyI O5 rfl (by omega) rfl fun w7 O7 g7 _ => ?_
    rw [ints_set, mkI_set] at O7
    refine z_i64 (by dsimp only; omega) ?_
    refine hag w7 (by omega) ⟨b5.own O5 g7 (Nat.le_refl _), ?_⟩
    have : (mkI m fun x : Nat => if x = i then (i : Int) else if x < i then (x : Int) else 0) = mkI m fun x : Nat => if x < i + 1 then (x : Int) else 0 := mkI_congr fun x _ => by
      by_cases q : x = i
      · subst q; simp
      · rw [if_neg q]
        by_cases q2 : x < i
        · rw [if_pos q2, if_pos (by omega)]
        · rw [if_neg q2, if_neg (by omega)]
    rw [← this]; exact O7
  · dsimp only at e
    have : i = m := by omega
    subst this
    have em : (mkI i fun x : Nat => if x < i then (x : Int) else 0) = iot i := mkI_congr fun x hx => by rw [if_pos hx]
    rw [em] at O5
    refine shufLoop (h := (some ad, i, i)) (seed := seed) (n := i) b5.size (by omega) O5 fun w' O' hg => ?_
    refine ⟨((some ad, i, i), (0 : Int), ()), rfl, ⟨?_, h0.symm⟩, ?_⟩
    · unfold shL
      rw [if_pos h0]; exact O'.sl
    · exact hg.elim (fun q => b5.trans q) (fun q => b5.own O5 q (Nat.le_refl _))
theorem RShuffleF (seed n : Int) (w : World) :
    call Try.prog 17 [.int .u64 seed, .int .i64 n] (.many [(.one .slice), (.one (.int .i64))]) w (fun (x : Hdr × Int × Unit) w' => ShR seed n x w' ∧ bel w w') := by
  refine call_of (S17_calls seed n w _ ?_)
  unfold S17
  refine br_dec (fun e => ⟨_, rfl, shR_err (by decide) (by unfold shE; rw [if_pos e]) _, bel.refl _⟩) (fun c1 => ?_)
  refine br_dec (fun e => ⟨_, rfl, shR_err (by decide) (by unfold shE; rw [if_neg c1, if_pos e]) _, bel.refl _⟩) (fun c2 => ?_)
  have h0 : shE n = 0 := by unfold shE; rw [if_neg c1, if_neg (by omega)]
  obtain ⟨m, rfl⟩ : ∃ m : Nat, n = (m : Int) := ⟨n.toNat, by omega⟩
  refine loop_upA m (fun i (h : Hdr) w' => bel w w' ∧ Go.Q.Own w' w.heap.size 3 1 h.1 h.2.1 h.2.2 (ints .i64 (iot i))) ⟨bel.refl _, Go.Q.Own.nil _ _ _ _⟩ fun i h w3 hi ⟨b3, O3⟩ again hag _ => ?_
  have hl : (iot i).length = h.2.1 := Sl.int O3.sl
  rw [iot_len] at hl
  refine br_dec (fun e => ?_) (fun e => ?_)
  · dsimp only at e
    refine wr_app1 tyI O3 b3.size rfl (by decide) (by decide) rfl rfl (by omega) (by unfold maxLen; omega) fun a' c' w' O' g' _ _ => ?_
    refine z_i64 (by dsimp only; omega) ?_
    refine hag (a', h.2.1 + 1, c') w' (by omega) ⟨b3.own O3 g' (Nat.le_refl _), ?_⟩
    rw [iot_suc, ints_snoc]; exact O'
  · dsimp only at e
    have : i = m := by omega
    subst this
    refine shufLoop (h := h) (seed := seed) (n := i) b3.size (by omega) O3 fun w' O' hg => ?_
    refine ⟨(h, (0 : Int), ()), rfl, ⟨?_, h0.symm⟩, ?_⟩
    · unfold shL
      rw [if_pos h0]; exact O'.sl
    · exact hg.elim (fun q => b3.trans q) (fun q => b3.own O3 q (Nat.le_refl _))
theorem numbersF (a b : Hdr) (xs ys : List Int) (w : World) (HA : SlI w a xs) (HB : SlI w b ys) (e : xs = ys) :
    call Try.prog 18 [.slice a.1 a.2.1 a.2.2, .slice b.1 b.2.1 b.2.2] (.one (.one .bool)) w (fun (x : Bool) w' => x = true ∧ bel w w') := by
  subst e
  refine call_of (S18_calls a.1 a.2.1 a.2.2 b.1 b.2.1 b.2.2 w _ ?_)
  unfold S18
  have la : xs.length = a.2.1 := HA.int
  have lb : xs.length = b.2.1 := HB.int
  have lm := HA.le
  refine br_ne (fun q => absurd (by omega) q) (fun _ => ?_)
  refine loop_up xs.length (fun _ w' => bel w w') (bel.refl _) fun i w3 hi b3 again hag _ => ?_
  refine br_dec (fun e => ?_) (fun e => ⟨_, rfl, rfl, b3⟩)
  dsimp only at e
  refine drw_mk fun w4 h4 _ => ?_
  have b4 := b3.trans h4
  refine atL b4 HA (j := i) rfl (by omega) fun x hx => ?_
  refine atL b4 HB (j := i) rfl (by omega) fun y hy => ?_
  rw [hx] at hy; cases hy
  refine br_ne (fun q => absurd rfl q) (fun _ => ?_)
  refine z_i64 (by dsimp only; omega) ?_
  exact hag _ (by omega) b4
end Go.Proofs.Ytckgpiboelhefaa

/- The statements Spreads and Orders. -/

namespace Go.Ds
/-- which numbers have come -/
def sn (X : List Int) (i n : Nat) : List Bool := (List.range n).map fun v : Nat => decide ((v : Int) ∈ X.take i)
theorem sn_len (X : List Int) (i n : Nat) : (sn X i n).length = n := by simp [sn]
theorem sn_zero (X : List Int) (n : Nat) : sn X 0 n = List.replicate n false := by
  unfold sn
  refine List.ext_getElem? fun v => ?_
  by_cases h : v < n
  · simp [h]
  · rw [List.getElem?_eq_none (by simp; omega), List.getElem?_eq_none (by simp; omega)]
theorem sn_at {X : List Int} {i n v : Nat} (h : v < n) : (sn X i n)[v]? = some (decide ((v : Int) ∈ X.take i)) := by simp [sn, h]
theorem sn_set {X : List Int} {i n v : Nat} (h : X[i]? = some (v : Int)) : (sn X i n).set v true = sn X (i + 1) n := by
  refine List.ext_getElem? fun u => ?_
  by_cases hu : u < n
  · rw [sn_at hu]
    have e : X.take (i + 1) = X.take i ++ [(v : Int)] := by rw [List.take_add_one, h]; rfl
    by_cases q : v = u
    · subst q
      rw [List.getElem?_set_self (by rw [sn_len]; exact hu), e]
      simp
    · rw [List.getElem?_set_ne q, sn_at hu, e]
      have : ¬ ((u : Int) = v) := fun z => q (by omega)
      simp [this]
  · rw [List.getElem?_eq_none (by rw [List.length_set, sn_len]; omega), List.getElem?_eq_none (by rw [sn_len]; omega)]
theorem iot_nodup (n : Nat) : (iot n).Nodup := by
  unfold iot
  refine List.Pairwise.map _ (fun a b h => ?_) (List.nodup_range (n := n))
  omega
theorem iot_mem {n : Nat} {x : Int} : x ∈ iot n ↔ ∃ v : Nat, v < n ∧ x = (v : Int) := by
  unfold iot
  rw [List.mem_map]
  constructor
  · rintro ⟨v, h, e⟩
    exact ⟨v, List.mem_range.1 h, e.symm⟩
  · rintro ⟨v, h, e⟩
    exact ⟨v, List.mem_range.2 h, e.symm⟩
theorem not_in_take {X : List Int} (h : X.Nodup) {i : Nat} {x : Int} (hi : X[i]? = some x) : x ∉ X.take i := by
  intro hm
  obtain ⟨j, hj, e⟩ := List.mem_take_iff_getElem.1 hm
  obtain ⟨h1, h2⟩ := List.getElem?_eq_some_iff.1 hi
  have := List.pairwise_iff_getElem.1 h j i (by omega) h1 (by omega)
  exact this (by rw [e, h2])
end Go.Ds
namespace Go.Proofs.Ytckgpiboelhefaa
open Go.RowKit Go.Q Go.V Go.Bag Go.Ds Go.Dist
set_option maxRecDepth 100000 in
theorem argI64s {w : World} {v : Value} (h : Go.Q.Arg Try.prog w 32 v) : ∃ x xs, v = hv x ∧ SlI w x xs ∧ ∀ n ∈ xs, I64 n := by
  obtain ⟨a, n, c, rfl, h⟩ := Go.V.Arg.slice Try.underlying32 h
  obtain ⟨a1, n1, c1, xs, q1, _, s1, b1⟩ := Go.V.Read.ints Try.underlying32 Try.underlying2 (by kernel_rfl) h
  cases q1
  exact ⟨(a, n, c), xs, rfl, s1, fun x hx => bounds_i64 (b1 x hx)⟩
set_option maxRecDepth 100000 in
theorem argI8s {w : World} {v : Value} (h : Go.Q.Arg Try.prog w 41 v) : ∃ x xs, v = hv x ∧ Sl w x.1 x.2.1 x.2.2 1 (ints .i8 xs) ∧ ∀ n ∈ xs, -128 ≤ n ∧ n ≤ 127 := by
  obtain ⟨a, n, c, rfl, h⟩ := Go.V.Arg.slice Try.underlying41 h
  obtain ⟨a1, n1, c1, xs, q1, _, s1, b1⟩ := Go.V.Read.ints Try.underlying41 Try.underlying43 (by kernel_rfl) h
  cases q1
  exact ⟨(a, n, c), xs, rfl, s1, fun x hx => by have := b1 x hx; simp only [Lit.wf, Bool.and_eq_true, decide_eq_true_eq] at this; exact this⟩
theorem distSpr (low high count p q seed : Int) (l : Hdr) (L : List Int) (w : World) (hlo : I64 low) (hhi : I64 high) (hc : I64 count) (S : SlI w l L) :
    Calls Try.prog 5 #[.int .i64 low, .int .i64 high, .int .i64 count, .slice l.1 l.2.1 l.2.2, .int .i64 p, .int .i64 q, .int .u64 seed] w (fun e w' => e = .returned (.bool true) ∧ Below w.heap.size w w') := by
  refine Calls.mono (S5_calls low high count l.1 l.2.1 l.2.2 p q seed w (fun v w' => v = .bool true ∧ bel w w') ?_) (by rintro e w' ⟨v, rfl, rfl, hb⟩; exact ⟨rfl, hb⟩)
  unfold S5
  refine br_dec (fun _ => ⟨rfl, bel.refl _⟩) (fun _ => ?_)
  refine call_mono (SpreadF low high count hc hlo hhi w) fun (x1 : Hdr × Int × Unit) w2 ⟨⟨A1, e1⟩, h⟩ => ?_
  refine call_mono (RSpreadF low high count w2) fun (x3 : Hdr × Int × Unit) w4 ⟨⟨A3, e3⟩, h'⟩ => ?_
  replace h := h.trans h'
  replace A1 : SlI _ _ _ := Sl.up A1 h'
  refine call_mono (QuantileF l L p q w4 (Sl.up S h)) fun (x5 : Int × Int × Unit) w6 ⟨⟨a5, e5⟩, h'⟩ => ?_
  replace h := h.trans h'
  replace A1 : SlI _ _ _ := Sl.up A1 h'
  replace A3 : SlI _ _ _ := Sl.up A3 h'
  refine call_mono (RQuantileF l L p q w6 (Sl.up S h)) fun (x7 : Int × Int × Unit) w8 ⟨⟨a7, e7⟩, h'⟩ => ?_
  replace h := h.trans h'
  replace A1 : SlI _ _ _ := Sl.up A1 h'
  replace A3 : SlI _ _ _ := Sl.up A3 h'
  refine call_mono (ShuffleF seed count w8) fun (x9 : Hdr × Int × Unit) w10 ⟨⟨A9, e9⟩, h'⟩ => ?_
  replace h := h.trans h'
  replace A1 : SlI _ _ _ := Sl.up A1 h'
  replace A3 : SlI _ _ _ := Sl.up A3 h'
  refine call_mono (RShuffleF seed count w10) fun (x11 : Hdr × Int × Unit) w12 ⟨⟨A11, e11⟩, h'⟩ => ?_
  replace h := h.trans h'
  replace A1 : SlI _ _ _ := Sl.up A1 h'
  replace A3 : SlI _ _ _ := Sl.up A3 h'
  replace A9 : SlI _ _ _ := Sl.up A9 h'
  refine call_mono (numbersF x1.1 x3.1 _ _ w12 A1 A3 rfl) fun (x13 : Bool) w14 ⟨e13, h'⟩ => ?_
  replace h := h.trans h'
  refine br_t e13 ?_
  refine br_eq (fun _ => ?_) (fun z => absurd (by rw [e1, e3]) z)
  refine br_eq (fun _ => ?_) (fun z => absurd (by rw [a5, a7]) z)
  refine br_eq (fun _ => ?_) (fun z => absurd (by rw [e5, e7]) z)
  refine call_mono (same16 x9.1 x11.1 _ _ w14 (Sl.up A9 h') (Sl.up A11 h') rfl) fun (x15 : Bool) w16 ⟨e15, h'⟩ => ?_
  refine br_t e15 ⟨?_, h.trans h'⟩
  rw [e9, e11]; simp
theorem distOrd (low width count seed : Int) (l : Hdr) (L : List Int) (w : World) (hlo : -2147483648 ≤ low ∧ low ≤ 2147483647) (hwi : 0 ≤ width ∧ width ≤ 65535) (hco : 0 ≤ count ∧ count ≤ 255) (S : Sl w l.1 l.2.1 l.2.2 1 (ints .i8 L)) (hL : ∀ n ∈ L, -128 ≤ n ∧ n ≤ 127) :
    Calls Try.prog 6 #[.int .i32 low, .int .u16 width, .int .u8 count, .slice l.1 l.2.1 l.2.2, .int .u64 seed] w (fun e w' => e = .returned (.bool true) ∧ Below w.heap.size w w') := by
  refine Calls.mono (S6_calls low width count l.1 l.2.1 l.2.2 seed w (fun v w' => v = .bool true ∧ bel w w') ?_) (by rintro e w' ⟨v, rfl, rfl, hb⟩; exact ⟨rfl, hb⟩)
  unfold S6
  have hl : L.length = l.2.1 := S.int
  refine br_eq (fun _ => ⟨rfl, bel.refl _⟩) (fun c1 => ?_)
  refine br_dec (fun _ => ⟨rfl, bel.refl _⟩) (fun c2 => ?_)
  refine z_i64 (by omega) ?_
  refine z_i64 (by omega) ?_
  refine z_i64 (by omega) ?_
  refine z_i64 (by omega) ?_
  refine z_i64 (by omega) ?_
  refine z_i64 (by omega) ?_
  obtain ⟨n, hn⟩ : ∃ n : Nat, 1 + count = (n : Int) := ⟨(1 + count).toNat, by omega⟩
  rw [hn]
  have h0 : spE low (low + width) n = 0 := spE_of (by omega) (by omega) (by omega) (by omega) (by omega)
  have s0 : shE n = 0 := by unfold shE; rw [if_neg (by omega), if_neg (by omega)]
  refine call_mono (SpreadF low (low + width) n ⟨by omega, by omega⟩ ⟨by omega, by omega⟩ ⟨by omega, by omega⟩ w) fun (x7 : Hdr × Int × Unit) w8 ⟨⟨A7, e7⟩, h⟩ => ?_
  refine call_mono (ShuffleF seed n w8) fun (x9 : Hdr × Int × Unit) w10 ⟨⟨A9, e9⟩, h'⟩ => ?_
  replace h := h.trans h'
  replace A7 : SlI _ _ _ := Sl.up A7 h'
  have l7 : (spL low (low + width) n).length = x7.1.2.1 := A7.int
  have l9 : (shL seed n).length = x9.1.2.1 := A9.int
  have lsp : (spL low (low + width) n).length = n := by unfold spL; rw [if_pos h0]; simp
  have hsp : ∀ i : Nat, i < n → (spL low (low + width) n)[i]? = some (spA low (low + width) n i) := fun i hi => by
    unfold spL; rw [if_pos h0]; simp [hi]
  have hperm := shL_perm (seed := seed) s0
  rw [Int.toNat_natCast] at hperm
  have lsh : (shL seed n).length = n := by rw [hperm.length_eq, iot_len]
  have hnd : (shL seed n).Nodup := (hperm.nodup_iff).2 (iot_nodup n)
  generalize shL seed n = X at A9 l9 hperm lsh hnd
  refine br_ne (fun z => absurd (by rw [e7, h0]) z) (fun _ => ?_)
  refine br_ne (fun z => absurd (by rw [e9, s0]) z) (fun _ => ?_)
  refine br_ne (fun z => absurd (by omega) z) (fun _ => ?_)
  refine br_ne (fun z => absurd (by omega) z) (fun _ => ?_)
  have tyB : TyS Try.prog 42 4 (.bool false) 1 1 := ⟨by kernel_rfl, by kernel_rfl⟩
  refine wr_make tyB n rfl rfl (by omega) (by unfold maxLen; omega) fun ad w12 O12 b12 _ _ => ?_
  have O := O12 w10.heap.size (Nat.le_refl _)
  have ez : (madeCells (Value.bool false).cells (n * 1)).toList = bools (sn X 0 n) := by rw [Nat.mul_one, sn_zero]; exact made_bool n
  rw [ez] at O
  refine loop_up n (fun i w' => bel w10 w' ∧ Go.Q.Own w' w10.heap.size 4 1 (some ad) n n (bools (sn X i n))) ⟨b12, O⟩ fun i w15 hi ⟨b15, O15⟩ again hag _ => ?_
  refine br_dec (fun e => ?_) (fun e => ?_)
  · dsimp only at e
    have hin : i < n := by omega
    obtain ⟨xi, hxi⟩ : ∃ x, X[i]? = some x := ⟨_, List.getElem?_eq_getElem (by omega)⟩
    obtain ⟨v, hv, rfl⟩ := iot_mem.1 (hperm.mem_iff.1 (List.mem_of_getElem? hxi))
    have hai := spA_in h0 (i := i) (by omega)
    refine join_mk (fun _ w' => bel w10 w' ∧ Go.Q.Own w' w10.heap.size 4 1 (some ad) n n (bools (sn X (i + 1) n))) (fun K16 hK16 => ?_) ?_
    · refine join_mk (fun _ w' => bel w10 w' ∧ Go.Q.Own w' w10.heap.size 4 1 (some ad) n n (bools (sn X i n))) (fun K20 hK20 => ?_) ?_
      · refine join_mk (fun (s : Bool × Unit) w' => s.1 = false ∧ bel w10 w' ∧ Go.Q.Own w' w10.heap.size 4 1 (some ad) n n (bools (sn X i n))) (fun K27 hK27 => ?_) ?_
        · refine drw_mk fun w30 h30 _ => ?_
          have b30 := b15.trans h30
          replace O15 := Go.Q.Own.kept O15 h30
          have last : ∀ K : Bool × Unit → World → Prop, (∀ x w', x.1 = false ∧ bel w10 w' ∧ Go.Q.Own w' w10.heap.size 4 1 (some ad) n n (bools (sn X i n)) → K x w') →
              rdp Try.prog (Instr.indexAt 22 (.slice x9.1.1 x9.1.2.1 x9.1.2.2) (.int .i64 (i : Int))) (.one .addr) fun (x52 : Addr) =>
              rd Try.prog (Instr.loadAt 3 (.pointer (some x52))) (.one (.int .i64)) w30 fun (x53 : Int) =>
              br (decide (x53 < 0)) (K (true, ()) w30)
              (rdp Try.prog (Instr.indexAt 22 (.slice x9.1.1 x9.1.2.1 x9.1.2.2) (.int .i64 (i : Int))) (.one .addr) fun (x54 : Addr) =>
              rd Try.prog (Instr.loadAt 3 (.pointer (some x54))) (.one (.int .i64)) w30 fun (x55 : Int) =>
              br (decide (x55 ≥ (n : Int))) (K (true, ()) w30)
              (rdp Try.prog (Instr.indexAt 22 (.slice x9.1.1 x9.1.2.1 x9.1.2.2) (.int .i64 (i : Int))) (.one .addr) fun (x56 : Addr) =>
              rd Try.prog (Instr.loadAt 3 (.pointer (some x56))) (.one (.int .i64)) w30 fun (x57 : Int) =>
              rdp Try.prog (Instr.indexAt 42 (.slice (some ad) n n) (.int .i64 x57)) (.one .addr) fun (x58 : Addr) =>
              rd Try.prog (Instr.loadAt 4 (.pointer (some x58))) (.one .bool) w30 fun (x59 : Bool) =>
              K (x59, ()) w30)) := by
            intro K hK
            refine at_int tyI (by kernel_rfl) (Sl.up A9 b30) rfl (by omega) fun u hu => ?_
            rw [hxi] at hu; cases hu
            refine br_dec (fun q => absurd q (by omega)) (fun _ => ?_)
            refine at_int tyI (by kernel_rfl) (Sl.up A9 b30) rfl (by omega) fun u hu => ?_
            rw [hxi] at hu; cases hu
            refine br_dec (fun q => absurd q (by omega)) (fun _ => ?_)
            refine at_int tyI (by kernel_rfl) (Sl.up A9 b30) rfl (by omega) fun u hu => ?_
            rw [hxi] at hu; cases hu
            refine at_bool tyB (by kernel_rfl) O15.sl rfl hv fun u hu => ?_
            rw [sn_at hv] at hu
            cases hu
            exact hK _ _ ⟨decide_eq_false (not_in_take hnd hxi), b30, O15⟩
          refine atL b30 A7 (j := i) rfl (by omega) fun y hy => ?_
          rw [hsp i hin] at hy; cases hy
          refine z_i64 (by omega) ?_
          refine br_dec (fun q => absurd q (by omega)) (fun _ => ?_)
          refine atL b30 A7 (j := i) rfl (by omega) fun y hy => ?_
          rw [hsp i hin] at hy; cases hy
          refine z_i64 (by omega) ?_
          refine z_i64 (by omega) ?_
          refine z_i64 (by omega) ?_
          refine br_dec (fun q => absurd q (by omega)) (fun _ => ?_)
          refine br_dec (fun q => ?_) (fun _ => last K27 hK27)
          refine atL b30 A7 (j := i) rfl (by omega) fun y hy => ?_
          rw [hsp i hin] at hy; cases hy
          dsimp only at q
          refine z_i64 (by dsimp only; omega) ?_
          refine atL b30 A7 (j := i - 1) (by dsimp only; omega) (by omega) fun y hy => ?_
          rw [hsp (i - 1) (by omega)] at hy; cases hy
          have hm := spA_mono h0 (show i - 1 ≤ i by omega) (by omega)
          exact br_dec (fun q => absurd q (by omega)) (fun _ => last K27 hK27)
        · rintro ⟨s, ⟨⟩⟩ w29 ⟨es, b29, O29⟩ _
          dsimp only at es ⊢
          exact br_f es (hK20 () _ ⟨b29, O29⟩)
      · rintro _ w22 ⟨b22, O22⟩ _
        refine at_int tyI (by kernel_rfl) (Sl.up A9 b22) rfl (by omega) fun u hu => ?_
        rw [hxi] at hu; cases hu
        refine set_mk tyB O22 rfl hv rfl fun w26 O26 g26 _ => ?_
        rw [bools_set, sn_set hxi] at O26
        exact hK16 () _ ⟨b22.own O22 g26 (Nat.le_refl _), O26⟩
    · rintro _ w18 ⟨b18, O18⟩ _
      refine z_i64 (by dsimp only; omega) ?_
      exact hag _ (by omega) ⟨b18, O18⟩
  · replace h := h.trans b15
    replace A7 : SlI _ _ _ := Sl.up A7 b15
    have S15 := Sl.up S h
    refine loop_upA L.length (fun i (k : Hdr) w' => bel w15 w' ∧ OwnL w' w15.heap.size k (L.take i)) ⟨bel.refl _, Go.Q.Own.nil _ _ _ _⟩ fun i k w62 hi ⟨b62, O62⟩ again2 hag2 _ => ?_
    refine br_dec (fun e2 => ?_) (fun e2 => ?_)
    · dsimp only at e2
      have ty8 : TyS Try.prog 41 43 (.int .i8 0) 1 1 := ⟨by kernel_rfl, by kernel_rfl⟩
      refine at_int ty8 (by kernel_rfl) (Sl.up S15 b62) (j := i) rfl (by omega) fun x hx => ?_
      have hb := hL x (List.mem_of_getElem? hx)
      refine z_i64 (by omega) ?_
      refine OwnL.app O62 b62.size (by rw [List.length_take]; omega) fun k' w69 O69 g => ?_
      refine z_i64 (by dsimp only; omega) ?_
      refine hag2 k' w69 (by omega) ⟨b62.own O62 g (Nat.le_refl _), ?_⟩
      have : L.take (i + 1) = L.take i ++ [x] := by rw [List.take_add_one, hx]; rfl
      rw [this]; exact O69
    · dsimp only at e2
      have : i = L.length := by omega
      subst this
      rw [List.take_length] at O62
      have SK := O62.sl
      have ls := srt_len L
      have hs := srt_asc L
      have hq : ∀ p : Nat, p ≤ 8 → qE (srt L).length (p : Int) 8 = 0 := fun p hp => qE_of (by omega) (by omega) (by omega) (by omega) (by omega) (by omega)
      have hlow : ∀ p : Nat, p ≤ 8 → -128 ≤ qV (srt L) p 8 := fun p hp => by
        obtain ⟨k1, k2⟩ := qIx_lt (hq p hp)
        unfold qV
        rw [if_pos (hq p hp)]
        have hm : (srt L).getD (qIx (srt L).length p 8) 0 ∈ srt L := by
          rw [List.getD_eq_getElem?_getD, List.getElem?_eq_getElem k1]
          exact List.getElem_mem _
        exact (hL _ ((srt_perm L).mem_iff.1 hm)).1
      refine loop_gh (G := Nat) (fun p s w' => p ≤ 9 ∧ s = ((if p = 0 then -1000 else qV (srt L) ((p - 1 : Nat) : Int) 8), (p : Int), ()) ∧ bel w62 w') (fun p => 9 - p) 0 ⟨by omega, rfl, bel.refl _⟩ ?_
      rintro p s w73 ⟨hp, rfl, b73⟩ again3 hag3 _
      dsimp only
      refine br_dec (fun e3 => ?_) (fun e3 => ?_)
      · refine call_mono (QuantileF k L p 8 w73 (Sl.up SK b73)) fun (x74 : Int × Int × Unit) w75 ⟨⟨a74, e74⟩, h75⟩ => ?_
        rw [hq p (by omega)] at e74
        refine br_ne (fun z => absurd e74 z) (fun _ => ?_)
        refine br_dec (fun z => ?_) (fun _ => ?_)
        · exfalso
          rw [a74] at z
          split at z
          · have := hlow p (by omega)
            omega
          · have := qV_mono hs (hq (p - 1) (by omega)) (hq p (by omega)) (show ((p - 1 : Nat) : Int) ≤ p by omega)
            omega
        · refine z_i64 (by omega) ?_
          refine hag3 (p + 1) _ _ ⟨by omega, ?_, b73.trans h75⟩ (by omega)
          rw [if_neg (by omega), Nat.add_sub_cancel, a74]; rfl
      · have : p = 9 := by omega
        subst this
        refine call_mono (RSortedF L.length k L w73 rfl (Sl.up SK b73) (by omega)) fun (x77 : Hdr) w78 ⟨S77, h78⟩ => ?_
        have l77 : (srt L).length = x77.2.1 := S77.int
        refine z_i64 (by omega) ?_
        refine atL (bel.refl _) S77 (j := (srt L).length - 1) (by omega) (by omega) fun x hx => ?_
        have hlast := qV_last (s := srt L) (q := 8) (hq 8 (by omega))
        rw [getD_at hx] at hlast
        refine br_eq (fun _ => ?_) (fun z => absurd ?_ z)
        · refine atL (b62.trans (b73.trans h78)) A7 (j := 0) rfl (by omega) fun y hy => ?_
          rw [hsp 0 (by omega)] at hy; cases hy
          refine z_i64 (by omega) ?_
          refine ⟨?_, h.trans (b62.trans (b73.trans h78))⟩
          have : spA low (low + width) n 0 = low := by unfold spA; simp
          rw [this]; simp
        · rw [if_neg (by omega)]; exact hlast
end Go.Proofs.Ytckgpiboelhefaa

/- Histograms: plain law. -/

namespace Go.Ds
open Go.Dist Go.Srt
/-- how many a part has -/
def pc (n b i : Nat) : Nat := n / b + if i < n % b then 1 else 0
def ones (b : Nat) : List Int := List.replicate b 1
theorem ones_getD {b i : Nat} (h : i < b) : (ones b).getD i 0 = 1 := by
  unfold ones
  rw [List.getD_eq_getElem?_getD, List.getElem?_replicate, if_pos h]; rfl
theorem ones_sum (b : Nat) : (ones b).sum = b := by
  unfold ones
  induction b with
  | zero => rfl
  | succ b ih => rw [List.replicate_succ, List.sum_cons, ih]; omega
theorem inc_id {f : Nat → Nat} {b : Nat} (h1 : ∀ x, x < b → f x < b) (h2 : ∀ x y, x < y → y < b → f x < f y) : ∀ x, x < b → f x = x := by
  have ge : ∀ x, x < b → x ≤ f x := by
    intro x
    induction x with
    | zero => intro _; omega
    | succ x ih =>
      intro h
      have := ih (by omega)
      have := h2 x (x + 1) (by omega) h
      omega
  have le : ∀ d x, x + d + 1 = b → f x ≤ x := by
    intro d
    induction d with
    | zero => intro x h; have := h1 x (by omega); omega
    | succ d ih =>
      intro x h
      have := ih (x + 1) (by omega)
      have := h2 x (x + 1) (by omega) (by omega)
      omega
  intro x hx
  have := ge x hx
  have := le (b - 1 - x) x (by omega)
  omega
theorem app_ones {n b : Nat} (hb : 0 < b) {f : Nat → Nat} (R : RP 0 (ones b).length id f) (S : Srtd (kk (n : Int) (ones b)) f 0 (ones b).length) :
    outL (n : Int) (ones b) f (left (n : Int) (ones b) (ones b).length).toNat = (List.range b).map fun i : Nat => (pc n b i : Int) := by
  have hl : (ones b).length = b := by simp [ones]
  rw [hl] at R S ⊢
  have hf : ∀ x, x < b → f x < b := fun x hx => by
    obtain ⟨y, _, h2, h3⟩ := R.at' x (Nat.zero_le _) hx
    rw [h3]; exact h2
  have nk : ∀ s t, s < b → t < b → ¬ kk (n : Int) (ones b) s t := fun s t hs ht => by
    unfold kk
    rw [ones_getD hs, ones_getD ht]; omega
  have hid := inc_id hf fun x y hxy hy => by
    rcases S x y (Nat.zero_le _) hxy hy with q | ⟨_, q⟩
    · exact absurd q (nk _ _ (hf x (by omega)) (hf y hy))
    · exact q
  have elow : ∀ i, i < b → low (n : Int) (ones b).sum ((ones b).getD i 0) = ((n / b : Nat) : Int) := fun i hi => by
    unfold low
    rw [ones_getD hi, ones_sum, Int.mul_one]; rfl
  have elow1 : low (n : Int) (ones b).sum 1 = ((n / b : Nat) : Int) := by
    unfold low
    rw [ones_sum, Int.mul_one]; rfl
  have esum : (((ones b).take b).map (low (n : Int) (ones b).sum)).sum = ((b * (n / b) : Nat) : Int) := by
    rw [List.take_of_length_le (by rw [hl]; exact Nat.le_refl _)]
    have : (ones b).map (low (n : Int) (ones b).sum) = List.replicate b ((n / b : Nat) : Int) := by
      unfold ones
      rw [List.map_replicate]
      have := elow1
      unfold ones at this
      rw [this]
    rw [this]
    generalize n / b = m
    clear this hl R S hf nk hid elow elow1 hb
    induction b with
    | zero => simp
    | succ b ih =>
      rw [List.replicate_succ, List.sum_cons, ih, Nat.add_mul]; omega
  have eleft : left (n : Int) (ones b) b = ((n % b : Nat) : Int) := by
    unfold Dist.left
    rw [esum]
    have := Nat.div_add_mod n b
    omega
  rw [eleft, Int.toNat_natCast]
  unfold outL
  rw [hl]
  unfold mkI
  refine List.map_congr_left fun i hi => ?_
  have hib := List.mem_range.1 hi
  rw [elow i hib]
  have hm : n % b < b := Nat.mod_lt _ hb
  have ein : inF f (n % b) i = decide (i < n % b) := by
    by_cases q : i < n % b
    · rw [decide_eq_true q]
      exact inF_iff.2 ⟨i, q, hid i hib⟩
    · rw [decide_eq_false q]
      have : ¬ inF f (n % b) i = true := fun z => by
        obtain ⟨j, hj, e⟩ := inF_iff.1 z
        rw [hid j (by omega)] at e
        omega
      simpa using this
  rw [ein]
  unfold pc
  by_cases q : i < n % b <;> simp [q]
/-! ### bins -/
abbrev Bn := Int × Int × Int
def ext (s : List Int) (to : Nat) : Nat :=
  if _h : 0 < to ∧ to < s.length ∧ s.getD (to - 1) 0 = s.getD to 0 then ext s (to + 1) else to
termination_by s.length - to
decreasing_by omega
theorem ext_yes {s : List Int} {to : Nat} (h : 0 < to ∧ to < s.length ∧ s.getD (to - 1) 0 = s.getD to 0) : ext s to = ext s (to + 1) := by rw [ext, dif_pos h]
theorem ext_no {s : List Int} {to : Nat} (h : ¬ (0 < to ∧ to < s.length ∧ s.getD (to - 1) 0 = s.getD to 0)) : ext s to = to := by rw [ext, dif_neg h]
theorem ext_prop (s : List Int) : ∀ (k to : Nat), s.length - to = k → to ≤ s.length → to ≤ ext s to ∧ ext s to ≤ s.length ∧ ¬ (0 < ext s to ∧ ext s to < s.length ∧ s.getD (ext s to - 1) 0 = s.getD (ext s to) 0) := by
  intro k
  induction k with
  | zero =>
    intro to h1 h2
    have : ¬ (0 < to ∧ to < s.length ∧ s.getD (to - 1) 0 = s.getD to 0) := fun q => by omega
    rw [ext_no this]
    exact ⟨Nat.le_refl _, h2, this⟩
  | succ k ih =>
    intro to h1 h2
    by_cases q : 0 < to ∧ to < s.length ∧ s.getD (to - 1) 0 = s.getD to 0
    · rw [ext_yes q]
      have := ih (to + 1) (by omega) (by omega)
      exact ⟨by omega, this.2⟩
    · rw [ext_no q]
      exact ⟨Nat.le_refl _, h2, q⟩
theorem ext_le {s : List Int} {to : Nat} (h : to ≤ s.length) : to ≤ ext s to ∧ ext s to ≤ s.length := ⟨(ext_prop s _ to rfl h).1, (ext_prop s _ to rfl h).2.1⟩
def stp (s : List Int) (c : Nat) (q : Nat × Nat × List Bn) : Nat × Nat × List Bn :=
  if ext s (q.2.1 + c) ≤ q.1 then (q.1, q.2.1 + c, q.2.2) else (ext s (q.2.1 + c), q.2.1 + c, q.2.2 ++ [(s.getD q.1 0, s.getD (ext s (q.2.1 + c) - 1) 0, (ext s (q.2.1 + c) : Int) - q.1)])
def hst (s : List Int) (b : Nat) : Nat → Nat × Nat × List Bn
  | 0 => (0, 0, [])
  | i + 1 => stp s (pc s.length b i) (hst s b i)
theorem stp_cut (s : List Int) (c : Nat) (q : Nat × Nat × List Bn) : (stp s c q).2.1 = q.2.1 + c := by unfold stp; split <;> rfl
theorem hst_cut (s : List Int) (b : Nat) : ∀ i, (hst s b i).2.1 = i * (s.length / b) + min i (s.length % b)
  | 0 => by simp [hst]
  | i + 1 => by
    show (stp s _ _).2.1 = _
    rw [stp_cut, hst_cut s b i, Nat.add_mul]
    unfold pc
    split <;> omega
theorem cut_le {n b i : Nat} (h : i ≤ b) : i * (n / b) + min i (n % b) ≤ n := by
  have h1 : i * (n / b) ≤ b * (n / b) := Nat.mul_le_mul_right _ h
  have h2 := Nat.div_add_mod n b
  omega
theorem hst_cut_le (s : List Int) {b i : Nat} (h : i ≤ b) : (hst s b i).2.1 ≤ s.length := by rw [hst_cut]; exact cut_le h
theorem hst_from (s : List Int) {b : Nat} : ∀ i, i ≤ b → (hst s b i).1 ≤ s.length
  | 0, _ => Nat.zero_le _
  | i + 1, h => by
    have ih := hst_from s (b := b) i (by omega)
    have hc := hst_cut_le s h
    show (stp s _ _).1 ≤ _
    change (stp s _ _).2.1 ≤ _ at hc
    rw [stp_cut] at hc
    unfold stp
    split
    · exact ih
    · exact (ext_le hc).2
theorem hst_len (s : List Int) (b : Nat) : ∀ i, (hst s b i).2.2.length ≤ i
  | 0 => by simp [hst]
  | i + 1 => by
    have ih := hst_len s b i
    show (stp s _ _).2.2.length ≤ _
    unfold stp
    split
    · exact Nat.le_succ_of_le ih
    · dsimp only
      rw [List.length_append, List.length_singleton]; omega
def hsE (n : Nat) (bins : Int) : Int := if 1000 < n then 8 else if 64 < bins then 8 else if bins < 1 then 1 else 0
def hsL (s : List Int) (bins : Int) : List Bn := if hsE s.length bins = 0 then (hst s bins.toNat bins.toNat).2.2 else []
theorem hsE_ok {n : Nat} {bins : Int} (h : hsE n bins = 0) : n ≤ 1000 ∧ 1 ≤ bins ∧ bins ≤ 64 := by
  unfold hsE at h
  repeat' (split at h)
  all_goals first | omega | (refine ⟨by omega, by omega, by omega⟩)
theorem hsE_of {n : Nat} {bins : Int} (h1 : n ≤ 1000) (h2 : 1 ≤ bins) (h3 : bins ≤ 64) : hsE n bins = 0 := by
  unfold hsE
  rw [if_neg (by omega), if_neg (by omega), if_neg (by omega)]
/-! ### what the bins cover -/
/-- a place where the numbers step up, or an end -/
def Bd (s : List Int) (t : Nat) : Prop := t ≤ s.length ∧ (0 < t → t < s.length → s.getD (t - 1) 0 < s.getD t 0)
theorem getD_some {s : List Int} {i : Nat} (h : i < s.length) : s[i]? = some (s.getD i 0) := by
  rw [List.getD_eq_getElem?_getD, List.getElem?_eq_getElem h]; rfl
theorem ext_bd {s : List Int} (hs : s.Pairwise (· ≤ ·)) {to : Nat} (h : to ≤ s.length) : Bd s (ext s to) := by
  obtain ⟨h1, h2, h3⟩ := ext_prop s _ to rfl h
  refine ⟨h2, fun a b => ?_⟩
  have := asc_at hs (getD_some (i := ext s to - 1) (by omega)) (getD_some b) (by omega)
  have : s.getD (ext s to - 1) 0 ≠ s.getD (ext s to) 0 := fun q => h3 ⟨a, b, q⟩
  omega
def inB (p : Bn) (x : Int) : Bool := decide (p.1 ≤ x ∧ x ≤ p.2.1)
/-- between two boundaries -/
theorem bin_cnt {s : List Int} (hs : s.Pairwise (· ≤ ·)) {f t : Nat} (hf : Bd s f) (ht : Bd s t) (h : f < t) : s.countP (inB (s.getD f 0, s.getD (t - 1) 0, (t : Int) - f)) = t - f := by
  have ht' := ht.1
  have e : s = s.take f ++ ((s.drop f).take (t - f) ++ s.drop t) := by
    have h1 : s.drop f = (s.drop f).take (t - f) ++ (s.drop f).drop (t - f) := (List.take_append_drop _ _).symm
    rw [List.drop_drop, show f + (t - f) = t by omega] at h1
    rw [← h1, List.take_append_drop]
  have c : s.countP (inB (s.getD f 0, s.getD (t - 1) 0, (t : Int) - f)) = (s.take f).countP (inB (s.getD f 0, s.getD (t - 1) 0, (t : Int) - f)) + (((s.drop f).take (t - f)).countP (inB (s.getD f 0, s.getD (t - 1) 0, (t : Int) - f)) + (s.drop t).countP (inB (s.getD f 0, s.getD (t - 1) 0, (t : Int) - f))) := by
    rw [← List.countP_append, ← List.countP_append, ← e]
  rw [c]
  have z1 : (s.take f).countP (inB (s.getD f 0, s.getD (t - 1) 0, (t : Int) - f)) = 0 := by
    rw [List.countP_eq_zero]
    intro x hx
    obtain ⟨j, hj, ex⟩ := List.mem_take_iff_getElem.1 hx
    have h1 := asc_at hs (show s[j]? = some x by rw [List.getElem?_eq_getElem (by omega), ex]) (getD_some (i := f - 1) (by omega)) (by omega)
    have h2 := hf.2 (by omega) (by omega)
    unfold inB
    simp only [decide_eq_true_eq]
    omega
  have z2 : (s.drop t).countP (inB (s.getD f 0, s.getD (t - 1) 0, (t : Int) - f)) = 0 := by
    rw [List.countP_eq_zero]
    intro x hx
    obtain ⟨j, hj, ex⟩ := List.mem_iff_getElem.1 hx
    rw [List.length_drop] at hj
    rw [List.getElem_drop] at ex
    have h1 := asc_at hs (getD_some (i := t) (by omega)) (show s[t + j]? = some x by rw [List.getElem?_eq_getElem (by omega), ex]) (by omega)
    have h2 := ht.2 (by omega) (by omega)
    unfold inB
    simp only [decide_eq_true_eq]
    omega
  have z3 : ((s.drop f).take (t - f)).countP (inB (s.getD f 0, s.getD (t - 1) 0, (t : Int) - f)) = t - f := by
    have hl : ((s.drop f).take (t - f)).length = t - f := by rw [List.length_take, List.length_drop]; omega
    refine Eq.trans ?_ hl
    rw [List.countP_eq_length]
    intro x hx
    obtain ⟨j, hj, ex⟩ := List.mem_take_iff_getElem.1 hx
    rw [List.length_drop] at hj
    rw [List.getElem_drop] at ex
    have hx' : s[f + j]? = some x := by rw [List.getElem?_eq_getElem (by omega), ex]
    have h1 := asc_at hs (getD_some (i := f) (by omega)) hx' (by omega)
    have h2 := asc_at hs hx' (getD_some (i := t - 1) (by omega)) (by omega)
    unfold inB
    simp only [decide_eq_true_eq]
    omega
  omega
structure Gd (s : List Int) (L : List Bn) (f : Nat) : Prop where
  bd : Bd s f
  each : ∀ p ∈ L, (s.countP (inB p) : Int) = p.2.2 ∧ 0 < p.2.2
  last : ∀ p, L.getLast? = some p → 0 < f ∧ p.2.1 = s.getD (f - 1) 0
  up : ∀ (i : Nat) p q, L[i]? = some p → L[i + 1]? = some q → p.2.1 < q.1
  sum : (L.map fun p : Bn => p.2.2).sum = (f : Int)
theorem Gd.snoc {s : List Int} (hs : s.Pairwise (· ≤ ·)) {L : List Bn} {f t : Nat} (G : Gd s L f) (ht : Bd s t) (h : f < t) : Gd s (L ++ [(s.getD f 0, s.getD (t - 1) 0, (t : Int) - f)]) t := by
  refine ⟨ht, fun p hp => ?_, fun p hp => ?_, fun i p q hp hq => ?_, ?_⟩
  · rcases List.mem_append.1 hp with z | z
    · exact G.each p z
    · rw [List.mem_singleton.1 z, bin_cnt hs G.bd ht h]
      dsimp only
      omega
  · rw [List.getLast?_append] at hp
    simp at hp
    rw [← hp]
    exact ⟨by omega, rfl⟩
  · by_cases z : i + 1 < L.length
    · rw [List.getElem?_append_left (by omega)] at hp
      rw [List.getElem?_append_left z] at hq
      exact G.up i p q hp hq
    · have hlt := (List.getElem?_eq_some_iff.1 hq).1
      rw [List.length_append, List.length_singleton] at hlt
      have hi : i + 1 = L.length := by omega
      rw [List.getElem?_append_right (by omega), hi, Nat.sub_self] at hq
      rw [List.getElem?_append_left (by omega)] at hp
      cases hq
      have hlast : L.getLast? = some p := by rw [List.getLast?_eq_getElem?, ← hi]; exact hp
      obtain ⟨h1, h2⟩ := G.last p hlast
      rw [h2]
      exact G.bd.2 h1 (by have := ht.1; omega)
  · rw [List.map_append, List.sum_append, G.sum]
    simp; omega
theorem hst_gd {s : List Int} (hs : s.Pairwise (· ≤ ·)) {b : Nat} : ∀ i, i ≤ b → Gd s (hst s b i).2.2 (hst s b i).1
  | 0, _ => by
    refine ⟨⟨Nat.zero_le _, fun h => (by cases h)⟩, fun p hp => (by cases hp), fun p hp => (by cases hp), fun i p q hp => ?_, rfl⟩
    simp [hst] at hp
  | i + 1, h => by
    have ih := hst_gd hs (b := b) i (by omega)
    have hc := hst_cut_le s h
    change (stp s _ _).2.1 ≤ _ at hc
    rw [stp_cut] at hc
    show Gd s (stp s _ _).2.2 (stp s _ _).1
    unfold stp
    split
    · exact ih
    · exact ih.snoc hs (ext_bd hs hc) (by omega)
theorem hst_end {s : List Int} {b : Nat} (hb : 0 < b) : (hst s b b).1 = s.length := by
  obtain ⟨k, rfl⟩ : ∃ k, b = k + 1 := ⟨b - 1, by omega⟩
  have h1 := hst_from s (b := k + 1) k (by omega)
  have hc := hst_cut s (k + 1) (k + 1)
  have h2 : (k + 1) * (s.length / (k + 1)) + min (k + 1) (s.length % (k + 1)) = s.length := by
    have := Nat.div_add_mod s.length (k + 1)
    have := Nat.mod_lt s.length (show 0 < k + 1 by omega)
    omega
  rw [h2] at hc
  change (stp s _ _).2.1 = _ at hc
  rw [stp_cut] at hc
  show (stp s _ _).1 = _
  unfold stp
  rw [hc, ext_no (fun q => by omega)]
  split
  · dsimp only; omega
  · rfl
end Go.Ds

/- The conditions of functions, printed by our tool; each is checked against the code by the kernel. -/



namespace Go.Proofs
open Go Go.V Go.RowKit
/-- querylab/distribution.Histogram -/
def S20 (values_a : Option Addr) (values_n : Nat) (values_c : Nat) (bins_ : Int) (w0 : World) (R : Value → World → Prop) : Prop :=
 br (decide (((values_n : Nat) : Int) > 1000)) (R (.tuple #[(.slice none 0 0), (.int .i64 8)]) w0)
 (br (decide (bins_ > 64)) (R (.tuple #[(.slice none 0 0), (.int .i64 8)]) w0)
 (br (decide (bins_ < 1)) (R (.tuple #[(.slice none 0 0), (.int .i64 1)]) w0)
 (call Try.prog 30 [(.slice values_a values_n values_c)] (.one (.one .any)) w0 fun (x1 : Value) (w2 : World) => kv (fun (y1 : FV) =>
 call Try.prog 29 [y1.den] (.one (.one .slice)) w2 fun (x3 : (Option Addr × Nat × Nat)) (w4 : World) =>
 wr Try.prog (Instr.buildSlice 22 1 #[(0, (.int .i64 1))]) (.one .slice) w4 fun (x5 : (Option Addr × Nat × Nat)) (w6 : World) =>
 call Try.prog 31 [(.slice x5.1 x5.2.1 x5.2.2), (.int .i64 bins_)] (.one (.one .slice)) w6 fun (x7 : (Option Addr × Nat × Nat)) (w8 : World) =>
 call Try.prog 9 [(.int .i64 ((x3.2.1 : Nat) : Int)), (.slice x7.1 x7.2.1 x7.2.2)] (.many [(.one .slice), (.one (.int .i64))]) w8 fun (x9 : ((Option Addr × Nat × Nat) × Int × Unit)) (w10 : World) =>
 loop (T := ((Option Addr × Nat × Nat) × Int × Int × Int × Unit)) ((none, 0, 0), 0, 0, 0, ()) w10 fun (again11 : ((Option Addr × Nat × Nat) × Int × Int × Int × Unit) → World → Prop) (s12 : ((Option Addr × Nat × Nat) × Int × Int × Int × Unit)) w13 => ∀ _ : Nat → Value,
 br (decide (s12.2.2.2.1 < ((x9.1.2.1 : Nat) : Int))) (join (T := ((Option Addr × Nat × Nat) × Int × Int × Unit)) (fun (s15 : ((Option Addr × Nat × Nat) × Int × Int × Unit)) w16 => ∀ _ : Nat → Value,
 z (IntKind.wrap .i64 (s12.2.2.2.1 + 1)) fun (z17 : Int) =>
 again11 ((s15.1.1, s15.1.2.1, s15.1.2.2), s15.2.1, s15.2.2.1, z17, ()) w16)
  fun (K14 : ((Option Addr × Nat × Nat) × Int × Int × Unit) → World → Prop) =>
 rdp Try.prog (Instr.indexAt 22 (.slice x9.1.1 x9.1.2.1 x9.1.2.2) (.int .i64 s12.2.2.2.1)) (.one .addr) fun (x18 : Addr) =>
 rd Try.prog (Instr.loadAt 3 (.pointer (some x18))) (.one (.int .i64)) w13 fun (x19 : Int) =>
 z (IntKind.wrap .i64 (s12.2.2.1 + x19)) fun (z20 : Int) =>
 join (T := (Int × Unit)) (fun (s22 : (Int × Unit)) w23 => ∀ _ : Nat → Value,
 br (decide (s22.1 ≤ s12.2.1)) (K14 ((s12.1.1, s12.1.2.1, s12.1.2.2), s12.2.1, z20, ()) w23)
 (drw w23 fun w24 =>
 rdp Try.prog (Instr.indexAt 32 (.slice x3.1 x3.2.1 x3.2.2) (.int .i64 s12.2.1)) (.one .addr) fun (x25 : Addr) =>
 rd Try.prog (Instr.loadAt 2 (.pointer (some x25))) (.one (.int .i64)) w24 fun (x26 : Int) =>
 z (IntKind.wrap .i64 (s22.1 - 1)) fun (z27 : Int) =>
 rdp Try.prog (Instr.indexAt 32 (.slice x3.1 x3.2.1 x3.2.2) (.int .i64 z27)) (.one .addr) fun (x28 : Addr) =>
 rd Try.prog (Instr.loadAt 2 (.pointer (some x28))) (.one (.int .i64)) w24 fun (x29 : Int) =>
 z (IntKind.wrap .i64 (s22.1 - s12.2.1)) fun (z30 : Int) =>
 wr Try.prog (Instr.buildSlice 46 1 #[(0, (.agg #[(.int .i64 x26), (.int .i64 x29), (.int .i64 z30)]))]) (.one .slice) w24 fun (x31 : (Option Addr × Nat × Nat)) (w32 : World) =>
 wr Try.prog (Builtin.append_ #[46, 46] 46 #[(.slice s12.1.1 s12.1.2.1 s12.1.2.2), (.slice x31.1 x31.2.1 x31.2.2)]) (.one .slice) w32 fun (x33 : (Option Addr × Nat × Nat)) (w34 : World) =>
 K14 ((x33.1, x33.2.1, x33.2.2), s22.1, z20, ()) w34))
  fun (K21 : (Int × Unit) → World → Prop) =>
 loop (T := (Int × Unit)) (z20, ()) w13 fun (again35 : (Int × Unit) → World → Prop) (s36 : (Int × Unit)) w37 => ∀ _ : Nat → Value,
 drw w37 fun w38 =>
 br (decide (s36.1 > 0)) (br (decide (s36.1 < ((x3.2.1 : Nat) : Int))) (z (IntKind.wrap .i64 (s36.1 - 1)) fun (z39 : Int) =>
 rdp Try.prog (Instr.indexAt 32 (.slice x3.1 x3.2.1 x3.2.2) (.int .i64 z39)) (.one .addr) fun (x40 : Addr) =>
 rd Try.prog (Instr.loadAt 2 (.pointer (some x40))) (.one (.int .i64)) w38 fun (x41 : Int) =>
 rdp Try.prog (Instr.indexAt 32 (.slice x3.1 x3.2.1 x3.2.2) (.int .i64 s36.1)) (.one .addr) fun (x42 : Addr) =>
 rd Try.prog (Instr.loadAt 2 (.pointer (some x42))) (.one (.int .i64)) w38 fun (x43 : Int) =>
 br (x41 == x43) (z (IntKind.wrap .i64 (s36.1 + 1)) fun (z44 : Int) =>
 again35 (z44, ()) w38)
 (K21 (s36.1, ()) w38))
 (K21 (s36.1, ()) w38))
 (K21 (s36.1, ()) w38))
 (R (.tuple #[(.slice s12.1.1 s12.1.2.1 s12.1.2.2), (.int .i64 0)]) w13)) x1)))
def H20 : Hints := ⟨[(2, 0, [(9, (.one .slice)), (10, (.one (.int .i64))), (11, (.one (.int .i64))), (38, (.one (.int .i64)))]), (2, 2, [(14, (.one (.int .i64)))]), (1, 2, [(14, (.one (.int .i64)))]), (1, 1, [(9, (.one .slice)), (10, (.one (.int .i64))), (11, (.one (.int .i64)))])], [(14, 18), (17, 13)], [], []⟩
set_option maxRecDepth 100000 in
theorem S20_eq (values_a : Option Addr) (values_n : Nat) (values_c : Nat) (bins_ : Int) (w0 : World) (R : Value → World → Prop) : vcFn Try.prog H20 Try.f20 [(.slice values_a values_n values_c), (.int .i64 bins_)] w0 R = S20 values_a values_n values_c bins_ w0 R := by kernel_rfl
set_option maxRecDepth 100000 in
theorem S20_calls (values_a : Option Addr) (values_n : Nat) (values_c : Nat) (bins_ : Int) (w0 : World) (R : Value → World → Prop) (h : S20 values_a values_n values_c bins_ w0 R) : Calls Try.prog 20 #[(.slice values_a values_n values_c), (.int .i64 bins_)] w0 (ret R) := by
  rw [← S20_eq] at h; exact vcFn_sound follows_ Try.func20 h

/-- slices.Repeat[[]int,int] -/
def S31 (x_a : Option Addr) (x_n : Nat) (x_c : Nat) (count_ : Int) (w0 : World) (R : Value → World → Prop) : Prop :=
 join (T := (Unit)) (fun (_s2 : (Unit)) w3 => ∀ _ : Nat → Value,
 z (IntKind.wrap .u64 ((x_n : Nat) : Int)) fun (z4 : Int) =>
 z (IntKind.wrap .u64 count_) fun (z5 : Int) =>
 call Try.prog 38 [(.int .u64 z4), (.int .u64 z5)] (.many [(.one (.int .u64)), (.one (.int .u64))]) w3 fun (x6 : (Int × Int × Unit)) (w7 : World) =>
 join (T := (Unit)) (fun (_s9 : (Unit)) w10 => ∀ _ : Nat → Value,
 z (IntKind.wrap .i64 x6.2.1) fun (z11 : Int) =>
 wr Try.prog (Instr.makeSlice 22 (.int .i64 z11) (.int .i64 z11)) (.one .slice) w10 fun (x12 : (Option Addr × Nat × Nat)) (w13 : World) =>
 wr Try.prog (Builtin.copy_ #[22, 22] 3 #[(.slice x12.1 x12.2.1 x12.2.2), (.slice x_a x_n x_c)]) (.one (.int .i64)) w13 fun (x14 : Int) (w15 : World) =>
 loop (T := (Int × Unit)) (x14, ()) w15 fun (again16 : (Int × Unit) → World → Prop) (s17 : (Int × Unit)) w18 => ∀ _ : Nat → Value,
 br (decide (s17.1 < ((x12.2.1 : Nat) : Int))) (drw w18 fun w19 =>
 rdp Try.prog (Instr.sliceAt 22 (.slice x12.1 x12.2.1 x12.2.2) (some (.int .i64 s17.1)) none none) (.one .slice) fun (x20 : (Option Addr × Nat × Nat)) =>
 rdp Try.prog (Instr.sliceAt 22 (.slice x12.1 x12.2.1 x12.2.2) none (some (.int .i64 s17.1)) none) (.one .slice) fun (x21 : (Option Addr × Nat × Nat)) =>
 wr Try.prog (Builtin.copy_ #[22, 22] 3 #[(.slice x20.1 x20.2.1 x20.2.2), (.slice x21.1 x21.2.1 x21.2.2)]) (.one (.int .i64)) w19 fun (x22 : Int) (w23 : World) =>
 z (IntKind.wrap .i64 (s17.1 + x22)) fun (z24 : Int) =>
 again16 (z24, ()) w23)
 (R (.slice x12.1 x12.2.1 x12.2.2) w18))
  fun (K8 : (Unit) → World → Prop) =>
 br (decide (x6.1 > 0)) (False)
 (br (decide (x6.2.1 > 9223372036854775807)) (False)
 (K8 (()) w7)))
  fun (K1 : (Unit) → World → Prop) =>
 br (decide (count_ < 0)) (False)
 (K1 (()) w0)
def H31 : Hints := ⟨[(0, 10, []), (0, 26, []), (2, 0, [(8, (.one (.int .i64)))])], [(9, 0)], [], []⟩
set_option maxRecDepth 100000 in
theorem S31_eq (x_a : Option Addr) (x_n : Nat) (x_c : Nat) (count_ : Int) (w0 : World) (R : Value → World → Prop) : vcFn Try.prog H31 Try.f31 [(.slice x_a x_n x_c), (.int .i64 count_)] w0 R = S31 x_a x_n x_c count_ w0 R := by kernel_rfl
set_option maxRecDepth 100000 in
theorem S31_calls (x_a : Option Addr) (x_n : Nat) (x_c : Nat) (count_ : Int) (w0 : World) (R : Value → World → Prop) (h : S31 x_a x_n x_c count_ w0 R) : Calls Try.prog 31 #[(.slice x_a x_n x_c), (.int .i64 count_)] w0 (ret R) := by
  rw [← S31_eq] at h; exact vcFn_sound follows_ Try.func31 h

/-- math/bits.Mul -/
def S38 (x_ : Int) (y_ : Int) (w0 : World) (R : Value → World → Prop) : Prop :=
 call Try.prog 45 [(.int .u64 x_), (.int .u64 y_)] (.many [(.one (.int .u64)), (.one (.int .u64))]) w0 fun (x1 : (Int × Int × Unit)) (w2 : World) =>
 R (.tuple #[(.int .u64 x1.1), (.int .u64 x1.2.1)]) w2
def H38 : Hints := ⟨[], [], [], []⟩
set_option maxRecDepth 100000 in
theorem S38_eq (x_ : Int) (y_ : Int) (w0 : World) (R : Value → World → Prop) : vcFn Try.prog H38 Try.f38 [(.int .u64 x_), (.int .u64 y_)] w0 R = S38 x_ y_ w0 R := by kernel_rfl
set_option maxRecDepth 100000 in
theorem S38_calls (x_ : Int) (y_ : Int) (w0 : World) (R : Value → World → Prop) (h : S38 x_ y_ w0 R) : Calls Try.prog 38 #[(.int .u64 x_), (.int .u64 y_)] w0 (ret R) := by
  rw [← S38_eq] at h; exact vcFn_sound follows_ Try.func38 h

/-- math/bits.Mul64 -/
def S45 (x_ : Int) (y_ : Int) (w0 : World) (R : Value → World → Prop) : Prop :=
 z (iand .u64 x_ 4294967295) fun (z1 : Int) =>
 rdp Try.prog (cmpS .shr 33 (.tmp 16) (.const (.int .u64 32)) (.int .u64 x_) (.int .u64 32)) (.one (.int .u64)) fun (x2 : Int) =>
 z (iand .u64 y_ 4294967295) fun (z3 : Int) =>
 rdp Try.prog (cmpS .shr 33 (.tmp 20) (.const (.int .u64 32)) (.int .u64 y_) (.int .u64 32)) (.one (.int .u64)) fun (x4 : Int) =>
 z (IntKind.wrap .u64 (z1 * z3)) fun (z5 : Int) =>
 z (IntKind.wrap .u64 (x2 * z3)) fun (z6 : Int) =>
 rdp Try.prog (cmpS .shr 33 (.tmp 28) (.const (.int .u64 32)) (.int .u64 z5) (.int .u64 32)) (.one (.int .u64)) fun (x7 : Int) =>
 z (IntKind.wrap .u64 (z6 + x7)) fun (z8 : Int) =>
 z (iand .u64 z8 4294967295) fun (z9 : Int) =>
 rdp Try.prog (cmpS .shr 33 (.tmp 33) (.const (.int .u64 32)) (.int .u64 z8) (.int .u64 32)) (.one (.int .u64)) fun (x10 : Int) =>
 z (IntKind.wrap .u64 (z1 * x4)) fun (z11 : Int) =>
 z (IntKind.wrap .u64 (z9 + z11)) fun (z12 : Int) =>
 z (IntKind.wrap .u64 (x2 * x4)) fun (z13 : Int) =>
 z (IntKind.wrap .u64 (z13 + x10)) fun (z14 : Int) =>
 rdp Try.prog (cmpS .shr 33 (.tmp 45) (.const (.int .u64 32)) (.int .u64 z12) (.int .u64 32)) (.one (.int .u64)) fun (x15 : Int) =>
 z (IntKind.wrap .u64 (z14 + x15)) fun (z16 : Int) =>
 z (IntKind.wrap .u64 (x_ * y_)) fun (z17 : Int) =>
 R (.tuple #[(.int .u64 z16), (.int .u64 z17)]) w0
def H45 : Hints := ⟨[], [], [], []⟩
set_option maxRecDepth 100000 in
theorem S45_eq (x_ : Int) (y_ : Int) (w0 : World) (R : Value → World → Prop) : vcFn Try.prog H45 Try.f45 [(.int .u64 x_), (.int .u64 y_)] w0 R = S45 x_ y_ w0 R := by kernel_rfl
set_option maxRecDepth 100000 in
theorem S45_calls (x_ : Int) (y_ : Int) (w0 : World) (R : Value → World → Prop) (h : S45 x_ y_ w0 R) : Calls Try.prog 45 #[(.int .u64 x_), (.int .u64 y_)] w0 (ret R) := by
  rw [← S45_eq] at h; exact vcFn_sound follows_ Try.func45 h

/-- querylab/querylabref20.Histogram -/
def S21 (values_a : Option Addr) (values_n : Nat) (values_c : Nat) (bins_ : Int) (w0 : World) (R : Value → World → Prop) : Prop :=
 br (decide (((values_n : Nat) : Int) > 1000)) (R (.tuple #[(.slice none 0 0), (.int .i64 8)]) w0)
 (br (decide (bins_ > 64)) (R (.tuple #[(.slice none 0 0), (.int .i64 8)]) w0)
 (br (decide (bins_ < 1)) (R (.tuple #[(.slice none 0 0), (.int .i64 1)]) w0)
 (call Try.prog 19 [(.slice values_a values_n values_c)] (.one (.one .slice)) w0 fun (x1 : (Option Addr × Nat × Nat)) (w2 : World) =>
 loop (T := ((Option Addr × Nat × Nat) × Int × Int × Int × Unit)) ((none, 0, 0), 0, 0, 0, ()) w2 fun (again3 : ((Option Addr × Nat × Nat) × Int × Int × Int × Unit) → World → Prop) (s4 : ((Option Addr × Nat × Nat) × Int × Int × Int × Unit)) w5 => ∀ _ : Nat → Value,
 br (decide (s4.2.2.2.1 < bins_)) (join (T := ((Option Addr × Nat × Nat) × Int × Int × Unit)) (fun (s7 : ((Option Addr × Nat × Nat) × Int × Int × Unit)) w8 => ∀ _ : Nat → Value,
 z (IntKind.wrap .i64 (s4.2.2.2.1 + 1)) fun (z9 : Int) =>
 again3 ((s7.1.1, s7.1.2.1, s7.1.2.2), s7.2.1, s7.2.2.1, z9, ()) w8)
  fun (K6 : ((Option Addr × Nat × Nat) × Int × Int × Unit) → World → Prop) =>
 rdp Try.prog (cmpS .quo 3 (.tmp 30) (.tmp 31) (.int .i64 ((x1.2.1 : Nat) : Int)) (.int .i64 bins_)) (.one (.int .i64)) fun (x10 : Int) =>
 z (IntKind.wrap .i64 (s4.2.2.1 + x10)) fun (z11 : Int) =>
 join (T := (Int × Unit)) (fun (s13 : (Int × Unit)) w14 => ∀ _ : Nat → Value,
 join (T := (Int × Unit)) (fun (s16 : (Int × Unit)) w17 => ∀ _ : Nat → Value,
 br (decide (s16.1 > s4.2.1)) (drw w17 fun w18 =>
 rdp Try.prog (Instr.indexAt 32 (.slice x1.1 x1.2.1 x1.2.2) (.int .i64 s4.2.1)) (.one .addr) fun (x19 : Addr) =>
 rd Try.prog (Instr.loadAt 2 (.pointer (some x19))) (.one (.int .i64)) w18 fun (x20 : Int) =>
 z (IntKind.wrap .i64 (s16.1 - 1)) fun (z21 : Int) =>
 rdp Try.prog (Instr.indexAt 32 (.slice x1.1 x1.2.1 x1.2.2) (.int .i64 z21)) (.one .addr) fun (x22 : Addr) =>
 rd Try.prog (Instr.loadAt 2 (.pointer (some x22))) (.one (.int .i64)) w18 fun (x23 : Int) =>
 z (IntKind.wrap .i64 (s16.1 - s4.2.1)) fun (z24 : Int) =>
 wr Try.prog (Instr.buildSlice 46 1 #[(0, (.agg #[(.int .i64 x20), (.int .i64 x23), (.int .i64 z24)]))]) (.one .slice) w18 fun (x25 : (Option Addr × Nat × Nat)) (w26 : World) =>
 wr Try.prog (Builtin.append_ #[46, 46] 46 #[(.slice s4.1.1 s4.1.2.1 s4.1.2.2), (.slice x25.1 x25.2.1 x25.2.2)]) (.one .slice) w26 fun (x27 : (Option Addr × Nat × Nat)) (w28 : World) =>
 K6 ((x27.1, x27.2.1, x27.2.2), s16.1, s13.1, ()) w28)
 (K6 ((s4.1.1, s4.1.2.1, s4.1.2.2), s4.2.1, s13.1, ()) w17))
  fun (K15 : (Int × Unit) → World → Prop) =>
 loop (T := (Int × Unit)) (s13.1, ()) w14 fun (again29 : (Int × Unit) → World → Prop) (s30 : (Int × Unit)) w31 => ∀ _ : Nat → Value,
 drw w31 fun w32 =>
 br (decide (s30.1 > 0)) (br (decide (s30.1 < ((x1.2.1 : Nat) : Int))) (rdp Try.prog (Instr.indexAt 32 (.slice x1.1 x1.2.1 x1.2.2) (.int .i64 s30.1)) (.one .addr) fun (x33 : Addr) =>
 rd Try.prog (Instr.loadAt 2 (.pointer (some x33))) (.one (.int .i64)) w32 fun (x34 : Int) =>
 z (IntKind.wrap .i64 (s30.1 - 1)) fun (z35 : Int) =>
 rdp Try.prog (Instr.indexAt 32 (.slice x1.1 x1.2.1 x1.2.2) (.int .i64 z35)) (.one .addr) fun (x36 : Addr) =>
 rd Try.prog (Instr.loadAt 2 (.pointer (some x36))) (.one (.int .i64)) w32 fun (x37 : Int) =>
 br (x34 == x37) (z (IntKind.wrap .i64 (s30.1 + 1)) fun (z38 : Int) =>
 again29 (z38, ()) w32)
 (K15 (s30.1, ()) w32))
 (K15 (s30.1, ()) w32))
 (K15 (s30.1, ()) w32))
  fun (K12 : (Int × Unit) → World → Prop) =>
 rdp Try.prog (cmpS .rem 3 (.tmp 36) (.tmp 37) (.int .i64 ((x1.2.1 : Nat) : Int)) (.int .i64 bins_)) (.one (.int .i64)) fun (x39 : Int) =>
 br (decide (s4.2.2.2.1 < x39)) (z (IntKind.wrap .i64 (z11 + 1)) fun (z40 : Int) =>
 K12 (z40, ()) w5)
 (K12 (z11, ()) w5))
 (R (.tuple #[(.slice s4.1.1 s4.1.2.1 s4.1.2.2), (.int .i64 0)]) w5))))
def H21 : Hints := ⟨[(2, 0, [(7, (.one .slice)), (8, (.one (.int .i64))), (9, (.one (.int .i64))), (10, (.one (.int .i64)))]), (0, 39, [(9, (.one (.int .i64)))]), (2, 2, [(11, (.one (.int .i64)))]), (1, 2, [(11, (.one (.int .i64)))]), (1, 1, [(7, (.one .slice)), (8, (.one (.int .i64))), (9, (.one (.int .i64)))])], [(15, 18), (18, 13)], [], []⟩
set_option maxRecDepth 100000 in
theorem S21_eq (values_a : Option Addr) (values_n : Nat) (values_c : Nat) (bins_ : Int) (w0 : World) (R : Value → World → Prop) : vcFn Try.prog H21 Try.f21 [(.slice values_a values_n values_c), (.int .i64 bins_)] w0 R = S21 values_a values_n values_c bins_ w0 R := by kernel_rfl
set_option maxRecDepth 100000 in
theorem S21_calls (values_a : Option Addr) (values_n : Nat) (values_c : Nat) (bins_ : Int) (w0 : World) (R : Value → World → Prop) (h : S21 values_a values_n values_c bins_ w0 R) : Calls Try.prog 21 #[(.slice values_a values_n values_c), (.int .i64 bins_)] w0 (ret R) := by
  rw [← S21_eq] at h; exact vcFn_sound follows_ Try.func21 h

/-- querylab/querylabref20.SameBins -/
def S22 (a_a : Option Addr) (a_n : Nat) (a_c : Nat) (b_a : Option Addr) (b_n : Nat) (b_c : Nat) (w0 : World) (R : Value → World → Prop) : Prop :=
 br (((a_n : Nat) : Int) != ((b_n : Nat) : Int)) (R (.bool false) w0)
 (loop (T := (Int × Unit)) (0, ()) w0 fun (again1 : (Int × Unit) → World → Prop) (s2 : (Int × Unit)) w3 => ∀ _ : Nat → Value,
 br (decide (s2.1 < ((a_n : Nat) : Int))) (drw w3 fun w4 =>
 rdp Try.prog (Instr.indexAt 46 (.slice a_a a_n a_c) (.int .i64 s2.1)) (.one .addr) fun (x5 : Addr) =>
 rd Try.prog (Instr.loadAt 53 (.pointer (some x5))) (.agg [(.int .i64), (.int .i64), (.int .i64)]) w4 fun (x6 : (Int × Int × Int × Unit)) =>
 rdp Try.prog (Instr.indexAt 46 (.slice b_a b_n b_c) (.int .i64 s2.1)) (.one .addr) fun (x7 : Addr) =>
 rd Try.prog (Instr.loadAt 53 (.pointer (some x7))) (.agg [(.int .i64), (.int .i64), (.int .i64)]) w4 fun (x8 : (Int × Int × Int × Unit)) =>
 rd Try.prog (cmpS .neq 53 (.tmp 20) (.tmp 24) (.agg #[(.int .i64 x6.1), (.int .i64 x6.2.1), (.int .i64 x6.2.2.1)]) (.agg #[(.int .i64 x8.1), (.int .i64 x8.2.1), (.int .i64 x8.2.2.1)])) (.one .bool) w4 fun (x9 : Bool) =>
 br x9 (R (.bool false) w4)
 (z (IntKind.wrap .i64 (s2.1 + 1)) fun (z10 : Int) =>
 again1 (z10, ()) w4))
 (R (.bool true) w3))
def H22 : Hints := ⟨[(2, 0, [(5, (.one (.int .i64)))])], [(6, 8)], [], []⟩
set_option maxRecDepth 100000 in
theorem S22_eq (a_a : Option Addr) (a_n : Nat) (a_c : Nat) (b_a : Option Addr) (b_n : Nat) (b_c : Nat) (w0 : World) (R : Value → World → Prop) : vcFn Try.prog H22 Try.f22 [(.slice a_a a_n a_c), (.slice b_a b_n b_c)] w0 R = S22 a_a a_n a_c b_a b_n b_c w0 R := by kernel_rfl
set_option maxRecDepth 100000 in
theorem S22_calls (a_a : Option Addr) (a_n : Nat) (a_c : Nat) (b_a : Option Addr) (b_n : Nat) (b_c : Nat) (w0 : World) (R : Value → World → Prop) (h : S22 a_a a_n a_c b_a b_n b_c w0 R) : Calls Try.prog 22 #[(.slice a_a a_n a_c), (.slice b_a b_n b_c)] w0 (ret R) := by
  rw [← S22_eq] at h; exact vcFn_sound follows_ Try.func22 h

/-- querylab/querylablaw20.DistributionBins -/
def S7 (l_a : Option Addr) (l_n : Nat) (l_c : Nat) (small_a : Option Addr) (small_n : Nat) (small_c : Nat) (bins_ : Int) (w0 : World) (R : Value → World → Prop) : Prop :=
 br (decide (((l_n : Nat) : Int) > 200)) (R (.bool true) w0)
 (br (decide (((small_n : Nat) : Int) > 200)) (R (.bool true) w0)
 (loop (T := ((Option Addr × Nat × Nat) × Int × Unit)) ((none, 0, 0), 0, ()) w0 fun (again1 : ((Option Addr × Nat × Nat) × Int × Unit) → World → Prop) (s2 : ((Option Addr × Nat × Nat) × Int × Unit)) w3 => ∀ _ : Nat → Value,
 br (decide (s2.2.1 < ((small_n : Nat) : Int))) (rdp Try.prog (Instr.indexAt 41 (.slice small_a small_n small_c) (.int .i64 s2.2.1)) (.one .addr) fun (x4 : Addr) =>
 rd Try.prog (Instr.loadAt 43 (.pointer (some x4))) (.one (.int .i8)) w3 fun (x5 : Int) =>
 rdp Try.prog (cmpS .rem 43 (.tmp 35) (.const (.int .i8 5)) (.int .i8 x5) (.int .i8 5)) (.one (.int .i8)) fun (x6 : Int) =>
 z (IntKind.wrap .i64 x6) fun (z7 : Int) =>
 wr Try.prog (Instr.buildSlice 32 1 #[(0, (.int .i64 z7))]) (.one .slice) w3 fun (x8 : (Option Addr × Nat × Nat)) (w9 : World) =>
 wr Try.prog (Builtin.append_ #[32, 32] 32 #[(.slice s2.1.1 s2.1.2.1 s2.1.2.2), (.slice x8.1 x8.2.1 x8.2.2)]) (.one .slice) w9 fun (x10 : (Option Addr × Nat × Nat)) (w11 : World) =>
 z (IntKind.wrap .i64 (s2.2.1 + 1)) fun (z12 : Int) =>
 again1 ((x10.1, x10.2.1, x10.2.2), z12, ()) w11)
 (call Try.prog 20 [(.slice l_a l_n l_c), (.int .i64 bins_)] (.many [(.one .slice), (.one (.int .i64))]) w3 fun (x13 : ((Option Addr × Nat × Nat) × Int × Unit)) (w14 : World) =>
 call Try.prog 21 [(.slice l_a l_n l_c), (.int .i64 bins_)] (.many [(.one .slice), (.one (.int .i64))]) w14 fun (x15 : ((Option Addr × Nat × Nat) × Int × Unit)) (w16 : World) =>
 z (IntKind.wrap .u64 bins_) fun (z17 : Int) =>
 rdp Try.prog (cmpS .rem 49 (.tmp 55) (.const (.int .u64 9)) (.int .u64 z17) (.int .u64 9)) (.one (.int .u64)) fun (x18 : Int) =>
 z (IntKind.wrap .i64 x18) fun (z19 : Int) =>
 z (IntKind.wrap .i64 (1 + z19)) fun (z20 : Int) =>
 call Try.prog 20 [(.slice s2.1.1 s2.1.2.1 s2.1.2.2), (.int .i64 z20)] (.many [(.one .slice), (.one (.int .i64))]) w16 fun (x21 : ((Option Addr × Nat × Nat) × Int × Unit)) (w22 : World) =>
 z (IntKind.wrap .u64 bins_) fun (z23 : Int) =>
 rdp Try.prog (cmpS .rem 49 (.tmp 65) (.const (.int .u64 9)) (.int .u64 z23) (.int .u64 9)) (.one (.int .u64)) fun (x24 : Int) =>
 z (IntKind.wrap .i64 x24) fun (z25 : Int) =>
 z (IntKind.wrap .i64 (1 + z25)) fun (z26 : Int) =>
 call Try.prog 21 [(.slice s2.1.1 s2.1.2.1 s2.1.2.2), (.int .i64 z26)] (.many [(.one .slice), (.one (.int .i64))]) w22 fun (x27 : ((Option Addr × Nat × Nat) × Int × Unit)) (w28 : World) =>
 call Try.prog 22 [(.slice x13.1.1 x13.1.2.1 x13.1.2.2), (.slice x15.1.1 x15.1.2.1 x15.1.2.2)] (.one (.one .bool)) w28 fun (x29 : Bool) (w30 : World) =>
 br x29 (br (x13.2.1 == x15.2.1) (call Try.prog 22 [(.slice x21.1.1 x21.1.2.1 x21.1.2.2), (.slice x27.1.1 x27.1.2.1 x27.1.2.2)] (.one (.one .bool)) w30 fun (x31 : Bool) (w32 : World) =>
 br x31 (R (.bool (x21.2.1 == x27.2.1)) w32)
 (R (.bool false) w32))
 (R (.bool false) w30))
 (R (.bool false) w30))))
def H7 : Hints := ⟨[(2, 0, [(7, (.one .slice)), (8, (.one (.int .i64)))])], [], [], []⟩
set_option maxRecDepth 100000 in
theorem S7_eq (l_a : Option Addr) (l_n : Nat) (l_c : Nat) (small_a : Option Addr) (small_n : Nat) (small_c : Nat) (bins_ : Int) (w0 : World) (R : Value → World → Prop) : vcFn Try.prog H7 Try.f7 [(.slice l_a l_n l_c), (.slice small_a small_n small_c), (.int .i64 bins_)] w0 R = S7 l_a l_n l_c small_a small_n small_c bins_ w0 R := by kernel_rfl
set_option maxRecDepth 100000 in
theorem S7_calls (l_a : Option Addr) (l_n : Nat) (l_c : Nat) (small_a : Option Addr) (small_n : Nat) (small_c : Nat) (bins_ : Int) (w0 : World) (R : Value → World → Prop) (h : S7 l_a l_n l_c small_a small_n small_c bins_ w0 R) : Calls Try.prog 7 #[(.slice l_a l_n l_c), (.slice small_a small_n small_c), (.int .i64 bins_)] w0 (ret R) := by
  rw [← S7_eq] at h; exact vcFn_sound follows_ Try.func7 h

/-- querylab/querylablaw20.DistributionCovers -/
def S8 (small_a : Option Addr) (small_n : Nat) (small_c : Nat) (bins_ : Int) (w0 : World) (R : Value → World → Prop) : Prop :=
 br (decide (((small_n : Nat) : Int) > 200)) (R (.bool true) w0)
 (loop (T := ((Option Addr × Nat × Nat) × Int × Unit)) ((none, 0, 0), 0, ()) w0 fun (again1 : ((Option Addr × Nat × Nat) × Int × Unit) → World → Prop) (s2 : ((Option Addr × Nat × Nat) × Int × Unit)) w3 => ∀ _ : Nat → Value,
 br (decide (s2.2.1 < ((small_n : Nat) : Int))) (rdp Try.prog (Instr.indexAt 41 (.slice small_a small_n small_c) (.int .i64 s2.2.1)) (.one .addr) fun (x4 : Addr) =>
 rd Try.prog (Instr.loadAt 43 (.pointer (some x4))) (.one (.int .i8)) w3 fun (x5 : Int) =>
 z (IntKind.wrap .i64 x5) fun (z6 : Int) =>
 wr Try.prog (Instr.buildSlice 32 1 #[(0, (.int .i64 z6))]) (.one .slice) w3 fun (x7 : (Option Addr × Nat × Nat)) (w8 : World) =>
 wr Try.prog (Builtin.append_ #[32, 32] 32 #[(.slice s2.1.1 s2.1.2.1 s2.1.2.2), (.slice x7.1 x7.2.1 x7.2.2)]) (.one .slice) w8 fun (x9 : (Option Addr × Nat × Nat)) (w10 : World) =>
 z (IntKind.wrap .i64 (s2.2.1 + 1)) fun (z11 : Int) =>
 again1 ((x9.1, x9.2.1, x9.2.2), z11, ()) w10)
 (z (IntKind.wrap .i64 bins_) fun (z12 : Int) =>
 rdp Try.prog (cmpS .rem 3 (.tmp 33) (.const (.int .i64 64)) (.int .i64 z12) (.int .i64 64)) (.one (.int .i64)) fun (x13 : Int) =>
 z (IntKind.wrap .i64 (1 + x13)) fun (z14 : Int) =>
 call Try.prog 20 [(.slice s2.1.1 s2.1.2.1 s2.1.2.2), (.int .i64 z14)] (.many [(.one .slice), (.one (.int .i64))]) w3 fun (x15 : ((Option Addr × Nat × Nat) × Int × Unit)) (w16 : World) =>
 loop (T := (Int × Int × Unit)) (0, 0, ()) w16 fun (again17 : (Int × Int × Unit) → World → Prop) (s18 : (Int × Int × Unit)) w19 => ∀ _ : Nat → Value,
 br (decide (s18.2.1 < ((x15.1.2.1 : Nat) : Int))) (join (T := (Int × Unit)) (fun (s21 : (Int × Unit)) w22 => ∀ _ : Nat → Value,
 z (IntKind.wrap .i64 (s18.2.1 + 1)) fun (z23 : Int) =>
 again17 (s21.1, z23, ()) w22)
  fun (K20 : (Int × Unit) → World → Prop) =>
 loop (T := (Int × Int × Unit)) (0, 0, ()) w19 fun (again24 : (Int × Int × Unit) → World → Prop) (s25 : (Int × Int × Unit)) w26 => ∀ _ : Nat → Value,
 br (decide (s25.2.1 < ((s2.1.2.1 : Nat) : Int))) (join (T := (Int × Unit)) (fun (s28 : (Int × Unit)) w29 => ∀ _ : Nat → Value,
 z (IntKind.wrap .i64 (s25.2.1 + 1)) fun (z30 : Int) =>
 again24 (s28.1, z30, ()) w29)
  fun (K27 : (Int × Unit) → World → Prop) =>
 drw w26 fun w31 =>
 rdp Try.prog (Instr.indexAt 32 (.slice s2.1.1 s2.1.2.1 s2.1.2.2) (.int .i64 s25.2.1)) (.one .addr) fun (x32 : Addr) =>
 rd Try.prog (Instr.loadAt 2 (.pointer (some x32))) (.one (.int .i64)) w31 fun (x33 : Int) =>
 rdp Try.prog (Instr.indexAt 46 (.slice x15.1.1 x15.1.2.1 x15.1.2.2) (.int .i64 s18.2.1)) (.one .addr) fun (x34 : Addr) =>
 rd Try.prog (Instr.loadAt 2 (.pointer (some x34))) (.one (.int .i64)) w31 fun (x35 : Int) =>
 br (decide (x33 ≥ x35)) (rdp Try.prog (Instr.indexAt 32 (.slice s2.1.1 s2.1.2.1 s2.1.2.2) (.int .i64 s25.2.1)) (.one .addr) fun (x36 : Addr) =>
 rd Try.prog (Instr.loadAt 2 (.pointer (some x36))) (.one (.int .i64)) w31 fun (x37 : Int) =>
 rdp Try.prog (Instr.indexAt 46 (.slice x15.1.1 x15.1.2.1 x15.1.2.2) (.int .i64 s18.2.1)) (.one .addr) fun (x38 : Addr) =>
 rd Try.prog (Instr.loadAt 2 (.pointer (some (Addr.add x38 1)))) (.one (.int .i64)) w31 fun (x39 : Int) =>
 br (decide (x37 ≤ x39)) (z (IntKind.wrap .i64 (s25.1 + 1)) fun (z40 : Int) =>
 K27 (z40, ()) w31)
 (K27 (s25.1, ()) w31))
 (K27 (s25.1, ()) w31))
 (join (T := (Unit)) (fun (_s42 : (Unit)) w43 => ∀ _ : Nat → Value,
 z (IntKind.wrap .i64 (s18.1 + s25.1)) fun (z44 : Int) =>
 K20 (z44, ()) w43)
  fun (K41 : (Unit) → World → Prop) =>
 drw w26 fun w45 =>
 rdp Try.prog (Instr.indexAt 46 (.slice x15.1.1 x15.1.2.1 x15.1.2.2) (.int .i64 s18.2.1)) (.one .addr) fun (x46 : Addr) =>
 rd Try.prog (Instr.loadAt 3 (.pointer (some (Addr.add x46 2)))) (.one (.int .i64)) w45 fun (x47 : Int) =>
 br (s25.1 != x47) (R (.bool false) w45)
 (br (s25.1 == 0) (R (.bool false) w45)
 (br (decide (s18.2.1 > 0)) (rdp Try.prog (Instr.indexAt 46 (.slice x15.1.1 x15.1.2.1 x15.1.2.2) (.int .i64 s18.2.1)) (.one .addr) fun (x48 : Addr) =>
 rd Try.prog (Instr.loadAt 2 (.pointer (some x48))) (.one (.int .i64)) w45 fun (x49 : Int) =>
 z (IntKind.wrap .i64 (s18.2.1 - 1)) fun (z50 : Int) =>
 rdp Try.prog (Instr.indexAt 46 (.slice x15.1.1 x15.1.2.1 x15.1.2.2) (.int .i64 z50)) (.one .addr) fun (x51 : Addr) =>
 rd Try.prog (Instr.loadAt 2 (.pointer (some (Addr.add x51 1)))) (.one (.int .i64)) w45 fun (x52 : Int) =>
 br (decide (x49 ≤ x52)) (R (.bool false) w45)
 (K41 (()) w45))
 (K41 (()) w45)))))
 (br (x15.2.1 == 0) (R (.bool (s18.1 == ((s2.1.2.1 : Nat) : Int))) w19)
 (R (.bool false) w19))))
def H8 : Hints := ⟨[(2, 0, [(5, (.one .slice)), (6, (.one (.int .i64)))]), (2, 2, [(9, (.one (.int .i64))), (10, (.one (.int .i64)))]), (2, 4, [(11, (.one (.int .i64))), (12, (.one (.int .i64)))]), (1, 5, [(11, (.one (.int .i64)))]), (0, 103, []), (1, 3, [(9, (.one (.int .i64)))])], [(17, 20), (19, 26)], [], []⟩
set_option maxRecDepth 100000 in
theorem S8_eq (small_a : Option Addr) (small_n : Nat) (small_c : Nat) (bins_ : Int) (w0 : World) (R : Value → World → Prop) : vcFn Try.prog H8 Try.f8 [(.slice small_a small_n small_c), (.int .u8 bins_)] w0 R = S8 small_a small_n small_c bins_ w0 R := by kernel_rfl
set_option maxRecDepth 100000 in
theorem S8_calls (small_a : Option Addr) (small_n : Nat) (small_c : Nat) (bins_ : Int) (w0 : World) (R : Value → World → Prop) (h : S8 small_a small_n small_c bins_ w0 R) : Calls Try.prog 8 #[(.slice small_a small_n small_c), (.int .u8 bins_)] w0 (ret R) := by
  rw [← S8_eq] at h; exact vcFn_sound follows_ Try.func8 h

end Go.Proofs

/- Histograms walked. -/


namespace Go.Proofs.Ytckgpiboelhefaa
open Go.RowKit Go.Q Go.V Go.Bag Go.Ds Go.Dist

/-! ### slices.Repeat of one number -/
theorem mask : ∀ k : Fin 65, iand .u64 ((k.val : Nat) : Int) 4294967295 = ((k.val : Nat) : Int) := by decide
theorem mulF (k : Nat) (hk : k ≤ 64) (w : World) :
    call Try.prog 38 [.int .u64 1, .int .u64 (k : Int)] (.many [(.one (.int .u64)), (.one (.int .u64))]) w (fun (x : Int × Int × Unit) w' => x.1 = 0 ∧ x.2.1 = (k : Int) ∧ bel w w') := by
  refine call_of (S38_calls _ _ w _ ?_)
  unfold S38
  refine call_mono (r := .many [(.one (.int .u64)), (.one (.int .u64))]) (Q := fun (x : Int × Int × Unit) w' => x.1 = 0 ∧ x.2.1 = (k : Int) ∧ bel w w') (call_of (S45_calls _ _ w _ ?_)) (fun x w' h => ⟨(x.1, x.2.1, ()), rfl, h⟩)
  unfold S45
  have e1 : iand .u64 (1 : Int) 4294967295 = 1 := by decide
  have ek : iand .u64 ((k : Nat) : Int) 4294967295 = (k : Int) := mask ⟨k, by omega⟩
  have e0 : iand .u64 (0 : Int) 4294967295 = 0 := by decide
  rw [e1, ek]
  refine z_id ?_
  refine rdp_shr 32 rfl (by decide) ?_
  refine z_id ?_
  refine rdp_shr 32 rfl (by decide) ?_
  refine z_u64 (by omega) ?_
  refine z_u64 (by omega) ?_
  refine rdp_shr 32 rfl (by decide) ?_
  have a1 : (1 : Int) / 2 ^ 32 = 0 := by decide
  have a2 : (k : Int) / 2 ^ 32 = 0 := by omega
  rw [a1, a2, show (0 : Int) * (k : Int) = 0 by omega, show (1 * (k : Int)) / 2 ^ 32 = 0 by omega]
  refine z_u64 (by omega) ?_
  rw [show (0 : Int) + 0 = 0 from rfl, e0]
  refine z_id ?_
  refine rdp_shr 32 rfl (by decide) ?_
  rw [show (0 : Int) / 2 ^ 32 = 0 by decide]
  refine z_u64 (by omega) ?_
  rw [show (1 : Int) * 0 = 0 from rfl]
  refine z_u64 (by omega) ?_
  refine z_u64 (by omega) ?_
  rw [show (0 : Int) * 0 = 0 from rfl]
  refine z_u64 (by omega) ?_
  refine rdp_shr 32 rfl (by decide) ?_
  rw [show (0 : Int) + 0 = 0 from rfl, show (0 : Int) / 2 ^ 32 = 0 by decide]
  refine z_u64 (by omega) ?_
  refine z_u64 (by omega) ?_
  exact ⟨((0 : Int), (k : Int), ()), by simp [RS.val, Vval, VS.val, Sh.val], rfl, rfl, bel.refl _⟩
theorem store_off {P : Program} {ad : Addr} {k : Nat} : ∀ (vs : List Value) (i : Nat) (w : World), (storeCells (ad.add k) vs i).run P w = (storeCells ad vs (k + i)).run P w
  | [], _, _ => rfl
  | v :: vs, i, w => by
    unfold storeCells
    rw [add_add]
    simp only [Sem.run_bind]
    congr 1
    funext _ w'
    rw [store_off vs (i + 1) w', Nat.add_assoc]
/-- a slice's own head is laid behind it -/
theorem wr_copySelf {t e : TypeId} {z : Value} {bytes : Nat} (T : TyS Try.prog t e z 1 bytes) {w : World} {B : Nat} {ad : Addr} {n k c c1 c2 : Nat} {xs : List Value} {ty : TypeId} {K : Int → World → Prop}
    (O : Go.Q.Own w B e 1 (some ad) n c xs) (hk : k < n) (hp : plainV xs = true)
    (hK : ∀ w', Go.Q.Own w' B e 1 (some ad) n c (xs.take k ++ xs.take (min k (n - k)) ++ xs.drop (k + min k (n - k))) → w.grownBy w' (some ad.block) → K ((min k (n - k) : Nat) : Int) w') :
    wr Try.prog (Builtin.copy_ #[t, t] ty #[.slice (some (ad.add k)) (n - k) c1, .slice (some ad) k c2]) (.one (.int .i64)) w K := by
  obtain ⟨i, h1, _, h2, _⟩ := info_parts T.hi
  have hxs : xs.length = n := by have := O.1; omega
  have hi : i.size = 1 := h2
  have hcl : (xs.take (min k (n - k))).length = min k (n - k) := by rw [List.length_take]; omega
  have hpl : plainV (xs.take (min k (n - k))) = true := by
    unfold plainV at hp ⊢
    rw [List.all_eq_true] at hp ⊢
    exact fun x hx => hp x (List.mem_of_mem_take hx)
  obtain ⟨w', r1, r2, r3, _⟩ := run_storeOwn (P := Try.prog) (xs.take (min k (n - k))) k w xs O (by omega) hpl
  have key : putAt xs k (xs.take (min k (n - k))) = xs.take k ++ xs.take (min k (n - k)) ++ xs.drop (k + min k (n - k)) := by
    have e : xs = xs.take k ++ xs.drop k := (List.take_append_drop _ _).symm
    have := putAt_at (xs.take (min k (n - k))) (xs.take k) (xs.drop k) (by rw [hcl, List.length_drop]; omega)
    rw [← e, List.length_take, show min k xs.length = k by omega, hcl, List.drop_drop] at this
    exact this
  rw [key] at r2
  refine ⟨((min k (n - k) : Nat) : Int), w', ?_, hK w' r2 r3⟩
  have hl := run_loadCells_list (P := Try.prog) w ad (xs.take (min k (n - k))) (fun j v h => by
    have hj : xs[j]? = some v := by
      rw [List.getElem?_take] at h
      split at h
      · exact h
      · cases h
    obtain ⟨ad', q1, q2, _⟩ := O.cell hj
    cases q1; exact q2)
  rw [hcl] at hl
  have hmin : Nat.min k (n - k) = min k (n - k) := rfl
  have hs := store_off (P := Try.prog) (ad := ad) (k := k) (xs.take (min k (n - k))) 0 w
  rw [Nat.add_zero, r1] at hs
  simp [Builtin.copy_, run_underlying T.ht, Builtin.lenOf, Builtin.firstCells, sizeOf, typeInfo, h1, hi, goInt, hmin, hl, hs]
  rfl
theorem sl_fromC {t e : TypeId} {z : Value} {bytes : Nat} (T : TyS Try.prog t e z 1 bytes) {ad : Addr} {n c m : Nat} {i : Int} {K : Hdr → Prop} (hi : i = (m : Int)) (hm : m ≤ n) (hc : m < c) (hk : K (some (ad.add m), n - m, c - m)) :
    rdp Try.prog (Instr.sliceAt t (.slice (some ad) n c) (some (.int .i64 i)) none none) (.one .slice) K := by
  subst hi
  refine ⟨(some (ad.add m), n - m, c - m), fun w => ?_, hk⟩
  have ht : Try.prog.underlying t = some (.slice (Try.prog.elem t)) := by rw [T.elem]; exact T.ht
  rw [run_sliceAt_slice _ _ _ _ _ _ ht, run_slice_l _ _ _ _ _ ht _ _ (by omega) (by omega), T.elem, T.size]
  simp only [Result.andThen_ok, Int.toNat_natCast]
  have : ¬ c = m := by omega
  simp [sliced, this, Nat.mul_one]
  rfl
theorem repeatF (h : Hdr) (b : Nat) (w : World) (S : SlI w h [1]) (hb : 1 ≤ b) (hb' : b ≤ 64) :
    call Try.prog 31 [.slice h.1 h.2.1 h.2.2, .int .i64 (b : Int)] (.one (.one .slice)) w (fun (x : Hdr) w' => SlI w' x (ones b) ∧ bel w w') := by
  refine call_of (S31_calls h.1 h.2.1 h.2.2 b w _ ?_)
  unfold S31
  have hl : h.2.1 = 1 := (Sl.int S).symm
  refine join_mk (fun _ w' => w' = w) (fun K1 hK1 => br_dec (fun e => by omega) (fun _ => hK1 () w rfl)) ?_
  rintro _ w3 rfl _
  rw [hl]
  refine z_u64 (by omega) ?_
  refine z_u64 (by omega) ?_
  refine call_mono (mulF b hb' w3) fun (x6 : Int × Int × Unit) w7 ⟨q1, q2, h7⟩ => ?_
  refine join_mk (fun _ w' => w' = w7) (fun K8 hK8 => ?_) ?_
  · refine br_dec (fun e => by omega) (fun _ => ?_)
    exact br_dec (fun e => by omega) (fun _ => hK8 () _ rfl)
  rintro _ w10 rfl _
  rw [q2]
  refine z_i64 (by omega) ?_
  refine wr_make tyI b rfl rfl (by omega) (by unfold maxLen; omega) fun ad w13 O13 b13 _ _ => ?_
  have O := O13 w10.heap.size (Nat.le_refl _)
  have S13 : Sl w13 h.1 1 h.2.2 1 (ints .i64 [1]) := by
    have := Sl.up (Sl.up S h7) b13
    rw [hl] at this; exact this
  refine wr_copy tyI O S13 rfl fun w15 O15 g15 _ => ?_
  have e15 : List.take b (ints .i64 [1]) ++ List.drop 1 (madeCells (Value.int .i64 0).cells (b * 1)).toList = ints .i64 (mkI b fun x => if x < 1 then 1 else 0) := by
    rw [zeros_i, List.take_of_length_le (by simp [ints]; omega)]
    unfold ints mkI
    refine List.ext_getElem? fun j => ?_
    cases j with
    | zero =>
      have h0 : 0 < b := hb
      simp [h0]
    | succ j =>
      by_cases q : j + 1 < b
      · simp [q]
      · rw [List.getElem?_eq_none (by simp; omega), List.getElem?_eq_none (by simp; omega)]
  rw [e15] at O15
  have b15 := b13.own O g15 (Nat.le_refl _)
  have hm1 : Nat.min 1 b = 1 := by show min 1 b = 1; omega
  rw [hm1]
  refine loop_gh (G := Nat) (fun k s w' => s = ((k : Int), ()) ∧ 1 ≤ k ∧ k ≤ b ∧ bel w10 w' ∧ Go.Q.Own w' w10.heap.size 3 1 (some ad) b b (ints .i64 (mkI b fun x => if x < k then 1 else 0))) (fun k => b - k) 1 ⟨rfl, Nat.le_refl _, hb, b15, O15⟩ ?_
  rintro k s w18 ⟨rfl, hk1, hkb, b18, O18⟩ again hag _
  dsimp only
  refine br_dec (fun e => ?_) (fun e => ?_)
  · refine drw_mk fun w19 h19 _ => ?_
    replace O18 := Go.Q.Own.kept O18 h19
    replace b18 := b18.trans h19
    refine sl_fromC tyI (m := k) rfl hkb (by omega) ?_
    refine Go.V.sl_to tyI (m := k) rfl hkb ?_
    dsimp only
    refine wr_copySelf tyI O18 (by omega) (plainI _) fun w23 O23 g23 => ?_
    refine z_i64 (by omega) ?_
    refine hag (k + min k (b - k)) _ _ ⟨by rw [Int.natCast_add], by omega, by omega, b18.own O18 g23 (Nat.le_refl _), ?_⟩ (by omega)
    have e23 : List.take k (ints .i64 (mkI b fun x => if x < k then (1 : Int) else 0)) ++ List.take (min k (b - k)) (ints .i64 (mkI b fun x => if x < k then (1 : Int) else 0)) ++ List.drop (k + min k (b - k)) (ints .i64 (mkI b fun x => if x < k then (1 : Int) else 0)) = ints .i64 (mkI b fun x => if x < k + min k (b - k) then (1 : Int) else 0) := by
      have hlen : (ints .i64 (mkI b fun x => if x < k then (1 : Int) else 0)).length = b := by rw [ints_len, mkI_len]
      have hat : ∀ j, j < b → (ints .i64 (mkI b fun x => if x < k then (1 : Int) else 0))[j]? = some (.int .i64 (if j < k then 1 else 0)) := fun j hj => by
        unfold ints
        rw [List.getElem?_map, mkI_at hj]; rfl
      refine List.ext_getElem? fun j => ?_
      by_cases hj : j < b
      · have hr : (ints .i64 (mkI b fun x => if x < k + min k (b - k) then (1 : Int) else 0))[j]? = some (.int .i64 (if j < k + min k (b - k) then 1 else 0)) := by
          unfold ints
          rw [List.getElem?_map, mkI_at hj]; rfl
        rw [hr]
        by_cases j1 : j < k
        · rw [List.append_assoc, List.getElem?_append_left (by rw [List.length_take]; omega), List.getElem?_take_of_lt j1, hat j hj, if_pos j1, if_pos (by omega)]
        · by_cases j2 : j < k + min k (b - k)
          · rw [List.getElem?_append_left (by rw [List.length_append, List.length_take, List.length_take]; omega), List.getElem?_append_right (by rw [List.length_take]; omega), List.length_take, hlen, List.getElem?_take_of_lt (by omega), hat _ (by omega), if_pos (by omega), if_pos j2]
          · rw [List.getElem?_append_right (by rw [List.length_append, List.length_take, List.length_take]; omega), List.length_append, List.length_take, List.length_take, hlen, List.getElem?_drop, show k + min k (b - k) + (j - (min k b + min (min k (b - k)) b)) = j by omega, hat j hj, if_neg j1, if_neg j2]
      · rw [List.getElem?_eq_none (by rw [List.length_append, List.length_append, List.length_take, List.length_take, List.length_drop]; omega), List.getElem?_eq_none (by rw [ints_len, mkI_len]; omega)]
    rw [e23] at O23
    exact O23
  · have : k = b := by omega
    subst this
    refine ⟨(some ad, k, k), rfl, ?_, h7.trans b18⟩
    have eo : (mkI k fun x => if x < k then (1 : Int) else 0) = ones k := by
      unfold ones mkI
      refine List.ext_getElem? fun j => ?_
      by_cases q : j < k
      · simp [q]
      · rw [List.getElem?_eq_none (by simp; omega), List.getElem?_eq_none (by simp; omega)]
    rw [eo] at O18
    exact O18.sl
end Go.Proofs.Ytckgpiboelhefaa

/- Histograms walked. -/

namespace Go.Proofs.Ytckgpiboelhefaa
open Go.RowKit Go.Q Go.V Go.Bag Go.Ds Go.Dist

def encB (p : Bn) : List Value := [.int .i64 p.1, .int .i64 p.2.1, .int .i64 p.2.2]
theorem encB_len (p : Bn) : (encB p).length = 3 := rfl
theorem tyN : TyS Try.prog 46 53 (.agg #[.int .i64 0, .int .i64 0, .int .i64 0]) 3 24 := ⟨by kernel_rfl, by kernel_rfl⟩
abbrev SlB (w : World) (h : Hdr) (L : List Bn) : Prop := Sl w h.1 h.2.1 h.2.2 3 (L.flatMap encB)
theorem SlB.len {w : World} {h : Hdr} {L : List Bn} (S : SlB w h L) : L.length = h.2.1 := by
  have := Sl.len S
  rw [flat_len encB_len] at this; omega
abbrev HsR (s : List Int) (bins : Int) (x : Hdr × Int × Unit) (w : World) : Prop := SlB w x.1 (hsL s bins) ∧ x.2.1 = hsE s.length bins
theorem hsR_err {s : List Int} {bins e : Int} (he : e ≠ 0) (h : hsE s.length bins = e) (w : World) : HsR s bins ((none, 0, 0), e, ()) w := by
  refine ⟨?_, h.symm⟩
  unfold hsL
  rw [if_neg (by omega)]
  exact (Go.Q.Own.nil w 0 53 3).sl
abbrev OwnB (w : World) (B : Nat) (h : Hdr) (L : List Bn) : Prop := Go.Q.Own w B 53 3 h.1 h.2.1 h.2.2 (L.flatMap encB)
theorem OwnB.app {w : World} {B : Nat} {h : Hdr} {L : List Bn} {x y c : Int} (O : OwnB w B h L) (hB : B ≤ w.heap.size) (hl : L.length ≤ 1000000) {k : Hdr → World → Prop} (hk : ∀ h' w', OwnB w' B h' (L ++ [(x, y, c)]) → w.grownBy w' (blk h.1) → k h' w') :
    wr Try.prog (Instr.buildSlice 46 1 #[(0, .agg #[.int .i64 x, .int .i64 y, .int .i64 c])]) (.one .slice) w fun z w1 => wr Try.prog (Builtin.append_ #[46, 46] 46 #[.slice h.1 h.2.1 h.2.2, .slice z.1 z.2.1 z.2.2]) (.one .slice) w1 k := by
  have hn := SlB.len O.sl
  refine wr_app1 tyN O hB rfl (by decide) (by decide) rfl rfl (by omega) (by unfold maxLen; omega) fun a' c' w' O' g' _ _ => hk _ w' ?_ g'
  show Go.Q.Own _ _ _ _ _ _ _ ((L ++ [(x, y, c)]).flatMap encB)
  rw [List.flatMap_append]; exact O'
theorem apErr_ones {n b : Nat} (hn : n ≤ 1000) (hb : 1 ≤ b) (hb' : b ≤ 64) : apErr (n : Int) (ones b) = none := by
  refine err4 (fun q => ?_) (fun q => ?_) (fun q => ?_)
  · rcases q with q | q | q
    · simp [ones] at q; omega
    · omega
    · obtain ⟨x, hx, h1⟩ := List.any_eq_true.1 q
      have := (List.mem_replicate.1 hx).2
      subst this
      exact absurd h1 (by decide)
  · obtain ⟨x, hx, h1⟩ := List.any_eq_true.1 q
    have := (List.mem_replicate.1 hx).2
    subst this
    exact absurd h1 (by decide)
  · rw [ones_sum] at q; omega
theorem HistogramF (h : Hdr) (zs : List Int) (bins : Int) (w : World) (S : SlI w h zs) :
    call Try.prog 20 [.slice h.1 h.2.1 h.2.2, .int .i64 bins] (.many [(.one .slice), (.one (.int .i64))]) w (fun (x : Hdr × Int × Unit) w' => HsR (srt zs) bins x w' ∧ bel w w') := by
  refine call_of (S20_calls h.1 h.2.1 h.2.2 bins w _ ?_)
  unfold S20
  have hl : zs.length = h.2.1 := Sl.int S
  have ls := srt_len zs
  refine br_dec (fun e => ⟨_, rfl, hsR_err (by decide) (by unfold hsE; rw [if_pos (by omega)]) _, bel.refl _⟩) (fun c1 => ?_)
  refine br_dec (fun e => ⟨_, rfl, hsR_err (by decide) (by unfold hsE; rw [if_neg (by omega), if_pos (by omega)]) _, bel.refl _⟩) (fun c2 => ?_)
  refine br_dec (fun e => ⟨_, rfl, hsR_err (by decide) (by unfold hsE; rw [if_neg (by omega), if_neg (by omega), if_pos (by omega)]) _, bel.refl _⟩) (fun c3 => ?_)
  have h0 : hsE (srt zs).length bins = 0 := hsE_of (by omega) (by omega) (by omega)
  obtain ⟨b, rfl⟩ : ∃ b : Nat, bins = (b : Int) := ⟨bins.toNat, by omega⟩
  refine call_mono (valuesC h w) ?_
  rintro _ _ ⟨rfl, rfl⟩
  show call _ _ _ _ _ _
  have b2 : bel w (w.alloc (.cells #[.slice h.1 h.2.1 h.2.2] 32)) := bel_alloc _ _
  refine call_mono (sortedC w.heap.size h zs _ (by simp) ((box_new w #[.slice h.1 h.2.1 h.2.2] 32).cell0 rfl) (Sl.up S b2) (by omega)) fun (x3 : Hdr) w4 ⟨S3, b4⟩ => ?_
  replace b4 := b2.trans b4
  have l3 : (srt zs).length = x3.2.1 := Sl.int S3
  refine wr_lit tyI #[.int .i64 1] (fill_one 1 (.int .i64 1) _ rfl (by simp)) (by omega) (by omega) rfl (by unfold maxLen; omega) fun ad w6 O6 h6 _ _ => ?_
  have S6 : SlI w6 (some ad, 1, 1) [1] := (O6 w4.heap.size (Nat.le_refl _)).sl
  refine call_mono (repeatF (some ad, 1, 1) b w6 S6 (by omega) (by omega)) fun (x7 : Hdr) w8 ⟨S7, h8⟩ => ?_
  refine call_mono (appC ((x3.2.1 : Nat) : Int) ⟨by omega, by omega⟩ x7 (ones b) w8 S7) fun (x9 : Hdr × Int × Unit) w10 ⟨h10, _, hA⟩ => ?_
  obtain ⟨_, f, Rf, Sf, S9⟩ := hA (apErr_ones (by omega) (by omega) (by omega))
  rw [app_ones (by omega) Rf Sf, ← l3] at S9
  have hs := srt_asc zs
  replace S3 : SlI w10 x3 (srt zs) := Sl.up (Sl.up (Sl.up S3 h6) h8) h10
  have b10 := b4.trans (h6.trans (h8.trans h10))
  have l9 : b = x9.1.2.1 := by
    have : ((List.range b).map fun i : Nat => (pc (srt zs).length b i : Int)).length = x9.1.2.1 := Sl.int S9
    rw [← this]; simp
  clear Rf Sf f hA S7 S6 O6 h6 h8 h10 b4 b2
  generalize srt zs = s at S3 l3 h0 hs ls S9
  have eL : hsL s b = (hst s b b).2.2 := by unfold hsL; rw [if_pos h0]; simp
  have h5 := hsE_ok h0
  refine loop_gh (G := Nat × Hdr) (fun g s' w' => s' = (g.2, ((hst s b g.1).1 : Int), ((hst s b g.1).2.1 : Int), (g.1 : Int), ()) ∧ g.1 ≤ b ∧ bel w10 w' ∧ OwnB w' w10.heap.size g.2 (hst s b g.1).2.2) (fun g => b - g.1) (0, (none, 0, 0)) ⟨rfl, Nat.zero_le _, bel.refl _, Go.Q.Own.nil _ _ _ _⟩ ?_
  rintro ⟨i, out⟩ s' w13 ⟨es, hi, b13, O13⟩ again hag _
  dsimp only at es hi O13
  subst es
  dsimp only
  have hlen := hst_len s b i
  have hfr := hst_from s (b := b) i hi
  refine br_dec (fun e => ?_) (fun e => ?_)
  · have hib : i < b := by omega
    have hcut := hst_cut_le s (b := b) (i := i + 1) (by omega)
    have estp : hst s b (i + 1) = stp s (pc s.length b i) (hst s b i) := rfl
    have hcut2 := hcut
    rw [estp, stp_cut] at hcut2
    have hex := ext_le hcut2
    refine join_mk (fun (r : Hdr × Int × Int × Unit) w' => bel w10 w' ∧ r.2.1 = ((hst s b (i + 1)).1 : Int) ∧ r.2.2.1 = ((hst s b (i + 1)).2.1 : Int) ∧ OwnB w' w10.heap.size r.1 (hst s b (i + 1)).2.2) (fun K14 hK14 => ?_) ?_
    · refine at_int tyI (by kernel_rfl) (Sl.up S9 b13) (j := i) rfl (by omega) fun x hx => ?_
      have hx' : x = (pc s.length b i : Int) := by
        rw [List.getElem?_map, List.getElem?_range hib] at hx
        cases hx; rfl
      subst hx'
      have ecut : ((hst s b i).2.1 : Int) + (pc s.length b i : Int) = (((hst s b i).2.1 + pc s.length b i : Nat) : Int) := by omega
      rw [ecut]
      refine z_i64 (by omega) ?_
      refine join_mk (fun (r : Int × Unit) w' => bel w10 w' ∧ r.1 = (ext s ((hst s b i).2.1 + pc s.length b i) : Int) ∧ OwnB w' w10.heap.size out (hst s b i).2.2) (fun K21 hK21 => ?_) ?_
      · refine loop_gh (G := Nat) (fun t s' w' => s' = ((t : Int), ()) ∧ t ≤ s.length ∧ ext s t = ext s ((hst s b i).2.1 + pc s.length b i) ∧ bel w10 w' ∧ OwnB w' w10.heap.size out (hst s b i).2.2) (fun t => s.length - t) ((hst s b i).2.1 + pc s.length b i) ⟨rfl, hcut2, rfl, b13, O13⟩ ?_
        rintro t s' w37 ⟨rfl, ht, et, b37, O37⟩ again2 hag2 _
        dsimp only
        refine drw_mk fun w38 h38 _ => ?_
        replace b37 := b37.trans h38
        replace O37 : OwnB w38 _ out _ := Go.Q.Own.kept O37 h38
        have stop : (¬ (0 < t ∧ t < s.length ∧ s.getD (t - 1) 0 = s.getD t 0)) → K21 ((t : Int), ()) w38 := fun q => hK21 _ _ ⟨b37, by dsimp only; rw [← et, ext_no q], O37⟩
        refine br_dec (fun c => ?_) (fun c => stop fun q => by omega)
        refine br_dec (fun c' => ?_) (fun c' => stop fun q => by omega)
        refine z_i64 (by omega) ?_
        refine atL b37 S3 (j := t - 1) (by omega) (by omega) fun x hx => ?_
        refine atL b37 S3 (j := t) rfl (by omega) fun y hy => ?_
        have gx := getD_at hx
        have gy := getD_at hy
        refine br_eq (fun q => ?_) (fun q => stop fun q' => q (by rw [← gx, ← gy]; exact q'.2.2))
        refine z_i64 (by omega) ?_
        refine hag2 (t + 1) _ _ ⟨rfl, by omega, ?_, b37, O37⟩ (by omega)
        rw [← et]
        exact (ext_yes ⟨by omega, by omega, by rw [gx, gy]; exact q⟩).symm
      · rintro ⟨r, ⟨⟩⟩ w23 ⟨b23, er, O23⟩ _
        dsimp only at er ⊢
        subst er
        refine br_dec (fun c => ?_) (fun c => ?_)
        · have e2 : hst s b (i + 1) = ((hst s b i).1, (hst s b i).2.1 + pc s.length b i, (hst s b i).2.2) := by
            rw [estp]; unfold stp; rw [if_pos (by omega)]
          exact hK14 _ _ ⟨b23, by rw [e2], by rw [e2], by rw [e2]; exact O23⟩
        · have e2 : hst s b (i + 1) = (ext s ((hst s b i).2.1 + pc s.length b i), (hst s b i).2.1 + pc s.length b i, (hst s b i).2.2 ++ [(s.getD (hst s b i).1 0, s.getD (ext s ((hst s b i).2.1 + pc s.length b i) - 1) 0, (ext s ((hst s b i).2.1 + pc s.length b i) : Int) - (hst s b i).1)]) := by
            rw [estp]; unfold stp; rw [if_neg (by omega)]
          refine drw_mk fun w24 h24 _ => ?_
          replace b23 := b23.trans h24
          replace O23 : OwnB w24 _ out _ := Go.Q.Own.kept O23 h24
          refine atL b23 S3 (j := (hst s b i).1) rfl (by omega) fun x hx => ?_
          refine z_i64 (by omega) ?_
          refine atL b23 S3 (j := ext s ((hst s b i).2.1 + pc s.length b i) - 1) (by omega) (by omega) fun y hy => ?_
          refine z_i64 (by omega) ?_
          refine OwnB.app O23 b23.size (by omega) fun out' w34 O34 g34 => ?_
          have gx := getD_at hx
          have gy := getD_at hy
          exact hK14 _ _ ⟨b23.own O23 g34 (Nat.le_refl _), by rw [e2], by rw [e2], by rw [e2, gx, gy]; exact O34⟩
    · rintro ⟨o, fr, cu, ⟨⟩⟩ w16 ⟨b16, q1, q2, O16⟩ _
      dsimp only at q1 q2 O16 ⊢
      subst q1 q2
      refine z_i64 (by omega) ?_
      exact hag (i + 1, o) _ _ ⟨rfl, by dsimp only; omega, b16, O16⟩ (by dsimp only; omega)
  · have : i = b := by omega
    subst this
    refine ⟨(out, (0 : Int), ()), rfl, ⟨?_, h0.symm⟩, b10.trans b13⟩
    rw [eL]; exact O13.sl
theorem RHistogramF (h : Hdr) (zs : List Int) (bins : Int) (w : World) (S : SlI w h zs) :
    call Try.prog 21 [.slice h.1 h.2.1 h.2.2, .int .i64 bins] (.many [(.one .slice), (.one (.int .i64))]) w (fun (x : Hdr × Int × Unit) w' => HsR (srt zs) bins x w' ∧ bel w w') := by
  refine call_of (S21_calls h.1 h.2.1 h.2.2 bins w _ ?_)
  unfold S21
  have hl : zs.length = h.2.1 := Sl.int S
  have ls := srt_len zs
  refine br_dec (fun e => ⟨_, rfl, hsR_err (by decide) (by unfold hsE; rw [if_pos (by omega)]) _, bel.refl _⟩) (fun c1 => ?_)
  refine br_dec (fun e => ⟨_, rfl, hsR_err (by decide) (by unfold hsE; rw [if_neg (by omega), if_pos (by omega)]) _, bel.refl _⟩) (fun c2 => ?_)
  refine br_dec (fun e => ⟨_, rfl, hsR_err (by decide) (by unfold hsE; rw [if_neg (by omega), if_neg (by omega), if_pos (by omega)]) _, bel.refl _⟩) (fun c3 => ?_)
  have h0 : hsE (srt zs).length bins = 0 := hsE_of (by omega) (by omega) (by omega)
  obtain ⟨b, rfl⟩ : ∃ b : Nat, bins = (b : Int) := ⟨bins.toNat, by omega⟩
  refine call_mono (RSortedF zs.length h zs w rfl S (by omega)) fun (x3 : Hdr) w10 ⟨S3, b10⟩ => ?_
  have l3 : (srt zs).length = x3.2.1 := Sl.int S3
  have hs := srt_asc zs
  generalize srt zs = s at S3 l3 h0 hs ls
  have eL : hsL s b = (hst s b b).2.2 := by unfold hsL; rw [if_pos h0]; simp
  have h5 := hsE_ok h0
  refine loop_gh (G := Nat × Hdr) (fun g s' w' => s' = (g.2, ((hst s b g.1).1 : Int), ((hst s b g.1).2.1 : Int), (g.1 : Int), ()) ∧ g.1 ≤ b ∧ bel w10 w' ∧ OwnB w' w10.heap.size g.2 (hst s b g.1).2.2) (fun g => b - g.1) (0, (none, 0, 0)) ⟨rfl, Nat.zero_le _, bel.refl _, Go.Q.Own.nil _ _ _ _⟩ ?_
  rintro ⟨i, out⟩ s' w13 ⟨es, hi, b13, O13⟩ again hag _
  dsimp only at es hi O13
  subst es
  dsimp only
  have hlen := hst_len s b i
  have hfr := hst_from s (b := b) i hi
  have hci := hst_cut_le s (b := b) hi
  refine br_dec (fun e => ?_) (fun e => ?_)
  · have hib : i < b := by omega
    have hcut := hst_cut_le s (b := b) (i := i + 1) (by omega)
    have estp : hst s b (i + 1) = stp s (pc s.length b i) (hst s b i) := rfl
    have hcut2 := hcut
    rw [estp, stp_cut] at hcut2
    have hex := ext_le hcut2
    refine join_mk (fun (r : Hdr × Int × Int × Unit) w' => bel w10 w' ∧ r.2.1 = ((hst s b (i + 1)).1 : Int) ∧ r.2.2.1 = ((hst s b (i + 1)).2.1 : Int) ∧ OwnB w' w10.heap.size r.1 (hst s b (i + 1)).2.2) (fun K14 hK14 => ?_) ?_
    · refine rdp_quo (by omega) ?_
      have hdl := Nat.div_le_self s.length b
      have ediv : ((x3.2.1 : Nat) : Int) / (b : Int) = ((s.length / b : Nat) : Int) := by rw [← l3]; rfl
      obtain ⟨m, hm⟩ : ∃ m, m = s.length / b := ⟨_, rfl⟩
      rw [← hm] at hdl ediv
      rw [Int.tdiv_eq_ediv_of_nonneg (by omega), ediv, IntWalk.i64_in (m : Int) (by omega)]
      refine z_i64 (by omega) ?_
      refine join_mk (fun (r : Int × Unit) w' => bel w10 w' ∧ r.1 = (((hst s b i).2.1 + pc s.length b i : Nat) : Int) ∧ OwnB w' w10.heap.size out (hst s b i).2.2) (fun K12 hK12 => ?_) ?_
      · refine rdp_rem (by omega) ?_
        rw [Int.tmod_eq_emod_of_nonneg (by omega)]
        have emod : ((x3.2.1 : Nat) : Int) % (b : Int) = ((s.length % b : Nat) : Int) := by rw [← l3]; rfl
        obtain ⟨m2, hm2⟩ : ∃ m2, m2 = s.length % b := ⟨_, rfl⟩
        rw [← hm2] at emod
        rw [emod]
        refine br_dec (fun q => ?_) (fun q => ?_)
        · refine z_i64 (by omega) ?_
          refine hK12 _ _ ⟨b13, ?_, O13⟩
          dsimp only
          unfold pc
          rw [← hm, ← hm2, if_pos (by omega)]; omega
        · refine hK12 _ _ ⟨b13, ?_, O13⟩
          dsimp only
          unfold pc
          rw [← hm, ← hm2, if_neg (by omega)]; omega
      · rintro ⟨r, ⟨⟩⟩ w14 ⟨b14, er, O14⟩ _
        dsimp only at er ⊢
        subst er
        refine join_mk (fun (r : Int × Unit) w' => bel w10 w' ∧ r.1 = (ext s ((hst s b i).2.1 + pc s.length b i) : Int) ∧ OwnB w' w10.heap.size out (hst s b i).2.2) (fun K21 hK21 => ?_) ?_
        · refine loop_gh (G := Nat) (fun t s' w' => s' = ((t : Int), ()) ∧ t ≤ s.length ∧ ext s t = ext s ((hst s b i).2.1 + pc s.length b i) ∧ bel w10 w' ∧ OwnB w' w10.heap.size out (hst s b i).2.2) (fun t => s.length - t) ((hst s b i).2.1 + pc s.length b i) ⟨rfl, hcut2, rfl, b14, O14⟩ ?_
          rintro t s' w37 ⟨rfl, ht, et, b37, O37⟩ again2 hag2 _
          dsimp only
          refine drw_mk fun w38 h38 _ => ?_
          replace b37 := b37.trans h38
          replace O37 : OwnB w38 _ out _ := Go.Q.Own.kept O37 h38
          have stop : (¬ (0 < t ∧ t < s.length ∧ s.getD (t - 1) 0 = s.getD t 0)) → K21 ((t : Int), ()) w38 := fun q => hK21 _ _ ⟨b37, by dsimp only; rw [← et, ext_no q], O37⟩
          refine br_dec (fun c => ?_) (fun c => stop fun q => by omega)
          refine br_dec (fun c' => ?_) (fun c' => stop fun q => by omega)
          refine atL b37 S3 (j := t) rfl (by omega) fun y hy => ?_
          refine z_i64 (by omega) ?_
          refine atL b37 S3 (j := t - 1) (by omega) (by omega) fun x hx => ?_
          have gx := getD_at hx
          have gy := getD_at hy
          refine br_eq (fun q => ?_) (fun q => stop fun q' => q (by rw [← gx, ← gy]; exact q'.2.2.symm))
          refine z_i64 (by omega) ?_
          refine hag2 (t + 1) _ _ ⟨rfl, by omega, ?_, b37, O37⟩ (by omega)
          rw [← et]
          exact (ext_yes ⟨by omega, by omega, by rw [gx, gy]; exact q.symm⟩).symm
        · rintro ⟨r, ⟨⟩⟩ w23 ⟨b23, er, O23⟩ _
          dsimp only at er ⊢
          subst er
          refine br_dec (fun c => ?_) (fun c => ?_)
          · have e2 : hst s b (i + 1) = (ext s ((hst s b i).2.1 + pc s.length b i), (hst s b i).2.1 + pc s.length b i, (hst s b i).2.2 ++ [(s.getD (hst s b i).1 0, s.getD (ext s ((hst s b i).2.1 + pc s.length b i) - 1) 0, (ext s ((hst s b i).2.1 + pc s.length b i) : Int) - (hst s b i).1)]) := by
              rw [estp]; unfold stp; rw [if_neg (by omega)]
            refine drw_mk fun w24 h24 _ => ?_
            replace b23 := b23.trans h24
            replace O23 : OwnB w24 _ out _ := Go.Q.Own.kept O23 h24
            refine atL b23 S3 (j := (hst s b i).1) rfl (by omega) fun x hx => ?_
            refine z_i64 (by omega) ?_
            refine atL b23 S3 (j := ext s ((hst s b i).2.1 + pc s.length b i) - 1) (by omega) (by omega) fun y hy => ?_
            refine z_i64 (by omega) ?_
            refine OwnB.app O23 b23.size (by omega) fun out' w34 O34 g34 => ?_
            have gx := getD_at hx
            have gy := getD_at hy
            exact hK14 _ _ ⟨b23.own O23 g34 (Nat.le_refl _), by rw [e2], by rw [e2], by rw [e2, gx, gy]; exact O34⟩
          · have e2 : hst s b (i + 1) = ((hst s b i).1, (hst s b i).2.1 + pc s.length b i, (hst s b i).2.2) := by
              rw [estp]; unfold stp; rw [if_pos (by omega)]
            exact hK14 _ _ ⟨b23, by rw [e2], by rw [e2], by rw [e2]; exact O23⟩
    · rintro ⟨o, fr, cu, ⟨⟩⟩ w16 ⟨b16, q1, q2, O16⟩ _
      dsimp only at q1 q2 O16 ⊢
      subst q1 q2
      refine z_i64 (by omega) ?_
      exact hag (i + 1, o) _ _ ⟨rfl, by dsimp only; omega, b16, O16⟩ (by dsimp only; omega)
  · have : i = b := by omega
    subst this
    refine ⟨(out, (0 : Int), ()), rfl, ⟨?_, h0.symm⟩, b10.trans b13⟩
    rw [eL]; exact O13.sl
theorem rd_ne_same {x y c : Int} {a b : Operand} {w : World} {K : Bool → Prop} (hk : K false) : rd Try.prog (cmpS .neq 53 a b (.agg #[.int .i64 x, .int .i64 y, .int .i64 c]) (.agg #[.int .i64 x, .int .i64 y, .int .i64 c])) (.one .bool) w K := by
  refine ⟨false, fun w' _ => ?_, hk⟩
  have := run_neStruct (P := Try.prog) (t := 53) (k := .i64) (a := a) (b := b) (xs := [x, y, c]) (ys := [x, y, c]) (w := w') (by kernel_rfl) (by kernel_rfl) (by kernel_rfl) (by kernel_rfl) (by kernel_rfl) (by kernel_rfl)
  have e : eqInts [x, y, c] [x, y, c] = true := by simp [eqInts]
  rw [e] at this
  exact this
theorem sameBinsF (a b : Hdr) (L M : List Bn) (w : World) (HA : SlB w a L) (HB : SlB w b M) (e : L = M) :
    call Try.prog 22 [.slice a.1 a.2.1 a.2.2, .slice b.1 b.2.1 b.2.2] (.one (.one .bool)) w (fun (x : Bool) w' => x = true ∧ bel w w') := by
  subst e
  refine call_of (S22_calls a.1 a.2.1 a.2.2 b.1 b.2.1 b.2.2 w _ ?_)
  unfold S22
  have la := SlB.len HA
  have lb := SlB.len HB
  have lm := Sl.le HA
  refine br_ne (fun q => absurd (by omega) q) (fun _ => ?_)
  refine loop_up L.length (fun _ w' => bel w w') (bel.refl _) fun i w3 hi b3 again hag _ => ?_
  refine br_dec (fun e => ?_) (fun e => ⟨_, rfl, rfl, b3⟩)
  dsimp only at e
  refine drw_mk fun w4 h4 _ => ?_
  have b4 := b3.trans h4
  obtain ⟨p, hp⟩ : ∃ p, L[i]? = some p := ⟨_, List.getElem?_eq_getElem (by omega)⟩
  refine at_agg (l := [.int .i64, .int .i64, .int .i64]) tyN (by kernel_rfl) encB_len (by omega) (Sl.up HA b4) rfl hp (x := (p.1, p.2.1, p.2.2, ())) rfl ?_
  refine at_agg (l := [.int .i64, .int .i64, .int .i64]) tyN (by kernel_rfl) encB_len (by omega) (Sl.up HB b4) rfl hp (x := (p.1, p.2.1, p.2.2, ())) rfl ?_
  refine rd_ne_same ?_
  refine br_f rfl ?_
  refine z_i64 (by dsimp only; omega) ?_
  exact hag _ (by omega) b4
end Go.Proofs.Ytckgpiboelhefaa

/- The statements Bins and Covers. -/

namespace Go.Ds
theorem cnt_step {α : Type} {L : List α} {k : Nat} {x : α} (f : α → Bool) (h : L[k]? = some x) : (L.take (k + 1)).countP f = (L.take k).countP f + if f x then 1 else 0 := by
  rw [List.take_add_one, h, List.countP_append]
  cases q : f x <;> simp [q]
theorem sum_takes : ∀ {l : List Int} (_ : ∀ x ∈ l, 0 ≤ x) (i : Nat), 0 ≤ (l.take i).sum ∧ (l.take i).sum ≤ l.sum
  | [], _, i => by simp
  | a :: l, h, 0 => by
    have := sum_takes (l := l) (fun x hx => h x (List.mem_cons_of_mem _ hx)) l.length
    rw [List.take_length] at this
    have := h a (List.mem_cons_self ..)
    simp; omega
  | a :: l, h, i + 1 => by
    have := sum_takes (l := l) (fun x hx => h x (List.mem_cons_of_mem _ hx)) i
    have := h a (List.mem_cons_self ..)
    rw [List.take_succ_cons, List.sum_cons, List.sum_cons]; omega
end Go.Ds
namespace Go.Proofs.Ytckgpiboelhefaa
open Go.RowKit Go.Q Go.V Go.Bag Go.Ds Go.Dist
theorem ty8 : TyS Try.prog 41 43 (.int .i8 0) 1 1 := ⟨by kernel_rfl, by kernel_rfl⟩
theorem distBin (l sm : Hdr) (L M : List Int) (bins : Int) (w : World) (S : SlI w l L) (SX : Sl w sm.1 sm.2.1 sm.2.2 1 (ints .i8 M)) :
    Calls Try.prog 7 #[.slice l.1 l.2.1 l.2.2, .slice sm.1 sm.2.1 sm.2.2, .int .i64 bins] w (fun e w' => e = .returned (.bool true) ∧ Below w.heap.size w w') := by
  refine Calls.mono (S7_calls l.1 l.2.1 l.2.2 sm.1 sm.2.1 sm.2.2 bins w (fun v w' => v = .bool true ∧ bel w w') ?_) (by rintro e w' ⟨v, rfl, rfl, hb⟩; exact ⟨rfl, hb⟩)
  unfold S7
  have hm : M.length = sm.2.1 := Sl.int SX
  refine br_dec (fun _ => ⟨rfl, bel.refl _⟩) (fun c1 => ?_)
  refine br_dec (fun _ => ⟨rfl, bel.refl _⟩) (fun c2 => ?_)
  refine loop_upA M.length (fun i (k : Hdr) w' => bel w w' ∧ OwnL w' w.heap.size k ((M.map fun x => IntKind.wrap .i64 (x.tmod 5)).take i)) ⟨bel.refl _, Go.Q.Own.nil _ _ _ _⟩ fun i k w3 hi ⟨b3, O3⟩ again hag _ => ?_
  refine br_dec (fun e => ?_) (fun e => ?_)
  · dsimp only at e
    refine at_int ty8 (by kernel_rfl) (Sl.up SX b3) (j := i) rfl (by omega) fun x hx => ?_
    refine rdp_rem (by decide) ?_
    refine z_id ?_
    refine OwnL.app O3 b3.size (by rw [List.length_take, List.length_map]; omega) fun k' w11 O11 g => ?_
    refine z_i64 (by dsimp only; omega) ?_
    refine hag k' w11 (by omega) ⟨b3.own O3 g (Nat.le_refl _), ?_⟩
    have : (M.map fun x => IntKind.wrap .i64 (x.tmod 5)).take (i + 1) = (M.map fun x => IntKind.wrap .i64 (x.tmod 5)).take i ++ [IntKind.wrap .i64 (x.tmod 5)] := by
      rw [List.take_add_one, List.getElem?_map, hx]; rfl
    rw [this]; exact O11
  · dsimp only at e
    have SF := O3.sl
    generalize (M.map fun x => IntKind.wrap .i64 (x.tmod 5)).take i = F at SF
    replace SF : SlI w3 k F := SF
    have h := b3
    refine call_mono (HistogramF l L bins w3 (Sl.up S h)) fun (x13 : Hdr × Int × Unit) w14 ⟨⟨A13, e13⟩, h'⟩ => ?_
    replace h := h.trans h'
    replace SF : SlI _ k F := Sl.up SF h'
    refine call_mono (RHistogramF l L bins w14 (Sl.up S h)) fun (x15 : Hdr × Int × Unit) w16 ⟨⟨A15, e15⟩, h'⟩ => ?_
    replace h := h.trans h'
    replace SF : SlI _ k F := Sl.up SF h'
    replace A13 : SlB _ _ _ := Sl.up A13 h'
    refine z_id ?_
    refine rdp_rem (by decide) ?_
    refine z_id ?_
    refine z_id ?_
    refine call_mono (HistogramF k F _ w16 SF) fun (x21 : Hdr × Int × Unit) w22 ⟨⟨A21, e21⟩, h'⟩ => ?_
    replace h := h.trans h'
    replace SF : SlI _ k F := Sl.up SF h'
    replace A13 : SlB _ _ _ := Sl.up A13 h'
    replace A15 : SlB _ _ _ := Sl.up A15 h'
    refine z_id ?_
    refine rdp_rem (by decide) ?_
    refine z_id ?_
    refine z_id ?_
    refine call_mono (RHistogramF k F _ w22 SF) fun (x27 : Hdr × Int × Unit) w28 ⟨⟨A27, e27⟩, h'⟩ => ?_
    replace h := h.trans h'
    replace A13 : SlB _ _ _ := Sl.up A13 h'
    replace A15 : SlB _ _ _ := Sl.up A15 h'
    replace A21 : SlB _ _ _ := Sl.up A21 h'
    refine call_mono (sameBinsF x13.1 x15.1 _ _ w28 A13 A15 rfl) fun (x29 : Bool) w30 ⟨e29, h'⟩ => ?_
    replace h := h.trans h'
    refine br_t e29 ?_
    refine br_eq (fun _ => ?_) (fun z => absurd (by rw [e13, e15]) z)
    refine call_mono (sameBinsF x21.1 x27.1 _ _ w30 (Sl.up A21 h') (Sl.up A27 h') rfl) fun (x31 : Bool) w32 ⟨e31, h'⟩ => ?_
    refine br_t e31 ⟨?_, h.trans h'⟩
    rw [e21, e27]; simp
theorem fldB {a w : World} (hb : bel a w) {h : Hdr} {L : List Bn} (S : SlB a h L) {i : Int} {j : Nat} {p : Bn} (hj : i = (j : Int)) (hp : L[j]? = some p) {K : Addr → Prop} (hk : ∀ ad : Addr, (∀ o v, (encB p)[o]? = some v → w.cell? (ad.add o) = some v) → K ad) :
    rdp Try.prog (Instr.indexAt 46 (.slice h.1 h.2.1 h.2.2) (.int .i64 i)) (.one .addr) K :=
  idx_agg tyN encB_len (by omega) (Sl.up S hb) hj hp hk
theorem lowB {a w : World} (hb : bel a w) {h : Hdr} {L : List Bn} (S : SlB a h L) {i : Int} {j : Nat} {p : Bn} (hj : i = (j : Int)) (hp : L[j]? = some p) {K : Int → Prop} (hk : K p.1) :
    rdp Try.prog (Instr.indexAt 46 (.slice h.1 h.2.1 h.2.2) (.int .i64 i)) (.one .addr) fun ad => rd Try.prog (Instr.loadAt 2 (.pointer (some ad))) (.one (.int .i64)) w K :=
  fldB hb S hj hp fun ad hc => rd_cell (by kernel_rfl) (by have := hc 0 _ rfl; rwa [Go.Q.add_zero] at this) rfl hk
theorem highB {a w : World} (hb : bel a w) {h : Hdr} {L : List Bn} (S : SlB a h L) {i : Int} {j : Nat} {p : Bn} (hj : i = (j : Int)) (hp : L[j]? = some p) {K : Int → Prop} (hk : K p.2.1) :
    rdp Try.prog (Instr.indexAt 46 (.slice h.1 h.2.1 h.2.2) (.int .i64 i)) (.one .addr) fun ad => rd Try.prog (Instr.loadAt 2 (.pointer (some (ad.add 1)))) (.one (.int .i64)) w K :=
  fldB hb S hj hp fun ad hc => rd_cell (by kernel_rfl) (hc 1 _ rfl) rfl hk
theorem cntB {a w : World} (hb : bel a w) {h : Hdr} {L : List Bn} (S : SlB a h L) {i : Int} {j : Nat} {p : Bn} (hj : i = (j : Int)) (hp : L[j]? = some p) {K : Int → Prop} (hk : K p.2.2) :
    rdp Try.prog (Instr.indexAt 46 (.slice h.1 h.2.1 h.2.2) (.int .i64 i)) (.one .addr) fun ad => rd Try.prog (Instr.loadAt 3 (.pointer (some (ad.add 2)))) (.one (.int .i64)) w K :=
  fldB hb S hj hp fun ad hc => rd_cell (by kernel_rfl) (hc 2 _ rfl) rfl hk
theorem distCov (sm : Hdr) (M : List Int) (bins : Int) (w : World) (SX : Sl w sm.1 sm.2.1 sm.2.2 1 (ints .i8 M)) (hM : ∀ n ∈ M, -128 ≤ n ∧ n ≤ 127) (hb : 0 ≤ bins ∧ bins ≤ 255) :
    Calls Try.prog 8 #[.slice sm.1 sm.2.1 sm.2.2, .int .u8 bins] w (fun e w' => e = .returned (.bool true) ∧ Below w.heap.size w w') := by
  refine Calls.mono (S8_calls sm.1 sm.2.1 sm.2.2 bins w (fun v w' => v = .bool true ∧ bel w w') ?_) (by rintro e w' ⟨v, rfl, rfl, hb⟩; exact ⟨rfl, hb⟩)
  unfold S8
  have hm : M.length = sm.2.1 := Sl.int SX
  refine br_dec (fun _ => ⟨rfl, bel.refl _⟩) (fun c1 => ?_)
  refine loop_upA M.length (fun i (k : Hdr) w' => bel w w' ∧ OwnL w' w.heap.size k (M.take i)) ⟨bel.refl _, Go.Q.Own.nil _ _ _ _⟩ fun i k w3 hi ⟨b3, O3⟩ again hag _ => ?_
  refine br_dec (fun e => ?_) (fun e => ?_)
  · dsimp only at e
    refine at_int ty8 (by kernel_rfl) (Sl.up SX b3) (j := i) rfl (by omega) fun x hx => ?_
    have hx8 := hM x (List.mem_of_getElem? hx)
    refine z_i64 (by omega) ?_
    refine OwnL.app O3 b3.size (by rw [List.length_take]; omega) fun k' w11 O11 g => ?_
    refine z_i64 (by dsimp only; omega) ?_
    refine hag k' w11 (by omega) ⟨b3.own O3 g (Nat.le_refl _), ?_⟩
    have : M.take (i + 1) = M.take i ++ [x] := by rw [List.take_add_one, hx]; rfl
    rw [this]; exact O11
  · dsimp only at e
    have : i = M.length := by omega
    subst this
    rw [List.take_length] at O3
    have SM : SlI w3 k M := O3.sl
    have lk : M.length = k.2.1 := Sl.int SM
    clear O3 hag
    refine z_i64 (by omega) ?_
    refine rdp_rem (by decide) ?_
    rw [Int.tmod_eq_emod_of_nonneg hb.1]
    refine z_i64 (by omega) ?_
    obtain ⟨b, hbn, hb1, hb2⟩ : ∃ b : Nat, 1 + bins % 64 = (b : Int) ∧ 1 ≤ b ∧ b ≤ 64 := ⟨(1 + bins % 64).toNat, by omega, by omega, by omega⟩
    rw [hbn]
    refine call_mono (HistogramF k M b w3 SM) fun (x15 : Hdr × Int × Unit) w16 ⟨⟨A15, e15⟩, h16⟩ => ?_
    have ls := srt_len M
    have h0 : hsE (srt M).length b = 0 := hsE_of (by omega) (by omega) (by omega)
    have eL : hsL (srt M) b = (hst (srt M) b b).2.2 := by unfold hsL; rw [if_pos h0]; simp
    have G := hst_gd (srt_asc M) (b := b) b (Nat.le_refl _)
    rw [hst_end (by omega), ← eL] at G
    have hcnt : ∀ p ∈ hsL (srt M) b, (M.countP (inB p) : Int) = p.2.2 ∧ 0 < p.2.2 := fun p hp => by
      have := G.each p hp
      rw [(srt_perm M).countP_eq] at this; exact this
    have hup := G.up
    have hsum := G.sum
    have hll : (hsL (srt M) b).length ≤ b := by rw [eL]; exact hst_len _ _ _
    generalize hsL (srt M) b = A at A15 hcnt hup hsum hll
    have la := SlB.len A15
    have hst := sum_takes (l := A.map fun p : Bn => p.2.2) fun x hx => by
      obtain ⟨p, hp, rfl⟩ := List.mem_map.1 hx
      have := (hcnt p hp).2
      omega
    replace SM : SlI _ k M := Sl.up SM h16
    refine loop_upA A.length (fun i (n : Int) w' => bel w16 w' ∧ n = ((A.map fun p : Bn => p.2.2).take i).sum) ⟨bel.refl _, rfl⟩ fun i n w19 hi ⟨b19, hn⟩ again hag _ => ?_
    subst hn
    refine br_dec (fun e2 => ?_) (fun e2 => ?_)
    · dsimp only at e2
      obtain ⟨p, hp⟩ : ∃ p, A[i]? = some p := ⟨_, List.getElem?_eq_getElem (by omega)⟩
      obtain ⟨p1, p2⟩ := hcnt p (List.mem_of_getElem? hp)
      have htk : ((A.map fun p : Bn => p.2.2).take (i + 1)).sum = ((A.map fun p : Bn => p.2.2).take i).sum + p.2.2 := by
        rw [List.take_add_one, List.getElem?_map, hp, List.sum_append]; simp
      have s1 := hst i
      have s2 := hst (i + 1)
      refine join_mk (fun (r : Int × Unit) w' => bel w16 w' ∧ r.1 = ((A.map fun p : Bn => p.2.2).take (i + 1)).sum) (fun K20 hK20 => ?_) ?_
      · refine loop_upA M.length (fun j (c : Int) w' => bel w16 w' ∧ c = ((M.take j).countP (inB p) : Nat)) ⟨b19, rfl⟩ fun j c w26 hj ⟨b26, hc⟩ again2 hag2 _ => ?_
        subst hc
        have hcl : (M.take j).countP (inB p) ≤ (M.take j).length := List.countP_le_length
        rw [List.length_take] at hcl
        refine br_dec (fun e3 => ?_) (fun e3 => ?_)
        · dsimp only at e3
          obtain ⟨x, hx⟩ : ∃ x, M[j]? = some x := ⟨_, List.getElem?_eq_getElem (by omega)⟩
          have hst := cnt_step (inB p) hx
          refine join_mk (fun (r : Int × Unit) w' => bel w16 w' ∧ r.1 = ((M.take (j + 1)).countP (inB p) : Nat)) (fun K27 hK27 => ?_) ?_
          · refine drw_mk fun w31 h31 _ => ?_
            have b31 := b26.trans h31
            refine atL b31 SM (j := j) rfl (by omega) fun y hy => ?_
            rw [hx] at hy; cases hy
            refine lowB b31 A15 rfl hp ?_
            refine br_dec (fun q => ?_) (fun q => ?_)
            · refine atL b31 SM (j := j) rfl (by omega) fun y hy => ?_
              rw [hx] at hy; cases hy
              refine highB b31 A15 rfl hp ?_
              refine br_dec (fun q2 => ?_) (fun q2 => ?_)
              · have : inB p x = true := decide_eq_true ⟨by omega, q2⟩
                rw [this, if_pos rfl] at hst
                refine z_i64 (by dsimp only; omega) ?_
                exact hK27 _ _ ⟨b31, by dsimp only; omega⟩
              · have : inB p x = false := decide_eq_false fun z => q2 z.2
                rw [this, if_neg (by simp)] at hst
                exact hK27 _ _ ⟨b31, by dsimp only; omega⟩
            · have : inB p x = false := decide_eq_false fun z => q (by omega)
              rw [this, if_neg (by simp)] at hst
              exact hK27 _ _ ⟨b31, by dsimp only; omega⟩
          · rintro ⟨r, ⟨⟩⟩ w29 ⟨b29, er⟩ _
            refine z_i64 (by dsimp only; omega) ?_
            exact hag2 _ _ (by omega) ⟨b29, er⟩
        · dsimp only at e3
          have : j = M.length := by omega
          subst this
          rw [List.take_length] at hcl ⊢
          refine join_mk (fun _ w' => bel w16 w') (fun K41 hK41 => ?_) ?_
          · refine drw_mk fun w45 h45 _ => ?_
            have b45 := b26.trans h45
            refine cntB b45 A15 rfl hp ?_
            refine br_ne (fun q => absurd p1 q) (fun _ => ?_)
            refine br_eq (fun q => by dsimp only at q; omega) (fun _ => ?_)
            refine br_dec (fun q => ?_) (fun _ => hK41 () _ b45)
            dsimp only at q
            obtain ⟨p', hp'⟩ : ∃ p', A[i - 1]? = some p' := ⟨_, List.getElem?_eq_getElem (by omega)⟩
            have hu := hup (i - 1) p' p hp' (by rw [show i - 1 + 1 = i by omega]; exact hp)
            refine lowB b45 A15 rfl hp ?_
            refine z_i64 (by dsimp only; omega) ?_
            refine highB b45 A15 (j := i - 1) (by dsimp only; omega) hp' ?_
            exact br_dec (fun q2 => absurd q2 (by omega)) (fun _ => hK41 () _ b45)
          · rintro _ w43 b43 _
            refine z_i64 (by dsimp only; omega) ?_
            refine hK20 _ _ ⟨b43, ?_⟩
            dsimp only
            rw [htk, p1]
      · rintro ⟨r, ⟨⟩⟩ w22 ⟨b22, er⟩ _
        refine z_i64 (by dsimp only; omega) ?_
        exact hag _ _ (by omega) ⟨b22, er⟩
    · dsimp only at e2
      have : i = A.length := by omega
      subst this
      refine br_eq (fun _ => ?_) (fun z => absurd (by rw [e15, h0]) z)
      refine ⟨?_, b3.trans (h16.trans b19)⟩
      dsimp only
      rw [List.take_of_length_le (by rw [List.length_map]; exact Nat.le_refl _), hsum, ls, lk]
      simp
end Go.Proofs.Ytckgpiboelhefaa
