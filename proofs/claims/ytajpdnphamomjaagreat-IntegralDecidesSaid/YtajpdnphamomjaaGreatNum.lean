/- Digits: numbers of any size as lists of digits, the lowest one first. Plain law; no program is in sight. -/
namespace Go.Q.Num

/-- the number that digits to the base B are -/
def val (B : Nat) : List Nat → Nat
  | [] => 0
  | d :: l => d + B * val B l

/-- digits below B -/
def Low (B : Nat) (l : List Nat) : Prop := ∀ d ∈ l, d < B

/-- digits below B, the last one not 0 -/
structure Dig (B : Nat) (l : List Nat) : Prop where
  low : Low B l
  top : ∀ x, l.getLast? = some x → x ≠ 0

theorem val_nil (B : Nat) : val B [] = 0 := rfl
theorem val_cons (B d : Nat) (l : List Nat) : val B (d :: l) = d + B * val B l := rfl

theorem val_append (B : Nat) (l m : List Nat) : val B (l ++ m) = val B l + B ^ l.length * val B m := by
  induction l with
  | nil => simp [val]
  | cons d l ih => simp only [List.cons_append, val_cons, ih, List.length_cons, Nat.pow_succ, Nat.mul_add]; rw [Nat.mul_comm (B ^ l.length) B, Nat.mul_assoc]; omega

theorem val_snoc (B : Nat) (l : List Nat) (d : Nat) : val B (l ++ [d]) = val B l + B ^ l.length * d := by simp [val_append, val]

theorem val_lt {B : Nat} (_hB : 0 < B) {l : List Nat} (h : Low B l) : val B l < B ^ l.length := by
  induction l with
  | nil => simp [val]
  | cons d l ih =>
    have h1 : d < B := h d (by simp)
    have h2 := ih (fun x hx => h x (by simp [hx]))
    simp only [val_cons, List.length_cons, Nat.pow_succ]
    have h3 : B * val B l + B ≤ B * B ^ l.length := by
      have := Nat.mul_le_mul_left B (Nat.succ_le_of_lt h2)
      rw [Nat.mul_succ] at this; exact this
    rw [Nat.mul_comm (B ^ l.length) B]
    omega

theorem val_take_succ {B : Nat} {l : List Nat} {k x : Nat} (h : l[k]? = some x) : val B (l.take (k + 1)) = val B (l.take k) + B ^ k * x := by
  have hk : k < l.length := (List.getElem?_eq_some_iff.1 h).1
  rw [List.take_add_one, h]
  simp only [Option.toList_some, val_snoc]
  rw [List.length_take, Nat.min_eq_left (by omega)]

theorem val_take_split (B : Nat) (l : List Nat) (k : Nat) (hk : k ≤ l.length) : val B l = val B (l.take k) + B ^ k * val B (l.drop k) := by
  have := val_append B (l.take k) (l.drop k)
  rw [List.take_append_drop, List.length_take, Nat.min_eq_left hk] at this
  exact this

theorem Low.take {B : Nat} {l : List Nat} (h : Low B l) (k : Nat) : Low B (l.take k) := fun d hd => h d (List.mem_of_mem_take hd)
theorem Low.get {B : Nat} {l : List Nat} (h : Low B l) {k x : Nat} (hx : l[k]? = some x) : x < B := h x (List.mem_of_getElem? hx)
theorem Low.snoc {B : Nat} {l : List Nat} (h : Low B l) {x : Nat} (hx : x < B) : Low B (l ++ [x]) := by
  intro d hd
  simp at hd
  rcases hd with hd | rfl
  · exact h d hd
  · exact hx
theorem Low.set {B : Nat} {l : List Nat} (h : Low B l) (i : Nat) {x : Nat} (hx : x < B) : Low B (l.set i x) := by
  intro d hd
  rcases List.mem_or_eq_of_mem_set hd with h1 | rfl
  · exact h d h1
  · exact hx
theorem Low.nil (B : Nat) : Low B [] := by intro d hd; simp at hd
theorem Low.zeros {B : Nat} (hB : 0 < B) (n : Nat) : Low B (List.replicate n 0) := by
  intro d hd; rw [List.eq_of_mem_replicate hd]; exact hB
theorem val_zeros (B n : Nat) : val B (List.replicate n 0) = 0 := by
  induction n with
  | zero => rfl
  | succ n ih => rw [List.replicate_succ, val_cons, ih]; simp

theorem Dig.nil (B : Nat) : Dig B [] := ⟨Low.nil B, by simp⟩

/-- digits that do not end with 0 are at least their highest power -/
theorem Dig.ge {B : Nat} (_hB : 0 < B) {l : List Nat} (h : Dig B l) (hl : l ≠ []) : B ^ (l.length - 1) ≤ val B l := by
  obtain ⟨m, x, rfl⟩ : ∃ m x, l = m ++ [x] := ⟨l.dropLast, l.getLast hl, (List.dropLast_concat_getLast hl).symm⟩
  have hx : x ≠ 0 := h.top x (by simp)
  rw [val_snoc]
  simp only [List.length_append, List.length_cons, List.length_nil]
  have : B ^ m.length * 1 ≤ B ^ m.length * x := Nat.mul_le_mul_left _ (by omega)
  simp at this ⊢
  omega

theorem Dig.length_le {B : Nat} (hB : 1 < B) {l m : List Nat} (h : Dig B l) (hm : Low B m) (hv : val B l ≤ val B m) : l.length ≤ m.length := by
  by_cases hl : l = []
  · subst hl; simp
  · have h1 := h.ge (by omega) hl
    have h2 := val_lt (by omega) hm
    by_cases h3 : l.length ≤ m.length
    · exact h3
    · exfalso
      have : B ^ m.length ≤ B ^ (l.length - 1) := Nat.pow_le_pow_right (by omega) (by omega)
      omega

theorem Dig.length_lt {B : Nat} (hB : 1 < B) {l m : List Nat} (h : Dig B l) (hm : Dig B m) (hl : l.length < m.length) : val B l < val B m := by
  have h1 := val_lt (by omega) h.low
  have h2 := hm.ge (by omega) (by intro e; subst e; simp at hl)
  have : B ^ l.length ≤ B ^ (m.length - 1) := Nat.pow_le_pow_right (by omega) (by omega)
  omega

theorem Dig.zero {B : Nat} (hB : 0 < B) {l : List Nat} (h : Dig B l) : val B l = 0 ↔ l = [] := by
  constructor
  · intro h0
    by_cases hl : l = []
    · exact hl
    · have := h.ge hB hl
      have : 0 < B ^ (l.length - 1) := Nat.pow_pos hB
      omega
  · rintro rfl; rfl

/-- comparing from the top: equal above k, and the digits at k differ -/
theorem cmp_at {B : Nat} (hB : 0 < B) {l m : List Nat} (hl : Low B l) (_hm : Low B m) {k x y : Nat} (hx : l[k]? = some x) (hy : m[k]? = some y) (hd : l.drop (k + 1) = m.drop (k + 1)) (hxy : x < y) : val B l < val B m := by
  have hk : k < l.length := (List.getElem?_eq_some_iff.1 hx).1
  have hk' : k < m.length := (List.getElem?_eq_some_iff.1 hy).1
  rw [val_take_split B l (k + 1) (by omega), val_take_split B m (k + 1) (by omega), hd, val_take_succ hx, val_take_succ hy]
  have h1 := val_lt hB (hl.take k)
  rw [List.length_take, Nat.min_eq_left (by omega)] at h1
  have h2 : B ^ k * x + B ^ k ≤ B ^ k * y := by
    have := Nat.mul_le_mul_left (B ^ k) (Nat.succ_le_of_lt hxy)
    rw [Nat.mul_succ] at this; exact this
  omega

theorem drop_eq_succ {l m : List Nat} {k x : Nat} (hx : l[k]? = some x) (hy : m[k]? = some x) (hd : l.drop (k + 1) = m.drop (k + 1)) : l.drop k = m.drop k := by
  obtain ⟨h1, h2⟩ := List.getElem?_eq_some_iff.1 hx
  obtain ⟨h3, h4⟩ := List.getElem?_eq_some_iff.1 hy
  rw [List.drop_eq_getElem_cons h1, List.drop_eq_getElem_cons h3, hd, h2, h4]

/-- canonical digits of one number are one list -/
theorem Dig.ext {B : Nat} (hB : 1 < B) {l m : List Nat} (hl : Dig B l) (hm : Dig B m) (h : val B l = val B m) : l = m := by
  have h1 := hl.length_le hB hm.low (by omega)
  have h2 := hm.length_le hB hl.low (by omega)
  have hlen : l.length = m.length := by omega
  have key : ∀ d k, k + d = l.length → l.drop k = m.drop k := by
    intro d
    induction d with
    | zero => intro k hk; rw [List.drop_eq_nil_of_le (by omega), List.drop_eq_nil_of_le (by omega)]
    | succ d ih =>
      intro k hk
      have hd := ih (k + 1) (by omega)
      have hx : l[k]? = some (l[k]'(by omega)) := List.getElem?_eq_getElem (by omega)
      have hy : m[k]? = some (m[k]'(by omega)) := List.getElem?_eq_getElem (by omega)
      have e : l[k]'(by omega) = m[k]'(by omega) := by
        rcases Nat.lt_trichotomy (l[k]'(by omega)) (m[k]'(by omega)) with h | h | h
        · have := cmp_at (by omega) hl.low hm.low hx hy hd h; omega
        · exact h
        · have := cmp_at (by omega) hm.low hl.low hy hx hd.symm h; omega
      exact drop_eq_succ hx (by rw [hy, e]) hd
  have := key l.length 0 (by omega)
  simpa using this

/-- leaving out zeros at the end -/
theorem trim_step {B : Nat} {l : List Nat} {k : Nat} (h : l[k]? = some 0) : val B (l.take (k + 1)) = val B (l.take k) := by
  rw [val_take_succ h]; omega
theorem trim_done {B : Nat} {l : List Nat} {k x : Nat} (hl : Low B l) (h : l[k]? = some x) (hx : x ≠ 0) : Dig B (l.take (k + 1)) := by
  refine ⟨hl.take _, fun y hy => ?_⟩
  rw [List.take_add_one, h] at hy
  simp at hy
  omega

/-- one digit of a sum -/
theorem add_step {B s v p c x y d c' : Nat} (h : s + p * c = v) (hd : c + x + y = d + B * c') : s + p * d + (p * B) * c' = v + p * x + p * y := by
  have : p * (c + x + y) = p * (d + B * c') := by rw [hd]
  rw [Nat.mul_add, Nat.mul_add, Nat.mul_add, ← Nat.mul_assoc] at this
  omega

end Go.Q.Num
