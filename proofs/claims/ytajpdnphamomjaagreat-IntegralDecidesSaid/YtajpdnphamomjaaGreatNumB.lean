/- Digits, continued: sums, differences, products, quotients. Plain law. -/
import Derived.Test.YtajpdnphamomjaaGreatNum
namespace Go.Q.Num

/-- the digit at a place, 0 behind the end -/
def dg (l : List Nat) (k : Nat) : Nat := l[k]?.getD 0
theorem dg_some {l : List Nat} {k x : Nat} (h : l[k]? = some x) : dg l k = x := by simp [dg, h]
theorem dg_none {l : List Nat} {k : Nat} (h : l.length ≤ k) : dg l k = 0 := by simp [dg, List.getElem?_eq_none h]
theorem val_take_dg (B : Nat) (l : List Nat) (k : Nat) : val B (l.take (k + 1)) = val B (l.take k) + B ^ k * dg l k := by
  rcases Nat.lt_or_ge k l.length with h | h
  · have := List.getElem?_eq_getElem h
    rw [val_take_succ this, dg_some this]
  · rw [dg_none h, List.take_of_length_le (by omega), List.take_of_length_le h]; omega
theorem Low.dg {B : Nat} (hB : 0 < B) {l : List Nat} (h : Low B l) (k : Nat) : dg l k < B := by
  rcases hx : l[k]? with _ | x
  · simp [Num.dg, hx]; exact hB
  · rw [dg_some hx]; exact h.get hx

/-- one round of a sum -/
theorem plus_step {B : Nat} {la lb out : List Nat} {k c : Nat} (hlen : out.length = k) (h : val B out + B ^ k * c = val B (la.take k) + val B (lb.take k)) :
    val B (out ++ [(c + dg la k + dg lb k) % B]) + B ^ (k + 1) * ((c + dg la k + dg lb k) / B) = val B (la.take (k + 1)) + val B (lb.take (k + 1)) := by
  rw [val_snoc, val_take_dg, val_take_dg, hlen]
  obtain ⟨t, ht⟩ : ∃ t, t = c + dg la k + dg lb k := ⟨_, rfl⟩
  rw [← ht]
  have h1 := Nat.mod_add_div t B
  have h2 : B ^ k * (t % B) + B ^ (k + 1) * (t / B) = B ^ k * t := by
    rw [Nat.pow_succ, Nat.mul_assoc, ← Nat.mul_add, h1]
  have h3 : B ^ k * t = B ^ k * c + B ^ k * dg la k + B ^ k * dg lb k := by rw [ht, Nat.mul_add, Nat.mul_add]
  omega

/-- one round of a difference -/
theorem minus_step {B : Nat} {la lb out : List Nat} {k c d c' : Nat} (hlen : out.length = k) (h : val B out + val B (lb.take k) = val B (la.take k) + B ^ k * c) (hd : dg la k + B * c' = d + c + dg lb k) :
    val B (out ++ [d]) + val B (lb.take (k + 1)) = val B (la.take (k + 1)) + B ^ (k + 1) * c' := by
  rw [val_snoc, val_take_dg, val_take_dg, hlen]
  have h3 : B ^ k * (dg la k + B * c') = B ^ k * (d + c + dg lb k) := by rw [hd]
  rw [Nat.mul_add, Nat.mul_add, Nat.mul_add] at h3
  rw [Nat.pow_succ, Nat.mul_assoc]
  omega

/-- a digit is changed -/
theorem val_set {B : Nat} {l : List Nat} {j x y : Nat} (h : l[j]? = some x) : val B (l.set j y) + B ^ j * x = val B l + B ^ j * y := by
  induction l generalizing j with
  | nil => simp at h
  | cons d l ih =>
    cases j with
    | zero => simp at h; subst h; simp [val]; omega
    | succ j =>
      simp at h
      have := ih h
      have h2 : B * (val B (l.set j y) + B ^ j * x) = B * (val B l + B ^ j * y) := by rw [this]
      rw [Nat.mul_add, Nat.mul_add] at h2
      have e : ∀ z, B ^ (j + 1) * z = B * (B ^ j * z) := fun z => by rw [Nat.pow_succ, Nat.mul_comm (B ^ j) B, Nat.mul_assoc]
      simp only [List.set_cons_succ, val_cons, e]
      omega

/-- one step of a product: s is the value so far -/
theorem mul_step {B : Nat} {out : List Nat} {i k c a b o s v : Nat} (ho : out[i + k]? = some o) (h : val B out + B ^ (i + k) * c = s + B ^ i * (a * v)) :
    val B (out.set (i + k) ((c + o + a * b) % B)) + B ^ (i + (k + 1)) * ((c + o + a * b) / B) = s + B ^ i * (a * (v + B ^ k * b)) := by
  obtain ⟨t, ht⟩ : ∃ t, t = c + o + a * b := ⟨_, rfl⟩
  rw [← ht]
  have h1 := val_set (B := B) (y := t % B) ho
  have h2 : B ^ (i + k) * (t % B) + B ^ (i + (k + 1)) * (t / B) = B ^ (i + k) * t := by
    rw [← Nat.add_assoc, Nat.pow_succ, Nat.mul_assoc, ← Nat.mul_add, Nat.mod_add_div]
  have h3 : B ^ (i + k) * t = B ^ (i + k) * c + B ^ (i + k) * o + B ^ (i + k) * (a * b) := by rw [ht, Nat.mul_add, Nat.mul_add]
  have h4 : B ^ i * (a * (v + B ^ k * b)) = B ^ i * (a * v) + B ^ (i + k) * (a * b) := by
    rw [Nat.mul_add, Nat.mul_add, Nat.pow_add]
    congr 1
    rw [Nat.mul_assoc, Nat.mul_left_comm a]
  omega

/-- digits that are canonical are as few as the number needs -/
theorem Dig.len_le {B : Nat} (hB : 1 < B) {l : List Nat} (h : Dig B l) {L : Nat} (hv : val B l < B ^ L) : l.length ≤ L := by
  by_cases hl : l = []
  · subst hl; simp
  · have h1 := h.ge (by omega) hl
    by_cases h3 : l.length ≤ L
    · exact h3
    · exfalso
      have : B ^ L ≤ B ^ (l.length - 1) := Nat.pow_le_pow_right (by omega) (by omega)
      omega

/-- above a number's digits there are zeros -/
theorem zero_above {B : Nat} {l : List Nat} {j x : Nat} (hx : l[j]? = some x) (hv : val B l < B ^ j) : x = 0 := by
  have hj : j < l.length := (List.getElem?_eq_some_iff.1 hx).1
  have h1 := val_take_split B l (j + 1) (by omega)
  rw [val_take_succ hx] at h1
  by_cases h0 : x = 0
  · exact h0
  · exfalso
    have : B ^ j * 1 ≤ B ^ j * x := Nat.mul_le_mul_left _ (by omega)
    omega

end Go.Q.Num
