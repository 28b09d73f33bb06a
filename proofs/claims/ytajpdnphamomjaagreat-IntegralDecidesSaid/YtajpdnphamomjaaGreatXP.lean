/- Plain law: a pivot keeps what the rows say. -/
import Derived.Test.YtajpdnphamomjaaGreatXS
namespace Go.Proofs.YtajpdnphamomjaaGreat

/-- numbers that the rows hold of -/
def Sat (N M : Nat) (a : Nat → Nat → Rat) (b : Nat → Nat) (y : Nat → Rat) : Prop := ∀ i, i < M → y (b i) = sm (fun j => a i j * y j) N
/-- the new row of the pivot -/
def nrow (a : Nat → Nat → Rat) (b : Nat → Nat) (row k j : Nat) : Rat := if j = b row then 1 / a row k else if j = k then 0 else 0 + -(a row j / a row k)
def nrows (a : Nat → Nat → Rat) (b : Nat → Nat) (row k i j : Nat) : Rat := if i = row then nrow a b row k j else (if j = k then 0 else a i j) + a i k * nrow a b row k j
def nbas (b : Nat → Nat) (row k i : Nat) : Nat := if i = row then k else b i

theorem nrow_eq {a : Nat → Nat → Rat} {b : Nat → Nat} {row k : Nat} (hz : a row (b row) = 0) (hc : a row k ≠ 0) (j : Nat) :
    nrow a b row k j = -(a row j) * (1 / a row k) + (if j = b row then 1 else 0) * (1 / a row k) + (if j = k then 1 else 0) := by
  have hk : k ≠ b row := fun e => hc (by rw [e]; exact hz)
  unfold nrow
  by_cases h1 : j = b row
  · rw [if_pos h1, if_pos h1, if_neg (by omega), h1, hz]; grind
  · rw [if_neg h1, if_neg h1]
    by_cases h2 : j = k
    · rw [if_pos h2, if_pos h2, h2]; grind
    · rw [if_neg h2, if_neg h2]; grind

theorem sm_nrow {N : Nat} {a : Nat → Nat → Rat} {b : Nat → Nat} {row k : Nat} (hz : a row (b row) = 0) (hc : a row k ≠ 0) (hb : b row < N) (hk : k < N) (y : Nat → Rat) :
    sm (fun j => nrow a b row k j * y j) N = (y (b row) - sm (fun j => a row j * y j) N) * (1 / a row k) + y k := by
  have e1 : ∀ j, j < N → nrow a b row k j * y j = (a row j * y j * (-(1 / a row k)) + (if j = b row then y j else 0) * (1 / a row k)) + (if j = k then y j else 0) := by
    intro j _
    rw [nrow_eq hz hc j]
    by_cases h1 : j = b row <;> by_cases h2 : j = k <;> simp only [h1, h2, if_true, if_false] <;> grind
  rw [sm_congr e1, sm_add, sm_add, sm_mul, sm_mul, sm_single hb, sm_single hk]
  grind

theorem sm_nrows {N : Nat} {a : Nat → Nat → Rat} {b : Nat → Nat} {row k i : Nat} (hz : a row (b row) = 0) (hc : a row k ≠ 0) (hb : b row < N) (hk : k < N) (hi : i ≠ row) (y : Nat → Rat) :
    sm (fun j => nrows a b row k i j * y j) N = sm (fun j => a i j * y j) N + a i k * ((y (b row) - sm (fun j => a row j * y j) N) * (1 / a row k)) := by
  have e1 : ∀ j, j < N → nrows a b row k i j * y j = (a i j * y j + (if j = k then y j else 0) * (-(a i k))) + nrow a b row k j * y j * a i k := by
    intro j _
    unfold nrows
    rw [if_neg hi]
    by_cases h2 : j = k
    · subst h2; simp only [if_true]; grind
    · simp only [h2, if_false]; grind
  rw [sm_congr e1, sm_add, sm_add, sm_mul, sm_mul, sm_single hk, sm_nrow hz hc hb hk]
  grind

theorem sat_pivot {N M : Nat} {a : Nat → Nat → Rat} {b : Nat → Nat} {row k : Nat} (hz : a row (b row) = 0) (hc : a row k ≠ 0) (hb : b row < N) (hk : k < N) (hr : row < M) (y : Nat → Rat) :
    Sat N M (nrows a b row k) (nbas b row k) y ↔ Sat N M a b y := by
  have hrow : sm (fun j => nrows a b row k row j * y j) N = (y (b row) - sm (fun j => a row j * y j) N) * (1 / a row k) + y k := by
    rw [← sm_nrow hz hc hb hk y]
    exact sm_congr fun j _ => by unfold nrows; rw [if_pos rfl]
  constructor
  · intro h
    have h0 : y (b row) = sm (fun j => a row j * y j) N := by
      have := h row hr
      rw [hrow, show nbas b row k row = k from if_pos rfl] at this
      have h2 : (1 / a row k) * a row k = 1 := by grind
      grind
    intro i hi
    by_cases hir : i = row
    · subst hir; exact h0
    · have := h i hi
      rw [sm_nrows hz hc hb hk hir, show nbas b row k i = b i from if_neg hir] at this
      rw [this, ← h0]; grind
  · intro h i hi
    have h0 := h row hr
    by_cases hir : i = row
    · subst hir
      rw [hrow, show nbas b i k i = k from if_pos rfl, ← h0]; grind
    · rw [sm_nrows hz hc hb hk hir, show nbas b row k i = b i from if_neg hir, ← h i hi, ← h0]; grind

/-- what holds of a tableau, from the first one (a0, b0) on -/
structure TI (N M : Nat) (a0 : Nat → Nat → Rat) (b0 : Nat → Nat) (lo hi : Nat → Rat) (a : Nat → Nat → Rat) (v : Nat → Rat) (b : Nat → Nat) : Prop where
  inj : ∀ i i', i < M → i' < M → b i = b i' → i = i'
  lt : ∀ i, i < M → b i < N
  z : ∀ i i', i < M → i' < M → a i (b i') = 0
  eqv : ∀ y, Sat N M a b y ↔ Sat N M a0 b0 y
  sat : Sat N M a b v
  bnd : ∀ j, j < N → (∀ i, i < M → b i ≠ j) → lo j ≤ v j ∧ v j ≤ hi j
/-- the values behind a pivot -/
structure Moved (M : Nat) (a : Nat → Nat → Rat) (v : Nat → Rat) (b : Nat → Nat) (row k : Nat) (to : Rat) (v' : Nat → Rat) : Prop where
  out : v' (b row) = to
  inn : v' k = v k + (to + -v (b row)) / a row k
  bas : ∀ i, i < M → i ≠ row → v' (b i) = v (b i) + a i k * ((to + -v (b row)) / a row k)
  oth : ∀ j, j ≠ k → (∀ i, i < M → b i ≠ j) → v' j = v j
theorem TI.pivot {N M : Nat} {a0 : Nat → Nat → Rat} {b0 : Nat → Nat} {lo hi : Nat → Rat} {a : Nat → Nat → Rat} {v : Nat → Rat} {b : Nat → Nat} (I : TI N M a0 b0 lo hi a v b) {row k : Nat} {to : Rat} {v' : Nat → Rat}
    (hr : row < M) (hk : k < N) (hc : a row k ≠ 0) (h : Moved M a v b row k to v') (hto : lo (b row) ≤ to ∧ to ≤ hi (b row)) : TI N M a0 b0 lo hi (nrows a b row k) v' (nbas b row k) := by
  have hzr := I.z row row hr hr
  have hbr := I.lt row hr
  have hkb : ∀ i, i < M → b i ≠ k := fun i hi e => hc (by rw [← e]; exact I.z row i hr hi)
  refine ⟨?_, ?_, ?_, fun y => (sat_pivot hzr hc hbr hk hr y).trans (I.eqv y), (sat_pivot hzr hc hbr hk hr v').2 ?_, ?_⟩
  · intro i i' hi hi' e
    unfold nbas at e
    by_cases h1 : i = row <;> by_cases h2 : i' = row
    · omega
    · rw [if_pos h1, if_neg h2] at e; exact absurd e.symm (hkb i' hi')
    · rw [if_neg h1, if_pos h2] at e; exact absurd e (hkb i hi)
    · rw [if_neg h1, if_neg h2] at e; exact I.inj i i' hi hi' e
  · intro i hi
    unfold nbas
    split
    · exact hk
    · exact I.lt i hi
  · intro i i' hi hi'
    have nz : nrow a b row k (nbas b row k i') = 0 := by
      unfold nbas nrow
      by_cases h2 : i' = row
      · rw [if_pos h2, if_neg (fun e => hkb row hr e.symm), if_pos rfl]
      · rw [if_neg h2, if_neg (fun e => h2 (I.inj i' row hi' hr e)), if_neg (hkb i' hi'), I.z row i' hr hi']; grind
    unfold nrows
    split
    · exact nz
    · rw [nz]
      unfold nbas
      by_cases h2 : i' = row
      · rw [if_pos h2, if_pos rfl]; grind
      · rw [if_neg h2, if_neg (hkb i' hi'), I.z i i' hi hi']; grind
  · intro i hi
    have e : ∀ j, j < N → a i j * v' j = a i j * v j + (if j = k then a i j * ((to + -v (b row)) / a row k) else 0) := by
      intro j _
      by_cases hj : ∃ i', i' < M ∧ b i' = j
      · obtain ⟨i', hi', rfl⟩ := hj
        rw [I.z i i' hi hi', if_neg (hkb i' hi')]; grind
      · by_cases hjk : j = k
        · subst hjk; rw [if_pos rfl, h.inn]; grind
        · rw [if_neg hjk, h.oth j hjk fun i' hi' e => hj ⟨i', hi', e⟩]; grind
    rw [sm_congr e, sm_add, sm_single hk, ← I.sat i hi]
    by_cases hir : i = row
    · subst hir; rw [h.out]; grind
    · rw [h.bas i hi hir]
  · intro j hj hn
    by_cases hjb : j = b row
    · subst hjb; rw [h.out]; exact hto
    · have hjk : j ≠ k := fun e => hn row hr (by rw [e]; exact if_pos rfl)
      have hn' : ∀ i, i < M → b i ≠ j := by
        intro i hi e
        by_cases hir : i = row
        · subst hir; exact hjb e.symm
        · exact hn i hi (by unfold nbas; rw [if_neg hir]; exact e)
      rw [h.oth j hjk hn']
      exact I.bnd j hj hn'
end Go.Proofs.YtajpdnphamomjaaGreat
