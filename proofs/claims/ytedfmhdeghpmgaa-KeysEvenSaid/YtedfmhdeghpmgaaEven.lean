import Derived.Test.YtedfmhdeghpmgaaLoads
namespace Go.Proofs.Ytedfmhdeghpmgaa
open Go.RowKit Go.Q

theorem dvd_iff (c d i : Nat) (hi : i < d) : d ∣ c + d - 1 - i + 1 ↔ c % d = i := by
  have e : c + d - 1 - i + 1 = c + (d - i) := by omega
  rw [e, Nat.dvd_iff_mod_eq_zero]
  have hc := Nat.div_add_mod c d
  have hm := Nat.mod_lt c (show 0 < d by omega)
  have : (c + (d - i)) % d = (c % d + (d - i)) % d := (Nat.mod_add_mod c d (d - i)).symm
  rw [this]
  constructor
  · intro h
    by_cases h1 : c % d + (d - i) < d
    · rw [Nat.mod_eq_of_lt h1] at h; omega
    · have h2 : (c % d + (d - i)) % d = (c % d + (d - i) - d) % d := by rw [Nat.mod_eq_sub_mod (by omega)]
      rw [h2, Nat.mod_eq_of_lt (by omega)] at h
      omega
  · intro h
    rw [h, show i + (d - i) = d by omega, Nat.mod_self]

theorem count_mods (c d i : Nat) (hi : i < d) : (mods c (d : Int)).count (i : Int) = (c + d - 1 - i) / d := by
  induction c with
  | zero =>
    simp [mods]
    rw [Nat.div_eq_of_lt (by omega)]
  | succ c ih =>
    rw [mods_succ, List.count_append, ih, List.count_singleton]
    have e : c + 1 + d - 1 - i = c + d - 1 - i + 1 := by omega
    rw [e, Nat.succ_div]
    congr 1
    have h := dvd_iff c d i hi
    by_cases hd : c % d = i
    · rw [if_pos (h.2 hd), ← hd]; simp
    · rw [if_neg (fun k => hd (h.1 k))]
      have : ¬ ((c : Int) % (d : Int) = (i : Int)) := by omega
      simp [this]

theorem count_mods0 (c d i : Nat) (hd : 0 < d) (hi : d ≤ i) : (mods c (d : Int)).count (i : Int) = 0 := by
  rw [List.count_eq_zero]
  intro h
  simp [mods] at h
  obtain ⟨j, _, hj⟩ := h
  have := Nat.mod_lt j hd
  omega

theorem count_bd (c d i : Nat) (hi : i < d) (hdc : d ≤ c) : 1 ≤ (mods c (d : Int)).count (i : Int) ∧ c / d ≤ (mods c (d : Int)).count (i : Int) ∧ (mods c (d : Int)).count (i : Int) ≤ c / d + 1 := by
  rw [count_mods c d i hi]
  have h1 : c / d ≤ (c + d - 1 - i) / d := Nat.div_le_div_right (by omega)
  have h2 : (c + d - 1 - i) / d ≤ (c + d) / d := Nat.div_le_div_right (by omega)
  rw [Nat.add_div_right _ (by omega)] at h2
  have h3 : 1 ≤ c / d := Nat.div_pos hdc (by omega)
  exact ⟨by omega, h1, h2⟩

/-- what the loop over the loads knows -/
theorem even_round {c d i : Nat} {x : Int} {n : Nat} (hx : (cnts n (mods c (d : Int)))[i]? = some x) (hd : 0 < d) (hdc : d ≤ c) :
    (i < d ∧ 0 < x ∧ ((c / d : Nat) : Int) ≤ x ∧ x ≤ ((c / d : Nat) : Int) + 1) ∨ (d ≤ i ∧ x = 0) := by
  obtain ⟨_, rfl⟩ := cnts_get _ _ _ _ hx
  by_cases hi : i < d
  · obtain ⟨h1, h2, h3⟩ := count_bd c d i hi hdc
    exact .inl ⟨hi, by omega, by omega, by omega⟩
  · exact .inr ⟨by omega, by rw [count_mods0 c d i hd (by omega)]; rfl⟩

theorem mods_len (n : Nat) (d : Int) : (mods n d).length = n := by simp [mods]
theorem mods_ok (c p d : Nat) (hd : 0 < d) (hdp : d ≤ p) (hp : p ≤ 1000) : loadsOk (mods c (d : Int)) (p : Int) = true := by
  refine good (by omega) (by omega) ?_
  intro x hx
  simp [mods] at hx
  obtain ⟨j, _, rfl⟩ := hx
  have := Nat.mod_lt j hd
  omega

end Go.Proofs.Ytedfmhdeghpmgaa
