/- Arguments that came in, opened: what a type's reading says of the cells. No program's text is in sight. -/
import Derived.WalkKit
import Derived.ProofKit
import Derived.OpenShut
import Derived.WideShapes
import Derived.Below
namespace Go.Q
open Go.RowKit Go.WideShapes

/-- these cells can be read as a value of the type -/
def Read (P : Program) (w : World) (t : TypeId) (cs : List Value) : Prop :=
  ∃ (H : Type) (enc : TypeId × Value → H) (fuel : Nat) (x : DataW H × List MemPlace), DataW.trod enc P w 0 (fun _ => true) true fuel t cs = some x

/-- an argument -/
def Arg (P : Program) (w : World) (t : TypeId) (v : Value) : Prop := (∃ r b, Value.okWide P w r b t v) ∧ Read P w t v.cells.toList

theorem Arg.mk {H : Type} {enc : TypeId × Value → H} {P : Program} {w : World} {t : TypeId} {v : Value} {d : DataW H} {ps : List MemPlace} {r : Reach} {b : Nat}
    (h : Value.okWide P w r b t v) (k : DataW.Trod enc P w 0 (fun _ => true) true t v d ps) : Arg P w t v := by
  obtain ⟨fuel, hf⟩ := k
  exact ⟨⟨r, b, h⟩, H, enc, fuel, _, hf⟩

section
variable {P : Program} {w : World} {t : TypeId}

theorem Read.int {k : IntKind} {cs : List Value} (ht : P.underlying t = some (.int k)) (h : Read P w t cs) : ∃ n, cs = [.int k n] ∧ (Lit.int k n).wf = true := by
  obtain ⟨H, enc, fuel, x, hx⟩ := h
  cases fuel with
  | zero => simp [DataW.trod] at hx
  | succ fuel =>
    simp only [DataW.trod, ht] at hx
    split at hx <;> simp_all

theorem Read.bool {cs : List Value} (ht : P.underlying t = some .bool) (h : Read P w t cs) : ∃ b, cs = [.bool b] := by
  obtain ⟨H, enc, fuel, x, hx⟩ := h
  cases fuel with
  | zero => simp [DataW.trod] at hx
  | succ fuel =>
    simp only [DataW.trod, ht] at hx
    split at hx <;> simp_all

theorem Read.string {cs : List Value} (ht : P.underlying t = some .string) (h : Read P w t cs) : ∃ s, cs = [.string s] ∧ s.size ≤ maxLen := by
  obtain ⟨H, enc, fuel, x, hx⟩ := h
  cases fuel with
  | zero => simp [DataW.trod] at hx
  | succ fuel =>
    simp only [DataW.trod, ht] at hx
    split at hx <;> simp_all
end
theorem mapM_get {α β : Type} {f : α → Option β} : ∀ {l : List α} {r : List β}, l.mapM f = some r → ∀ a ∈ l, ∃ b, f a = some b := by
  intro l
  induction l with
  | nil => intro r _ a ha; simp at ha
  | cons x l ih =>
    intro r h a ha
    rw [List.mapM_cons] at h
    cases hx : f x with
    | none => rw [hx] at h; simp at h
    | some y =>
      rw [hx] at h
      cases hl : l.mapM f with
      | none => rw [hl] at h; simp at h
      | some ys =>
        simp at ha
        rcases ha with rfl | ha
        · exact ⟨y, hx⟩
        · exact ih hl a ha

section
variable {P : Program} {w : World} {t : TypeId}

/-- a slice: its elements can be read -/
theorem Read.slice {e : TypeId} {cs : List Value} (ht : P.underlying t = some (.slice e)) (h : Read P w t cs) :
    ∃ a n c, cs = [.slice a n c] ∧ n ≤ c ∧ c ≤ 9223372036854775807 ∧ (a = none → n = 0 ∧ c = 0) ∧ ∀ i, i < n → ∃ ad ch, a = some ad ∧ w.cells? 0 (ad.add (i * P.cellsOf e)) (P.cellsOf e) = some ch ∧ Read P w e ch := by
  obtain ⟨H, enc, fuel, x, hx⟩ := h
  cases fuel with
  | zero => simp [DataW.trod] at hx
  | succ fuel =>
    rcases cs with _ | ⟨v, _ | ⟨v2, rest⟩⟩
    · simp [DataW.trod, ht] at hx
    · cases v with
      | slice a n c =>
        cases a with
        | none =>
          rcases n with _ | n <;> rcases c with _ | c <;> simp [DataW.trod, ht] at hx
          exact ⟨none, 0, 0, rfl, Nat.le_refl _, by omega, fun _ => ⟨rfl, rfl⟩, fun i hi => by omega⟩
        | some ad =>
          simp only [DataW.trod, ht] at hx
          split at hx
          · rename_i hb
            refine ⟨some ad, n, c, rfl, hb.2.1, by have := hb.2.2; unfold maxLen at this; omega, (fun h => by cases h), fun i hi => ?_⟩
            cases hm : (List.range n).mapM (fun i => (w.cells? 0 (ad.add (i * P.cellsOf e)) (P.cellsOf e)).bind (DataW.trod enc P w 0 (fun _ => true) true fuel e)) with
            | none => rw [hm] at hx; simp at hx
            | some ys =>
              obtain ⟨y, hy⟩ := mapM_get hm i (by simpa using hi)
              obtain ⟨ch, h1, h2⟩ := Option.bind_eq_some_iff.1 hy
              exact ⟨ad, ch, rfl, h1, H, enc, fuel, y, h2⟩
          · cases hx
      | _ => simp [DataW.trod, ht] at hx
    · simp [DataW.trod, ht] at hx

/-- a struct: each field can be read -/
theorem Read.struct {fs : Array Field} {cs : List Value} (ht : P.underlying t = some (.struct fs)) (h : Read P w t cs) :
    cs.length = P.cellsOf t ∧ ∀ f ∈ fs.toList, Read P w f.type ((cs.drop f.offset).take (P.cellsOf f.type)) := by
  obtain ⟨H, enc, fuel, x, hx⟩ := h
  cases fuel with
  | zero => simp [DataW.trod] at hx
  | succ fuel =>
    simp only [DataW.trod, ht] at hx
    split at hx
    · rename_i hl
      refine ⟨hl, fun f hf => ?_⟩
      cases hm : fs.toList.mapM (fun f => DataW.trod enc P w 0 (fun _ => true) true fuel f.type ((cs.drop f.offset).take (P.cellsOf f.type))) with
      | none => rw [hm] at hx; simp at hx
      | some ys => obtain ⟨y, hy⟩ := mapM_get hm f hf; exact ⟨H, enc, fuel, y, hy⟩
    · cases hx

theorem Read.array {n : Nat} {e : TypeId} {cs : List Value} (ht : P.underlying t = some (.array n e)) (h : Read P w t cs) :
    cs.length = P.cellsOf t ∧ ∀ i, i < n → Read P w e ((cs.drop (i * P.cellsOf e)).take (P.cellsOf e)) := by
  obtain ⟨H, enc, fuel, x, hx⟩ := h
  cases fuel with
  | zero => simp [DataW.trod] at hx
  | succ fuel =>
    simp only [DataW.trod, ht] at hx
    split at hx
    · rename_i hl
      refine ⟨hl, fun i hi => ?_⟩
      cases hm : (List.range n).mapM (fun i => DataW.trod enc P w 0 (fun _ => true) true fuel e ((cs.drop (i * P.cellsOf e)).take (P.cellsOf e))) with
      | none => rw [hm] at hx; simp at hx
      | some ys => obtain ⟨y, hy⟩ := mapM_get hm i (by simpa using hi); exact ⟨H, enc, fuel, y, hy⟩
    · cases hx
end

/-! ### whole arguments -/
theorem Arg.int {P : Program} {w : World} {t : TypeId} {v : Value} {k : IntKind} (ht : P.underlying t = some (.int k)) (h : Arg P w t v) : ∃ n, v = .int k n ∧ (Lit.int k n).wf = true := by
  obtain ⟨⟨r, b, ho⟩, hr⟩ := h
  obtain ⟨n, hn, hw⟩ := Read.int ht hr
  unfold Value.okWide Cell.okWide Cell.ok at ho
  simp only [ht] at ho
  cases v with
  | int k' m =>
    have : (Value.int k' m).cells.toList = [.int k' m] := rfl
    rw [this] at hn
    cases hn
    exact ⟨n, rfl, hw⟩
  | _ => simp at ho
theorem Arg.bool {P : Program} {w : World} {t : TypeId} {v : Value} (ht : P.underlying t = some .bool) (h : Arg P w t v) : ∃ b, v = .bool b := by
  obtain ⟨⟨r, b, ho⟩, hr⟩ := h
  unfold Value.okWide Cell.okWide Cell.ok at ho
  simp only [ht] at ho
  cases v with
  | bool b => exact ⟨b, rfl⟩
  | _ => simp at ho
end Go.Q
