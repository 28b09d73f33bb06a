/- The calculus, fourth part: a region that draws its order, by one obligation for each operation that makes memory or calls ('flow'). -/
import Derived.Test.YtinmlgolbikoeaaVC
namespace Go.V
open Go Go.RowKit

abbrev Facts := Nat → List Value → Value → World → Prop
abbrev Ctx := List (Nat × List Value × Value)
def argsOf (f : Fr) (o : Oper) : List Value :=
  match o.op with
  | .call c => (c.args.map (fev f)).toList
  | _ => []
def rsOf (P : Program) (o : Oper) : RS :=
  match o.op with
  | .box .. | .alloc .. => .one (.one .addr)
  | _ => tyRS P o.type
def facts (Φ : Facts) (m : Nat) : Ctx → World → Prop
  | [], _ => True
  | e :: l, w => match m.testBit e.1 with
    | true => Φ e.1 e.2.1 e.2.2 w ∧ facts Φ m l w
    | false => facts Φ m l w
def factsAll (Φ : Facts) : Ctx → World → Prop
  | [], _ => True
  | e :: l, w => Φ e.1 e.2.1 e.2.2 w ∧ factsAll Φ l w
/-- one operation that makes memory or calls: it does in every later world; its value is then any value -/
def flc (E : Rel) (w0 : World) (pre : World → Prop) (ob : World → Prop) {T : Type} (nxt : T → Prop) : Prop := (∀ w, E w0 w → pre w → ob w) ∧ ∀ x, nxt x
def flend (E : Rel) (w0 : World) (pre : World → Prop) (k : World → Prop) : Prop := ∀ w, E w0 w → pre w → k w
def flEx (B : Facts → Prop) : Prop := ∃ Φ : Facts, (∀ i as v w w', Φ i as v w → bel w w' → Φ i as v w') ∧ B Φ
def flExE (B : Rel → Facts → Prop) : Prop := ∃ (E : Rel) (Φ : Facts), (∀ w, E w w) ∧ (∀ a b c, E a b → E b c → E a c) ∧ (∀ i as v w w', Φ i as v w → E w w' → Φ i as v w') ∧ B E Φ
def krn (k : FV → Prop) : (r : RS) → r.T → Prop
  | .one v, x => kv k (v.val x)
  | .many l, x => k (.val (.tuple (Vval l x).toArray))
theorem krn_spec {k : FV → Prop} {r : RS} {x : r.T} (h : krn k r x) : ∃ y : FV, y.den = r.val x ∧ k y := by
  cases r with
  | one v => exact kv_spec h
  | many l => exact ⟨_, rfl, h⟩
def flow (P : Program) (E : Rel) (Φ : Facts) (ms : List Nat) (all : List Oper) (w0 : World) : List Oper → Nat → Fr → Ctx → (Fr → Ctx → Prop) → Prop
  | [], _, f, ctx, fin => fin f ctx
  | o :: os, i, f, ctx, fin =>
    let step (f : Fr) : Prop := match isRd o with
      | true => vcRd P E o f w0 fun v => force (fput f o.dst v) fun f' => flow P E Φ ms all w0 os (i + 1) f' ctx fin
      | false => flc E w0 (facts Φ (ms.getD i 0) ctx)
          (fun w => vcOp P o f w fun v w' => (rsOf P o).un v.den fun x => E w w' ∧ Φ i (argsOf f o) ((rsOf P o).val x) w')
          (fun x => krn (fun v => force (fput f o.dst v) fun f' => flow P E Φ ms all w0 os (i + 1) f' ((i, argsOf f o, (rsOf P o).val x) :: ctx) fin) (rsOf P o) x)
    let skip (f : Fr) : Prop := force (fput f o.dst .un) fun f' => flow P E Φ ms all w0 os (i + 1) f' ctx fin
    match o.guard with
    | none => step f
    | some (j, b) => match (all[j]?).bind (·.dst) with
      | none => False
      | some s => match fget f s with
        | .lit c => match c == b with
          | true => step f
          | false => skip f
        | .val (.bool c) => br c
            (match true == b with
            | true => step (fset f s (.lit true))
            | false => skip (fset f s (.lit true)))
            (match false == b with
            | true => step (fset f s (.lit false))
            | false => skip (fset f s (.lit false)))
        | .un => skip f
        | _ => False

/-! ### what precedes what -/
def maskOf (acc : List Nat) (o : Oper) : Nat :=
  o.after.toList.foldl (fun m e => match Region.binds .any e with
    | true => m ||| (2 ^ e.on ||| acc.getD e.on 0)
    | false => m) 0
def masks : List Oper → List Nat → List Nat
  | [], acc => acc
  | o :: os, acc => masks os (acc ++ [maskOf acc o])
inductive Pre (ops : Array Oper) : Nat → Nat → Prop where
  | one {i j : Nat} {o : Oper} {e : Edge} (ho : ops[j]? = some o) (he : e ∈ o.after) (hb : Region.binds .any e = true) (hi : e.on = i) : Pre ops i j
  | more {i j : Nat} {o : Oper} {e : Edge} (ho : ops[j]? = some o) (he : e ∈ o.after) (hb : Region.binds .any e = true) (hi : Pre ops i e.on) : Pre ops i j

theorem maskOf_spec {ops : Array Oper} {acc : List Nat} {o : Oper} {j : Nat} (ho : ops[j]? = some o) (hacc : ∀ k i, (acc.getD k 0).testBit i = true → Pre ops i k) :
    ∀ i, (maskOf acc o).testBit i = true → Pre ops i j := by
  have key : ∀ (l : List Edge) (m : Nat), (∀ e ∈ l, e ∈ o.after.toList) → (∀ i, m.testBit i = true → Pre ops i j) →
      ∀ i, (l.foldl (fun m e => match Region.binds .any e with
        | true => m ||| (2 ^ e.on ||| acc.getD e.on 0)
        | false => m) m).testBit i = true → Pre ops i j := by
    intro l
    induction l with
    | nil => intro m _ h i hi; exact h i hi
    | cons e l ih =>
      intro m hl h i hi
      refine ih _ (fun x hx => hl x (List.mem_cons_of_mem _ hx)) ?_ i hi
      intro i hi
      dsimp only at hi
      cases hb : Region.binds .any e with
      | false => rw [hb] at hi; exact h i hi
      | true =>
        rw [hb] at hi
        have he : e ∈ o.after := by have := hl e (List.mem_cons_self ..); simpa using this
        simp only [Nat.testBit_or, Bool.or_eq_true] at hi
        rcases hi with hi | hi | hi
        · exact h i hi
        · rw [Nat.testBit_two_pow] at hi
          exact .one ho he hb (by simpa using hi)
        · exact .more ho he hb (hacc _ _ hi)
  exact key o.after.toList 0 (fun e he => he) (fun i hi => by simp at hi)
theorem masks_spec {ops : Array Oper} : ∀ (l : List Oper) (acc : List Nat), (∀ j, l[j]? = ops[acc.length + j]?) → (∀ k i, (acc.getD k 0).testBit i = true → Pre ops i k) →
    ∀ k i, ((masks l acc).getD k 0).testBit i = true → Pre ops i k
  | [], acc, _, h => h
  | o :: l, acc, hl, h => by
    have ho : ops[acc.length]? = some o := by simpa using (hl 0).symm
    refine masks_spec l _ (fun j => by have := hl (j + 1); simpa [Nat.add_assoc, Nat.add_comm 1 j] using this) ?_
    intro k i hk
    by_cases hlt : k < acc.length
    · rw [List.getD_eq_getElem?_getD, List.getElem?_append_left hlt, ← List.getD_eq_getElem?_getD] at hk
      exact h k i hk
    · by_cases he : k = acc.length
      · subst he
        rw [List.getD_eq_getElem?_getD, List.getElem?_append_right (Nat.le_refl _)] at hk
        simp only [Nat.sub_self, List.getElem?_cons_zero, Option.getD_some] at hk
        exact maskOf_spec ho h i hk
      · rw [List.getD_eq_getElem?_getD, List.getElem?_eq_none (by simp; omega)] at hk
        simp at hk

def dstAt (ops : Array Oper) (i : Nat) : Option Nat := (ops[i]?).bind (·.dst)
def confB (ops : Array Oper) (oi oj : Oper) : Bool :=
  (match oi.dst with
  | some d => (oj.looksAt ops).contains d || oj.dst == some d
  | none => false) ||
  (match oj.dst with
  | some d => (oi.looksAt ops).contains d
  | none => false)
/-- the last operation against all that stand before: what it conflicts with it waits for; in the tail it waits for all whose value hangs on memory -/
def confRow (ops : Array Oper) (m : Nat) (tl : Bool) (oj : Oper) : List Oper → Nat → Bool
  | [], _ => true
  | oi :: l, i => (!confB ops oi oj || oj.after.toList.any fun e => Region.binds .any e && e.on == i) && (!tl || isPv oi || m.testBit i) && confRow ops m tl oj l (i + 1)
def flowB (ops : Array Oper) (ms : List Nat) (len n : Nat) : List Oper → Nat → Bool
  | [], _ => true
  | o :: os, j =>
    confRow ops (ms.getD j 0) (decide (n ≤ j)) o (ops.toList.take j) 0 &&
    (match o.dst with
      | some d => decide (d < len) | none => true) &&
    (o.after.toList.all fun e => !Region.binds .any e || decide (e.on < j)) &&
    (match o.op with
      | .select .. => false | _ => true) &&
    flowB ops ms len n os (j + 1)
structure FlowOk (ops : Array Oper) (len n : Nat) : Prop where
  dir : ∀ i j oi oj, ops[i]? = some oi → ops[j]? = some oj → i < j → confB ops oi oj = true → ∃ e ∈ oj.after, Region.binds .any e = true ∧ e.on = i
  len : ∀ i d, dstAt ops i = some d → d < len
  back : ∀ j oj e, ops[j]? = some oj → e ∈ oj.after → Region.binds .any e = true → e.on < j
  tail : ∀ t, n ≤ t → t < ops.size → ∀ i oi, i < t → ops[i]? = some oi → isPv oi = false → Pre ops i t
  sel : ∀ (j : Nat) (o : Oper) cs b, ops[j]? = some o → o.op ≠ .select cs b
theorem FlowOk.conf {ops : Array Oper} {len n : Nat} (fo : FlowOk ops len n) : ∀ i j oi oj, ops[i]? = some oi → ops[j]? = some oj → i < j → confB ops oi oj = true → Pre ops i j := by
  intro i j oi oj hi hj hij hc
  obtain ⟨e, he, hb, ho⟩ := fo.dir i j oi oj hi hj hij hc
  exact .one hj he hb ho
theorem confRow_spec {ops : Array Oper} {m : Nat} {tl : Bool} {oj : Oper} : ∀ (l : List Oper) (k : Nat), confRow ops m tl oj l k = true → ∀ i oi, l[i]? = some oi →
    (confB ops oi oj = true → ∃ e ∈ oj.after, Region.binds .any e = true ∧ e.on = k + i) ∧ (tl = true → isPv oi = false → m.testBit (k + i) = true)
  | [], _, _, i, oi, h => by simp at h
  | o :: l, k, h, i, oi, hi => by
    simp only [confRow, Bool.and_eq_true, Bool.or_eq_true, Bool.not_eq_true'] at h
    obtain ⟨⟨h1, h2⟩, h3⟩ := h
    cases i with
    | zero =>
      simp only [List.getElem?_cons_zero, Option.some.injEq] at hi
      subst hi
      refine ⟨fun hc => ?_, fun ht hp => ?_⟩
      · rcases h1 with h1 | h1
        · rw [h1] at hc; cases hc
        · obtain ⟨e, he, hb⟩ := List.any_eq_true.1 h1
          simp only [Bool.and_eq_true, beq_iff_eq] at hb
          exact ⟨e, by simpa using he, hb.1, hb.2⟩
      · rcases h2 with (h2 | h2) | h2
        · rw [h2] at ht; cases ht
        · rw [h2] at hp; cases hp
        · exact h2
    | succ i =>
      have := confRow_spec l (k + 1) h3 i oi (by simpa using hi)
      rwa [Nat.add_assoc, Nat.add_comm 1 i] at this
theorem flowB_spec {ops : Array Oper} {ms : List Nat} {len n : Nat} : ∀ (l : List Oper) (k : Nat), (∀ j, l[j]? = ops[k + j]?) → flowB ops ms len n l k = true →
    ∀ j oj, k ≤ j → ops[j]? = some oj →
      (∀ i oi, i < j → ops[i]? = some oi → (confB ops oi oj = true → ∃ e ∈ oj.after, Region.binds .any e = true ∧ e.on = i) ∧ (n ≤ j → isPv oi = false → (ms.getD j 0).testBit i = true)) ∧
      (∀ d, oj.dst = some d → d < len) ∧
      (∀ e, e ∈ oj.after → Region.binds .any e = true → e.on < j) ∧
      (∀ cs b, oj.op ≠ .select cs b)
  | [], k, hl, _, j, oj, hj, ho => by
    have := hl (j - k)
    rw [show k + (j - k) = j by omega, ho] at this
    simp at this
  | o :: l, k, hl, h, j, oj, hj, ho => by
    simp only [flowB, Bool.and_eq_true] at h
    obtain ⟨⟨⟨⟨h1, h2⟩, h3⟩, h5⟩, h6⟩ := h
    by_cases hjk : j = k
    · subst hjk
      have h0 : some o = some oj := by have := hl 0; rw [Nat.add_zero, ho] at this; simpa using this
      cases h0
      refine ⟨fun i oi hi hoi => ?_, fun d hd => ?_, fun e he hb => ?_, fun cs b he => ?_⟩
      · have := confRow_spec _ 0 h1 i oi (by rw [List.getElem?_take]; simp [hi, hoi])
        rw [Nat.zero_add] at this
        exact ⟨this.1, fun hn => this.2 (by simpa using hn)⟩
      · rw [hd] at h2; simpa using h2
      · have := List.all_eq_true.1 h3 e (by simpa using he)
        simpa [hb] using this
      · rw [he] at h5; cases h5
    · exact flowB_spec l (k + 1) (fun j => by have := hl (j + 1); simpa [Nat.add_assoc, Nat.add_comm 1 j] using this) h6 j oj (by omega) ho
theorem flowOk {ops : Array Oper} {len n : Nat} (h : flowB ops (masks ops.toList []) len n ops.toList 0 = true) : FlowOk ops len n := by
  have hm := masks_spec (ops := ops) ops.toList [] (fun j => by simp) (fun k i hi => by simp at hi)
  have H := flowB_spec (ops := ops) ops.toList 0 (fun j => by simp) h
  refine ⟨fun i j oi oj hi hj hij hc => ((H j oj (Nat.zero_le _) hj).1 i oi hij hi).1 hc, fun i d hd => ?_, fun j oj e hj he hb => (H j oj (Nat.zero_le _) hj).2.2.1 e he hb, fun t ht hlt i oi hi hoi hp => ?_, fun j o cs b hj => (H j o (Nat.zero_le _) hj).2.2.2 cs b⟩
  · unfold dstAt at hd
    cases ho : ops[i]? with
    | none => simp [ho] at hd
    | some o => rw [ho] at hd; exact (H i o (Nat.zero_le _) ho).2.1 d hd
  · exact hm _ _ (((H t ops[t] (Nat.zero_le _) (by simp [hlt])).1 i oi hi hoi).2 ht hp)
end Go.V
