/- The calculus, seventh part: the conditions of a function's code, and that they suffice. -/
import Derived.Test.YtinmlgolbikoeaaVF
namespace Go.V
open Go Go.RowKit

/-! ### the same region in another order of its text -/
def renE (p : List Nat) (e : Edge) : Edge := { e with on := p.idxOf e.on }
def renO (p : List Nat) (o : Oper) : Oper := { o with after := o.after.map (renE p), guard := o.guard.map fun g => (p.idxOf g.1, g.2) }
def permOps (p : List Nat) (ops : Array Oper) : Array Oper := (p.filterMap fun i => (ops[i]?).map (renO p)).toArray
def permOk (p : List Nat) (ops : Array Oper) : Bool :=
  decide (p.length = ops.size) && ((List.range ops.size).all fun i => p.contains i) && ((List.range ops.size).all fun x => decide (p.getD x 0 < ops.size) && decide (p.idxOf (p.getD x 0) = x)) &&
  ops.toList.all fun o => (o.after.toList.all fun e => decide (e.on < ops.size)) && (match o.guard with
    | some g => decide (g.1 < ops.size) | none => true)
structure PermOk (p : List Nat) (ops : Array Oper) : Prop where
  len : p.length = ops.size
  to : ∀ i, i < ops.size → p.idxOf i < ops.size ∧ p[p.idxOf i]? = some i
  from' : ∀ x, x < ops.size → ∃ i, p[x]? = some i ∧ i < ops.size ∧ p.idxOf i = x
  edge : ∀ (i : Nat) (o : Oper), ops[i]? = some o → ∀ e ∈ o.after, e.on < ops.size
  guard : ∀ (i : Nat) (o : Oper) j b, ops[i]? = some o → o.guard = some (j, b) → j < ops.size
theorem idxOf_get {p : List Nat} {i : Nat} (h : i ∈ p) : p.idxOf i < p.length ∧ p[p.idxOf i]? = some i := by
  have h1 := List.idxOf_lt_length_of_mem h
  exact ⟨h1, by rw [List.getElem?_eq_getElem h1]; simp⟩
theorem permOk_spec {p : List Nat} {ops : Array Oper} (h : permOk p ops = true) : PermOk p ops := by
  simp only [permOk, Bool.and_eq_true, decide_eq_true_eq] at h
  obtain ⟨⟨⟨h1, h2⟩, h3⟩, h4⟩ := h
  refine ⟨h1, fun i hi => ?_, fun x hx => ?_, fun i o ho e he => ?_, fun i o j b ho hg => ?_⟩
  · have := List.all_eq_true.1 h2 i (List.mem_range.2 hi)
    have := idxOf_get (by simpa using this)
    exact ⟨by rw [← h1]; exact this.1, this.2⟩
  · have := List.all_eq_true.1 h3 x (List.mem_range.2 hx)
    simp only [Bool.and_eq_true, decide_eq_true_eq] at this
    refine ⟨p.getD x 0, ?_, this.1, this.2⟩
    rw [List.getElem?_eq_getElem (by omega), List.getD_eq_getElem?_getD, List.getElem?_eq_getElem (by omega)]; rfl
  · have h5 := List.all_eq_true.1 h4 o (by simpa using Array.mem_of_getElem? ho)
    simp only [Bool.and_eq_true] at h5
    simpa using List.all_eq_true.1 h5.1 e (by simpa using he)
  · have h5 := List.all_eq_true.1 h4 o (by simpa using Array.mem_of_getElem? ho)
    simp only [Bool.and_eq_true, hg] at h5
    simpa using h5.2
section
variable {P : Program} {ops : Array Oper} {p : List Nat}
theorem permOps_get (h : PermOk p ops) {x i : Nat} (hx : p[x]? = some i) (hi : i < ops.size) : (permOps p ops)[x]? = some (renO p ops[i]) := by
  have key : ∀ (l : List Nat), (∀ j ∈ l, j < ops.size) → ∀ (x : Nat), (l.filterMap fun i => (ops[i]?).map (renO p))[x]? = (l[x]?).bind fun i => (ops[i]?).map (renO p) := by
    intro l
    induction l with
    | nil => intro _ x; simp
    | cons j l ih =>
      intro hl x
      have hj := hl j (List.mem_cons_self ..)
      rw [List.filterMap_cons_some (b := renO p ops[j]) (by simp [hj])]
      cases x with
      | zero => simp [hj]
      | succ x => simpa using ih (fun k hk => hl k (List.mem_cons_of_mem _ hk)) x
  have hmem : ∀ j ∈ p, j < ops.size := by
    intro j hj
    obtain ⟨y, hy, he⟩ := List.mem_iff_getElem.1 hj
    obtain ⟨i, h1, h2, _⟩ := h.from' y (by rw [← h.len]; exact hy)
    rw [List.getElem?_eq_getElem hy, he] at h1
    cases h1; exact h2
  unfold permOps
  rw [List.getElem?_toArray, key p hmem x, hx]
  simp [hi]
theorem permOps_size (h : PermOk p ops) : (permOps p ops).size = ops.size := by
  have h1 : ∀ x, x < ops.size → (permOps p ops)[x]? ≠ none := by
    intro x hx
    obtain ⟨i, h1, h2, _⟩ := h.from' x hx
    rw [permOps_get h h1 h2]; simp
  have h2 : (permOps p ops)[ops.size]? = none := by
    unfold permOps
    rw [List.getElem?_toArray, List.getElem?_eq_none]
    refine Nat.le_trans (List.length_filterMap_le _ _) (by rw [h.len]; exact Nat.le_refl _)
  have h3 : (permOps p ops).size ≤ ops.size := by simpa using h2
  rcases Nat.lt_or_ge (permOps p ops).size ops.size with h4 | h4
  · exact absurd (by simp) (h1 _ h4)
  · omega
theorem ren_binds (e : Edge) : Region.binds .any (renE p e) = Region.binds .any e := rfl
theorem dst_ren (h : PermOk p ops) {j : Nat} (hj : j < ops.size) : dstAt (permOps p ops) (p.idxOf j) = dstAt ops j := by
  obtain ⟨_, h2⟩ := h.to j hj
  unfold dstAt
  rw [permOps_get h h2 hj]
  simp [hj, renO]
theorem wanted_ren (h : PermOk p ops) {i : Nat} (hi : i < ops.size) (tm : Array Value) : Region.wanted (renO p ops[i]) (yielded (permOps p ops) tm) = Region.wanted ops[i] (yielded ops tm) := by
  unfold Region.wanted renO
  cases hg : ops[i].guard with
  | none => rfl
  | some g =>
    obtain ⟨j, b⟩ := g
    have hj := h.guard i ops[i] j b (by simp [hi]) hg
    have hd := dst_ren h hj
    unfold dstAt at hd
    simp only [Option.map_some, yielded, hd]
theorem wpOp_ren (h : PermOk p ops) {Q : Exit → Act → World → Prop} {i : Nat} (hi : i < ops.size) {K : Act → World → Prop} {a : Act} {w : World} (hw : wpOp P (permOps p ops) Q (p.idxOf i) K a w) : wpOp P ops Q i K a w := by
  obtain ⟨_, h2⟩ := h.to i hi
  unfold wpOp at *
  rw [permOps_get h h2 hi] at hw
  rw [show ops[i]? = some ops[i] by simp [hi]]
  dsimp only at *
  rw [wanted_ren h hi] at hw
  exact hw
theorem wpAny_ren (h : PermOk p ops) {Q : Exit → Act → World → Prop} : ∀ (fuel : Nat) (listed listed' : Array Bool) (a : Act) (w : World), listed.size = ops.size → listed'.size = ops.size →
    (∀ i, i < ops.size → ∀ d, listed'.getD (p.idxOf i) d = listed.getD i d) → wpAny P .any (permOps p ops) Q fuel listed' a w → wpAny P .any ops Q fuel listed a w := by
  have rdy : ∀ (listed listed' : Array Bool), (∀ i, i < ops.size → ∀ d, listed'.getD (p.idxOf i) d = listed.getD i d) → ∀ i, i < ops.size →
      (i ∈ Region.ready .any ops listed ↔ p.idxOf i ∈ Region.ready .any (permOps p ops) listed') := by
    intro listed listed' hl i hi
    obtain ⟨_, h2⟩ := h.to i hi
    rw [mem_ready, mem_ready, permOps_get h h2 hi, hl i hi]
    have hoi : ops[i]? = some ops[i] := by simp [hi]
    rw [hoi]
    constructor
    · rintro ⟨h0, o, ho, hall⟩
      cases ho
      refine ⟨h0, _, rfl, fun e he hb => ?_⟩
      simp only [renO, Array.mem_map] at he
      obtain ⟨e0, he0, rfl⟩ := he
      show listed'.getD (p.idxOf e0.on) false = true
      rw [hl e0.on (h.edge i _ hoi e0 he0)]
      exact hall e0 he0 hb
    · rintro ⟨h0, o, ho, hall⟩
      cases ho
      refine ⟨h0, _, rfl, fun e he hb => ?_⟩
      have := hall (renE p e) (by simp only [renO, Array.mem_map]; exact ⟨e, he, rfl⟩) hb
      rw [show (renE p e).on = p.idxOf e.on from rfl, hl e.on (h.edge i _ hoi e he)] at this
      exact this
  have empt : ∀ (listed listed' : Array Bool), (∀ i, i < ops.size → ∀ d, listed'.getD (p.idxOf i) d = listed.getD i d) → Region.ready .any ops listed = [] → Region.ready .any (permOps p ops) listed' = [] := by
    intro listed listed' hl hr
    rw [List.eq_nil_iff_forall_not_mem]
    intro x hx
    obtain ⟨_, o, ho, _⟩ := mem_ready.1 hx
    have hxs := (Array.getElem?_eq_some_iff.1 ho).1
    rw [permOps_size h] at hxs
    obtain ⟨i, h1, h2, rfl⟩ := h.from' x hxs
    have := (rdy listed listed' hl i h2).2 hx
    rw [hr] at this; simp at this
  intro fuel
  induction fuel with
  | zero =>
    intro listed listed' a w _ _ hl hw
    obtain ⟨h1, h2⟩ := hw
    refine ⟨?_, h2⟩
    rw [List.eq_nil_iff_forall_not_mem]
    intro i hi
    obtain ⟨_, o, ho, _⟩ := mem_ready.1 hi
    have := (rdy listed listed' hl i (Array.getElem?_eq_some_iff.1 ho).1).1 hi
    rw [h1] at this; simp at this
  | succ fuel ih =>
    intro listed listed' a w hs hs' hl hw
    obtain ⟨h1, h2⟩ := hw
    refine ⟨fun hr => h1 (empt listed listed' hl hr), fun i hi => ?_⟩
    obtain ⟨_, o, ho, _⟩ := mem_ready.1 hi
    have his := (Array.getElem?_eq_some_iff.1 ho).1
    refine wpOp_ren h his (wpOp_mono (fun a w hw => ih _ _ a w (by simp [hs]) (by simp [hs']) ?_ hw) (h2 _ ((rdy listed listed' hl i his).1 hi)))
    intro j hj d
    by_cases hij : i = j
    · subst hij
      have : p.idxOf i < listed'.size := by rw [hs']; exact (h.to i his).1
      simp [this, hs, his]
    · have hne : p.idxOf i ≠ p.idxOf j := by
        intro he
        have h3 := (h.to i his).2
        have h4 := (h.to j hj).2
        rw [he, h4] at h3
        cases h3; exact hij rfl
      rw [getD_set_ne d hne, getD_set_ne d hij]
      exact hl j hj d
end

def vcFin (P : Program) (E : Rel) (Φ : Facts) (all tl : List Oper) (w0 : World) (k : Fr → World → Prop) (f : Fr) : Ctx → Prop
  | [] => vcOps P all tl f w0 k
  | e :: c => flend E w0 (factsAll Φ (e :: c)) fun w => vcOps P all tl f w k
def vcDraw0 (P : Program) (own : Bool) (n : Nat) (ops : Array Oper) (f : Fr) (w : World) (k : Fr → World → Prop) : Prop :=
  match decide (n ≤ ops.size) && flowB ops (masks ops.toList []) f.length n ops.toList 0 with
  | false => False
  | true => drw w fun w0 => match (ops.toList.take n).any fun o => !isRd o with
    | false => flow P bel (fun _ _ _ _ => True) (masks ops.toList []) ops.toList w0 (ops.toList.take n) 0 f [] (vcFin P bel (fun _ _ _ _ => True) ops.toList (ops.toList.drop n) w0 k)
    | true => match own with
      | false => flEx fun Φ => flow P bel Φ (masks ops.toList []) ops.toList w0 (ops.toList.take n) 0 f [] (vcFin P bel Φ ops.toList (ops.toList.drop n) w0 k)
      | true => flExE fun E Φ => flow P E Φ (masks ops.toList []) ops.toList w0 (ops.toList.take n) 0 f [] (vcFin P E Φ ops.toList (ops.toList.drop n) w0 k)

section
variable {P : Program} {ops : Array Oper} {E : Rel} {Φ : Facts} {w0 : World} {f0 : Fr}
theorem cnt_replicate (N : Nat) : ∀ m, m ≤ N → cnt (Array.replicate N false) m = m
  | 0, _ => rfl
  | m + 1, h => by
    simp only [cnt]
    rw [cnt_replicate N m (by omega), if_pos (by simp [show m < N by omega])]
theorem lk_not {val : Nat → Value} {t : Nat} : ∀ i, (∀ j, dstAt ops j ≠ some t) → lk ops f0 val i t = (fget f0 t).den
  | 0, _ => rfl
  | i + 1, h => by simp only [lk]; rw [if_neg (h i), lk_not i h]
theorem eq_act {a : Act} {f : Fr} (h1 : a.tmps.size = f.length) (h2 : a.defers = []) (h3 : ∀ t, a.tmps.getD t undef = (fget f t).den) : a = act f := by
  obtain ⟨tm, df⟩ := a
  dsimp only at h1 h2 h3
  subst h2
  have : tm = (act f).tmps := by
    refine Array.ext (by rw [h1, size_act]) fun i hi hi2 => ?_
    have h4 := h3 i
    rw [← den_fget] at h4
    simpa [hi, hi2] using h4
  rw [this]; rfl

theorem vcDraw0_spec {own : Bool} {n : Nat} {f : Fr} {w : World} {k : Fr → World → Prop} {Q : Exit → Act → World → Prop} (hQ : ∀ c a w, ¬ Q (.panic c) a w)
    (h : vcDraw0 P own n ops f w k) (hk : ∀ f' w', k f' w' → Agree (dsts ops.toList) f f' → Q .normal (act f') w') : wpAny P .any ops Q ops.size (Array.replicate ops.size false) (act f) { w with drawn := w.drawn + 1 } := by
  unfold vcDraw0 at h
  split at h
  · exact h.elim
  · rename_i hB
    simp only [Bool.and_eq_true, decide_eq_true_eq] at hB
    obtain ⟨hn, hB⟩ := hB
    have fo := flowOk hB
    have hms := masks_spec (ops := ops) ops.toList [] (fun j => by simp) (fun k i hi => by simp at hi)
    unfold drw at h
    generalize hw0 : ({ w with drawn := w.drawn + 1 } : World) = w0 at h
    have main : ∀ (E : Rel) (Φ : Facts), (∀ w, E w w) → (∀ a b c, E a b → E b c → E a c) → (∀ i as v w w', Φ i as v w → E w w' → Φ i as v w') →
        flow P E Φ (masks ops.toList []) ops.toList w0 (ops.toList.take n) 0 f [] (vcFin P E Φ ops.toList (ops.toList.drop n) w0 k) →
        wpAny P .any ops Q ops.size (Array.replicate ops.size false) (act f) w0 := by
      intro E Φ hE hT hΦ hf
      have hsub : ∀ t ∈ dsts (ops.toList.drop n), t ∈ dsts ops.toList := fun t ht => by
        obtain ⟨o, ho, hd⟩ := List.mem_filterMap.1 ht
        exact List.mem_filterMap.2 ⟨o, List.mem_of_mem_drop ho, hd⟩
      have hrun : ∀ res : Nat → Value, (∀ i o, ops[i]? = some o → ∃ x, res i = (rsOf P o).val x) → ∃ val, (∀ j, j < n → Vok P ops E Φ w0 f res val j) ∧
          ∀ (a : Act) (w : World), a.tmps.size = f.length → a.defers = [] → (∀ t, a.tmps.getD t undef = lk ops f val n t) → E w0 w →
            ((∀ i, i < n → ¬ LW ops f val i) → w = w0) → (∀ i, i < n → LW ops f val i → FactAt ops Φ f val i w) →
            (∃ f', a = act f' ∧ Agree (dsts ops.toList) f f' ∧ vcOps P ops.toList (ops.toList.drop n) f' w k) := by
        intro res hres
        have hlen : (ops.toList.take n).length = n := by simp; omega
        obtain ⟨val, f', ctx, h1, h2, h3, h4, h5⟩ := flow_run (f0 := f) (ms := masks ops.toList []) (all := ops.toList) (res := res) hres hms fo.len (fun j => by simp) (ops.toList.take n) 0 f [] (fun _ => undef)
          (fun j hj => by rw [hlen] at hj; rw [List.getElem?_take]; simp [hj]) rfl (fun t => rfl) (fun j hj => by omega) ⟨fun e he => by simp at he, fun i hi => by omega⟩ hf
        rw [hlen, Nat.zero_add] at h1 h3 h4
        refine ⟨val, h1, fun a w' a1 a2 a3 a4 a5 a6 => ?_⟩
        have ha : a = act f' := eq_act (by rw [a1, h2]) a2 fun t => by rw [a3, h3]
        have hag : Agree (dsts ops.toList) f f' := ⟨h2, fun t ht => by
          rw [h3]; refine lk_not n fun j hj => ht ?_
          obtain ⟨o, ho, hd⟩ := dstAt_some hj
          exact List.mem_filterMap.2 ⟨o, List.mem_of_getElem? (by simpa using ho), hd⟩⟩
        refine ⟨f', ha, hag, ?_⟩
        cases ctx with
        | nil =>
          rw [a5 fun i hi hl => by obtain ⟨e, he, _⟩ := h4.has i hi hl; simp at he]
          exact h5
        | cons e c =>
          refine h5 w' a4 (factsAll_of _ fun x hx => ?_)
          obtain ⟨b1, b2, ⟨o, ho, b3⟩, b4⟩ := h4.of x hx
          rw [b3, b4]
          exact a6 x.1 b1 b2 o ho
      obtain ⟨val0, hv0, _⟩ := hrun (fun i => match ops[i]? with
        | some o => (rsOf P o).val (rsOf P o).dflt
        | none => undef) (fun i o ho => ⟨_, by simp only [ho]; rfl⟩)
      refine head_run hE hT fo hn hQ (T := fun a w => ∃ f', a = act f' ∧ Agree (dsts ops.toList) f f' ∧ vcOps P ops.toList (ops.toList.drop n) f' w k)
        (fun fuel listed a w' s1 s2 s3 s4 s5 ⟨f', ha, hag, hv⟩ => by
          subst ha
          exact tail_run fo hQ (fun j => by simp) (ops.toList.drop n) n fuel listed f' w' k (fun j => by simp) (Nat.le_refl _) s1 s2 s3 s4 s5 hv fun f'' w'' hk' hag' => hk f'' w'' hk' (hag.trans (hag'.mono hsub))) hΦ hrun ops.size _ (act f) w0 _ val0 (cnt_replicate _ _ (Nat.le_refl _)) ⟨by simp, ?_, ?_, fun i o ho => ⟨_, by simp only [ho]; rfl⟩, hv0, size_act f, rfl, ?_, hE _, fun _ => rfl, ?_⟩
      · intro i j _ hl; rw [getD_replicate_false] at hl; cases hl
      · intro t _ ht; simp [ht]
      · intro t
        rw [mlk_lk_none (fun j => getD_replicate_false _ _)]
        exact den_fget f t
      · intro i _ hl; rw [getD_replicate_false] at hl; cases hl
    split at h
    · exact main bel _ bel.refl (fun _ _ _ => bel.trans) (fun _ _ _ _ _ _ _ => trivial) h
    · split at h
      · obtain ⟨Φ, hΦ, h⟩ := h
        exact main bel Φ bel.refl (fun _ _ _ => bel.trans) hΦ h
      · obtain ⟨E, Φ, hE, hT, hΦ, h⟩ := h
        exact main E Φ hE hT hΦ h
def vcDraw (P : Program) (own : Bool) (p : Option (List Nat)) (n : Nat) (ops : Array Oper) (f : Fr) (w : World) (k : Fr → World → Prop) : Prop :=
  match p with
  | none => vcDraw0 P own n ops f w k
  | some p => match permOk p ops with
    | true => vcDraw0 P own n (permOps p ops) f w k
    | false => False
theorem vcDraw_spec {own : Bool} {id n : Nat} {p : Option (List Nat)} {f : Fr} {w : World} {k : Fr → World → Prop} {Q : Exit → Act → World → Prop} (hm : P.follows .mixedOrders = true) (hQ : ∀ c a w, ¬ Q (.panic c) a w)
    (h : vcDraw P own p n ops f w k) (hk : ∀ f' w', k f' w' → Agree (dsts ops.toList) f f' → Q .normal (act f') w') : (Code.region id ops true).wp P Q (act f) w := by
  refine wp_region_any hm ?_
  unfold vcDraw at h
  split at h
  · exact vcDraw0_spec hQ h hk
  · rename_i p
    split at h
    · rename_i hp
      have hp := permOk_spec hp
      have hsub : ∀ t ∈ dsts (permOps p ops).toList, t ∈ dsts ops.toList := fun t ht => by
        obtain ⟨o, ho, hd⟩ := List.mem_filterMap.1 ht
        obtain ⟨x, hx, he⟩ := List.mem_iff_getElem.1 ho
        have hx' : x < ops.size := by rw [← permOps_size hp]; simpa using hx
        obtain ⟨i, h1, h2, _⟩ := hp.from' x hx'
        have h3 := permOps_get hp h1 h2
        have h4 : (permOps p ops)[x]? = some o := by rw [← he]; simp
        rw [h4] at h3
        cases h3
        exact List.mem_filterMap.2 ⟨ops[i], by simp, hd⟩
      have := vcDraw0_spec hQ h fun f' w' hk' hag => hk f' w' hk' (hag.mono hsub)
      rw [permOps_size hp] at this
      exact wpAny_ren hp _ _ _ _ _ (by simp) (by simp) (fun i hi d => by simp [hi, (hp.to i hi).1]) this
    · exact h.elim
end

/-! ### hints: which slots live at a place where ways meet, and at the head of a loop -/
structure Hints where
  /-- (0, slot): behind a test of that slot; (1, id): behind a block; (2, id): at the head of the loop in that block; (3, id): behind a region -/
  at' : List (Nat × Nat × List (Nat × VS))
  /-- region that draws: how many operations stand ahead of its tail -/
  heads : List (Nat × Nat)
  /-- region that draws: another order of its text -/
  perms : List (Nat × List Nat)
  /-- region that draws: with a relation of its own -/
  owns : List Nat
def hfind : List (Nat × Nat × List (Nat × VS)) → Nat → Nat → Option (List (Nat × VS))
  | [], _, _ => none
  | (a, b, l) :: t, x, y => match a == x && b == y with
    | true => some l | false => hfind t x y
def hhead : List (Nat × Nat) → Nat → Nat → Nat
  | [], _, d => d
  | (a, n) :: t, x, d => match a == x with
    | true => n | false => hhead t x d
def hperm : List (Nat × List Nat) → Nat → Option (List Nat)
  | [], _ => none
  | (a, n) :: t, x => match a == x with
    | true => some n | false => hperm t x
def joinOf (H : Hints) : Code → Option (List (Nat × VS))
  | .cond (.tmp s) _ _ => hfind H.at' 0 s
  | .block id _ => hfind H.at' 1 id
  | .region id _ _ => hfind H.at' 3 id
  | .seq _ b => joinOf H b
  | _ => none
def LVT : List (Nat × VS) → Type
  | [] => Unit | s :: l => s.2.T × LVT l
def LVun : (l : List (Nat × VS)) → Fr → (LVT l → Prop) → Prop
  | [], _, p => p ()
  | s :: l, f, p => s.2.un (fget f s.1).den fun x => LVun l f fun y => p (x, y)
def kvs (f : Fr) (s : Nat) (k : Fr → Prop) (v : Value) : Prop := kv (fun x => k (fset f s x)) v
def LVset : (l : List (Nat × VS)) → LVT l → Fr → (Fr → Prop) → Prop
  | [], _, f, k => k f
  | s :: l, x, f, k => kv (fun y => LVset l x.2 (fset f s.1 y) k) (s.2.val x.1)
def havoc : List Nat → (Nat → Value) → Fr → Fr
  | [], _, f => f
  | s :: l, d, f => havoc l d (fset f s (.val (d s)))
def asg : Code → List Nat
  | .region _ ops _ => dsts ops.toList
  | .seq a b => asg a ++ asg b
  | .cond _ a b => asg a ++ asg b
  | .block _ c => asg c
  | .loop c => asg c
  | _ => []
def has (l : List (Nat × VS)) (s : Nat) : Bool := l.any fun p => p.1 == s
def dead (l : List (Nat × VS)) (a : List Nat) : List Nat := a.filter fun s => !has l s
def liveOk (l : List (Nat × VS)) (a : List Nat) : Bool := l.all fun p => a.contains p.1
structure Ks where
  nx : Fr → World → Prop
  ex : Nat → Fr → World → Prop
  rt : Fr → World → Prop
def vc (P : Program) (H : Hints) : Code → Nat → Ks → Fr → World → Prop
  | .skip, _, Q, f, w => Q.nx f w
  | .region id ops draw, _, Q, f, w => match draw with
    | false => vcOps P ops.toList ops.toList f w Q.nx
    | true => vcDraw P (H.owns.contains id) (hperm H.perms id) (hhead H.heads id ops.size) ops f w Q.nx
  | .seq a b, bid, Q, f, w => match joinOf H a with
    | some live => match liveOk live (asg a) with
      | true => join (T := LVT live) (fun x w => ∀ d, LVset live x (havoc (dead live (asg a)) d f) fun f' => force f' fun f' => vc P H b bid Q f' w)
        (fun K => vc P H a bid { Q with nx := fun f' w' => LVun live f' fun x => K x w' } f w)
      | false => False
    | none => vc P H a bid { Q with nx := fun f w => vc P H b bid Q f w } f w
  | .cond c x y, bid, Q, f, w => match fop f c with
    | .lit true => vc P H x bid Q f w
    | .lit false => vc P H y bid Q f w
    | .val (.bool b) => br b (force (learn f c true) fun f' => vc P H x bid Q f' w) (force (learn f c false) fun f' => vc P H y bid Q f' w)
    | _ => False
  | .block id c, _, Q, f, w => vc P H c id { Q with ex := fun i f w => match i == id with
      | true => Q.nx f w
      | false => Q.ex i f w } f w
  | .loop c, bid, Q, f, w => match hfind H.at' 2 bid with
    | some live => match liveOk live (asg c) with
      | true => LVun live f fun x0 => loop x0 w fun again x w => ∀ d, LVset live x (havoc (dead live (asg c)) d f) fun f' => force f' fun f' =>
          vc P H c bid { Q with nx := fun f' w' => LVun live f' fun x' => again x' w' } f' w
      | false => False
    | none => False
  | .exit id, _, Q, f, w => Q.ex id f w
  | .ret, _, Q, f, w => Q.rt f w
  | _, _, _, _, _ => False

theorem LVun_spec : ∀ {l : List (Nat × VS)} {f : Fr} {p : LVT l → Prop}, LVun l f p → ∃ x, p x ∧ ∀ s ∈ l, has l s.1 = true
  | [], f, p, h => ⟨(), h, fun s hs => by simp at hs⟩
  | s :: l, f, p, h => by
    obtain ⟨x, _, h1⟩ := VS.un_spec (show s.2.un (fget f s.1).den (fun x => LVun l f fun y => p (x, y)) from h)
    obtain ⟨y, h2, _⟩ := LVun_spec h1
    exact ⟨(x, y), h2, fun q hq => by simp only [has, List.any_eq_true]; exact ⟨q, hq, by simp⟩⟩

theorem length_havoc (d : Nat → Value) : ∀ (l : List Nat) (f : Fr), (havoc l d f).length = f.length
  | [], _ => rfl
  | s :: l, f => by simp only [havoc]; rw [length_havoc d l, length_fset]
theorem havoc_den (d : Nat → Value) : ∀ (l : List Nat) (f : Fr) (t : Nat), (fget (havoc l d f) t).den = if t ∈ l ∧ t < f.length then d t else (fget f t).den
  | [], _, _ => by simp [havoc]
  | s :: l, f, t => by
    simp only [havoc]
    rw [havoc_den d l, length_fset, fget_fset]
    by_cases h1 : t ∈ l ∧ t < f.length
    · rw [if_pos h1, if_pos ⟨List.mem_cons_of_mem _ h1.1, h1.2⟩]
    · rw [if_neg h1]
      by_cases h2 : s = t ∧ s < f.length
      · obtain ⟨rfl, h3⟩ := h2
        rw [if_pos ⟨rfl, h3⟩, if_pos ⟨List.mem_cons_self .., h3⟩]; rfl
      · rw [if_neg h2, if_neg]
        rintro ⟨h3, h4⟩
        rcases List.mem_cons.1 h3 with rfl | h3
        · exact h2 ⟨rfl, h4⟩
        · exact h1 ⟨h3, h4⟩
end Go.V
