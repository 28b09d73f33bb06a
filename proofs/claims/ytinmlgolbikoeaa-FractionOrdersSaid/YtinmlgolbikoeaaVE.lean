/- The calculus, fifth part: what 'flow' says holds in every order. -/
import Derived.Test.YtinmlgolbikoeaaVD
namespace Go.V
open Go Go.RowKit

def evl (g : Nat → Value) : Operand → Value
  | .tmp t => g t
  | .const v => v
  | .global a => .pointer (some ⟨a, 0, none⟩)
  | .func h => .func (.func h) #[] #[]
theorem fev_evl (f : Fr) : fev f = evl fun t => (fget f t).den := by
  funext x
  cases x with
  | const v => cases v <;> rfl
  | _ => rfl
theorem act_evl (a : Act) : a.eval = evl fun t => a.tmps.getD t undef := by
  funext x; cases x <;> rfl

section
variable (P : Program) (ops : Array Oper) (E : Rel) (Φ : Facts) (w0 : World) (f0 : Fr)

def lk (val : Nat → Value) : Nat → Nat → Value
  | 0, t => (fget f0 t).den
  | i + 1, t => if dstAt ops i = some t then val i else lk val i t
def wnt (g : Nat → Value) (o : Oper) : Bool :=
  match o.guard with
  | none => true
  | some (j, b) => match dstAt ops j with
    | none => false
    | some s => match g s with
      | .bool c => c == b
      | _ => false
def argsV (g : Nat → Value) (o : Oper) : List Value :=
  match o.op with
  | .call c => (c.args.map (evl g)).toList
  | _ => []
def LW (val : Nat → Value) (i : Nat) : Prop := ∃ o, ops[i]? = some o ∧ isRd o = false ∧ wnt ops (lk ops f0 val i) o = true
def FactAt (val : Nat → Value) (i : Nat) (w : World) : Prop := ∀ o, ops[i]? = some o → Φ i (argsV (lk ops f0 val i) o) (val i) w
def Vok (res val : Nat → Value) (j : Nat) : Prop := ∀ o, ops[j]? = some o →
  (wnt ops (lk ops f0 val j) o = false ∧ val j = undef) ∨
  (wnt ops (lk ops f0 val j) o = true ∧ isRd o = true ∧ ∀ w', (E w0 w' ∨ isPv o = true) → (execOp (evl (lk ops f0 val j)) o).run P w' = .ok (.value (val j)) w') ∨
  (wnt ops (lk ops f0 val j) o = true ∧ isRd o = false ∧ val j = res j ∧ ∀ w, E w0 w → (∀ i, i < j → Pre ops i j → LW ops f0 val i → FactAt ops Φ f0 val i w) →
    OpOk P (execOp (evl (lk ops f0 val j)) o) w fun v w' => (∃ x, v = (rsOf P o).val x) ∧ E w w' ∧ Φ j (argsV (lk ops f0 val j) o) v w')
def upd (val : Nat → Value) (k : Nat) (v : Value) : Nat → Value := fun j => if j = k then v else val j
structure CtxOk (k : Nat) (val : Nat → Value) (ctx : Ctx) : Prop where
  of : ∀ e ∈ ctx, e.1 < k ∧ LW ops f0 val e.1 ∧ (∃ o, ops[e.1]? = some o ∧ e.2.1 = argsV (lk ops f0 val e.1) o) ∧ e.2.2 = val e.1
  has : ∀ i, i < k → LW ops f0 val i → ∃ e ∈ ctx, e.1 = i
end

section
variable {P : Program} {ops : Array Oper} {E : Rel} {Φ : Facts} {w0 : World} {f0 : Fr}

theorem lk_congr {val val' : Nat → Value} : ∀ (j t : Nat), (∀ i, i < j → dstAt ops i = some t → val i = val' i) → lk ops f0 val j t = lk ops f0 val' j t
  | 0, _, _ => rfl
  | j + 1, t, h => by
    simp only [lk]
    split
    · rename_i hd; exact h j (Nat.lt_succ_self _) hd
    · exact lk_congr j t fun i hi => h i (Nat.lt_succ_of_lt hi)
theorem lk_upd {val : Nat → Value} {k j : Nat} {v : Value} (h : j ≤ k) : lk ops f0 (upd val k v) j = lk ops f0 val j := by
  funext t
  exact lk_congr j t fun i hi _ => by simp only [upd]; rw [if_neg (by omega)]
theorem LW_congr {val val' : Nat → Value} {i : Nat} (h : ∀ j, j < i → val j = val' j) (hl : LW ops f0 val i) : LW ops f0 val' i := by
  have : lk ops f0 val i = lk ops f0 val' i := funext fun t => lk_congr i t fun j hj _ => h j hj
  unfold LW at *
  rw [← this]; exact hl
theorem FactAt_congr {val val' : Nat → Value} {i : Nat} {w : World} (h : ∀ j, j ≤ i → val j = val' j) (hl : FactAt ops Φ f0 val i w) : FactAt ops Φ f0 val' i w := by
  have : lk ops f0 val i = lk ops f0 val' i := funext fun t => lk_congr i t fun j hj _ => h j (Nat.le_of_lt hj)
  unfold FactAt at *
  rw [← this, ← h i (Nat.le_refl _)]; exact hl
theorem Vok_congr {res val val' : Nat → Value} {j : Nat} (h : ∀ i, i ≤ j → val i = val' i) (hv : Vok P ops E Φ w0 f0 res val j) : Vok P ops E Φ w0 f0 res val' j := by
  have hlk : lk ops f0 val j = lk ops f0 val' j := funext fun t => lk_congr j t fun i hi _ => h i (Nat.le_of_lt hi)
  unfold Vok at *
  rw [← hlk, ← h j (Nat.le_refl _)]
  intro o ho
  rcases hv o ho with h1 | h1 | ⟨h1, h2, h3, h4⟩
  · exact .inl h1
  · exact .inr (.inl h1)
  · refine .inr (.inr ⟨h1, h2, h3, fun w hw hf => h4 w hw fun i hi hp hl => ?_⟩)
    exact FactAt_congr (fun k hk => (h k (by omega)).symm) (hf i hi hp (LW_congr (fun k hk => h k (by omega)) hl))
theorem CtxOk_upd {val : Nat → Value} {k : Nat} {v : Value} {ctx : Ctx} (h : CtxOk ops f0 k val ctx) : ∀ e ∈ ctx, e.1 < k ∧ LW ops f0 (upd val k v) e.1 ∧ (∃ o, ops[e.1]? = some o ∧ e.2.1 = argsV (lk ops f0 (upd val k v) e.1) o) ∧ e.2.2 = upd val k v e.1 := by
  intro e he
  obtain ⟨h1, h2, h3, h4⟩ := h.of e he
  refine ⟨h1, LW_congr (fun j hj => by simp only [upd]; rw [if_neg (by omega)]) h2, ?_, ?_⟩
  · rw [lk_upd (Nat.le_of_lt h1)]; exact h3
  · rw [h4]; simp only [upd]; rw [if_neg (by omega)]

theorem wnt_eq (a : Act) (o : Oper) : Region.wanted o (yielded ops a.tmps) = wnt ops (fun t => a.tmps.getD t undef) o := by
  unfold Region.wanted wnt
  cases o.guard with
  | none => rfl
  | some g =>
    obtain ⟨j, b⟩ := g
    simp only [yielded, dstAt]
    cases (ops[j]?).bind (·.dst) with
    | none => rfl
    | some s =>
      simp only [Option.bind_some, Array.getD_eq_getD_getElem?]
      cases a.tmps[s]? with
      | none => rfl
      | some v => cases v <;> first | rfl | (rename_i c; cases c <;> cases b <;> rfl)

theorem argsOf_eq (f : Fr) (o : Oper) : argsOf f o = argsV (fun t => (fget f t).den) o := by
  unfold argsOf argsV
  rw [fev_evl]
  split <;> simp_all

theorem facts_of {m : Nat} {w : World} : ∀ (ctx : Ctx), (∀ e ∈ ctx, m.testBit e.1 = true → Φ e.1 e.2.1 e.2.2 w) → facts Φ m ctx w
  | [], _ => trivial
  | e :: l, h => by
    have ih := facts_of l fun x hx => h x (List.mem_cons_of_mem _ hx)
    unfold facts
    cases hb : m.testBit e.1 with
    | true => exact ⟨h e (List.mem_cons_self ..) hb, ih⟩
    | false => exact ih
theorem factsAll_of {w : World} : ∀ (ctx : Ctx), (∀ e ∈ ctx, Φ e.1 e.2.1 e.2.2 w) → factsAll Φ ctx w
  | [], _ => trivial
  | e :: l, h => ⟨h e (List.mem_cons_self ..), factsAll_of l fun x hx => h x (List.mem_cons_of_mem _ hx)⟩

theorem fput_den {g : Fr} {d : Option Nat} {x : FV} {t : Nat} (h : ∀ s, d = some s → s < g.length) : (fget (fput g d x) t).den = if d = some t then x.den else (fget g t).den := by
  cases d with
  | none => simp [fput]
  | some s =>
    have := h s rfl
    simp only [fput, fget_fset, Option.some.injEq]
    by_cases hs : s = t
    · subst hs; simp [this]
    · simp [hs]

theorem flow_run {ms : List Nat} {all : List Oper} {res : Nat → Value} {fin : Fr → Ctx → Prop} (hres : ∀ i o, ops[i]? = some o → ∃ x, res i = (rsOf P o).val x)
    (hms : ∀ k i, (ms.getD k 0).testBit i = true → Pre ops i k) (hlen : ∀ i d, dstAt ops i = some d → d < f0.length) (hall : ∀ j : Nat, all[j]? = ops[j]?) :
    ∀ (l : List Oper) (k : Nat) (f : Fr) (ctx : Ctx) (val : Nat → Value), (∀ j, j < l.length → l[j]? = ops[k + j]?) → f.length = f0.length →
      (∀ t, (fget f t).den = lk ops f0 val k t) → (∀ j, j < k → Vok P ops E Φ w0 f0 res val j) → CtxOk ops f0 k val ctx → flow P E Φ ms all w0 l k f ctx fin →
      ∃ val' f' ctx', (∀ j, j < k + l.length → Vok P ops E Φ w0 f0 res val' j) ∧ f'.length = f0.length ∧ (∀ t, (fget f' t).den = lk ops f0 val' (k + l.length) t) ∧
        CtxOk ops f0 (k + l.length) val' ctx' ∧ fin f' ctx'
  | [], k, f, ctx, val, _, h1, h2, h3, h4, h => ⟨val, f, ctx, h3, h1, h2, h4, h⟩
  | o :: l, k, f, ctx, val, hl, h1, h2, h3, h4, h => by
    have ho : ops[k]? = some o := by simpa using (hl 0 (by simp)).symm
    have hdk : dstAt ops k = o.dst := by simp [dstAt, ho]
    have hl' : ∀ j, j < l.length → l[j]? = ops[k + 1 + j]? := fun j hj => by
      have := hl (j + 1) (by simp; omega)
      simpa [Nat.add_assoc, Nat.add_comm 1 j] using this
    have hk : k + (o :: l).length = k + 1 + l.length := by simp; omega
    rw [hk]
    have next : ∀ (g : Fr) (x : FV) (ctx' : Ctx), g.length = f0.length → (∀ t, (fget g t).den = lk ops f0 val k t) →
        Vok P ops E Φ w0 f0 res (upd val k x.den) k → CtxOk ops f0 (k + 1) (upd val k x.den) ctx' → flow P E Φ ms all w0 l (k + 1) (fput g o.dst x) ctx' fin →
        ∃ val' f' ctx', (∀ j, j < k + 1 + l.length → Vok P ops E Φ w0 f0 res val' j) ∧ f'.length = f0.length ∧ (∀ t, (fget f' t).den = lk ops f0 val' (k + 1 + l.length) t) ∧
          CtxOk ops f0 (k + 1 + l.length) val' ctx' ∧ fin f' ctx' := by
      intro g x ctx' g1 g2 hv hc hf
      refine flow_run hres hms hlen hall l (k + 1) _ ctx' (upd val k x.den) hl' ?_ ?_ ?_ hc hf
      · rw [← g1]; cases o.dst <;> simp [fput, length_fset]
      · intro t
        rw [fput_den (fun s hs => by rw [g1]; exact hlen k s (by rw [hdk, hs]))]
        simp only [lk, hdk, lk_upd (Nat.le_refl _), g2]
        simp [upd]
      · intro j hj
        by_cases hjk : j = k
        · subst hjk; exact hv
        · exact Vok_congr (fun i hi => by simp only [upd]; rw [if_neg (by omega)]) (h3 j (by omega))
    have hwn : ∀ g : Fr, (∀ t, (fget g t).den = lk ops f0 val k t) → evl (lk ops f0 val k) = fev g := fun g g2 => by
      rw [fev_evl]; congr 1; funext t; exact (g2 t).symm
    have skip : ∀ g : Fr, g.length = f0.length → (∀ t, (fget g t).den = lk ops f0 val k t) → wnt ops (lk ops f0 val k) o = false →
        force (fput g o.dst .un) (fun f' => flow P E Φ ms all w0 l (k + 1) f' ctx fin) →
        ∃ val' f' ctx', (∀ j, j < k + 1 + l.length → Vok P ops E Φ w0 f0 res val' j) ∧ f'.length = f0.length ∧ (∀ t, (fget f' t).den = lk ops f0 val' (k + 1 + l.length) t) ∧
          CtxOk ops f0 (k + 1 + l.length) val' ctx' ∧ fin f' ctx' := by
      intro g g1 g2 hw hf
      rw [force_eq] at hf
      refine next g .un ctx g1 g2 ?_ ?_ hf
      · intro o' ho'
        rw [ho] at ho'; cases ho'
        refine .inl ⟨by rw [lk_upd (Nat.le_refl _)]; exact hw, by simp [upd, FV.den]⟩
      · refine ⟨fun e he => ?_, fun i hi hlw => ?_⟩
        · obtain ⟨a, b⟩ := CtxOk_upd (v := FV.un.den) h4 e he
          exact ⟨by omega, b⟩
        · by_cases hik : i = k
          · subst hik
            obtain ⟨o', ho', _, hw'⟩ := hlw
            rw [ho] at ho'; cases ho'
            rw [lk_upd (Nat.le_refl _), hw] at hw'; cases hw'
          · exact h4.has i (by omega) (LW_congr (fun j hj => by simp only [upd]; rw [if_neg (by omega)]) hlw)
    have step : ∀ g : Fr, g.length = f0.length → (∀ t, (fget g t).den = lk ops f0 val k t) → wnt ops (lk ops f0 val k) o = true →
        (match isRd o with
          | true => vcRd P E o g w0 fun v => force (fput g o.dst v) fun f' => flow P E Φ ms all w0 l (k + 1) f' ctx fin
          | false => flc E w0 (facts Φ (ms.getD k 0) ctx)
              (fun w => vcOp P o g w fun v w' => (rsOf P o).un v.den fun x => E w w' ∧ Φ k (argsOf g o) ((rsOf P o).val x) w')
              (fun x => krn (fun v => force (fput g o.dst v) fun f' => flow P E Φ ms all w0 l (k + 1) f' ((k, argsOf g o, (rsOf P o).val x) :: ctx) fin) (rsOf P o) x)) →
        ∃ val' f' ctx', (∀ j, j < k + 1 + l.length → Vok P ops E Φ w0 f0 res val' j) ∧ f'.length = f0.length ∧ (∀ t, (fget f' t).den = lk ops f0 val' (k + 1 + l.length) t) ∧
          CtxOk ops f0 (k + 1 + l.length) val' ctx' ∧ fin f' ctx' := by
      intro g g1 g2 hw hf
      have hga : argsOf g o = argsV (lk ops f0 val k) o := by rw [argsOf_eq]; congr 1; funext t; exact g2 t
      split at hf
      · rename_i hrd
        obtain ⟨x, hx, hf⟩ := vcRd_spec hf
        rw [force_eq] at hf
        refine next g x ctx g1 g2 ?_ ?_ hf
        · intro o' ho'
          rw [ho] at ho'; cases ho'
          refine .inr (.inl ⟨by rw [lk_upd (Nat.le_refl _)]; exact hw, hrd, fun w' hw' => ?_⟩)
          rw [lk_upd (Nat.le_refl _), hwn g g2, hx w' hw']
          simp [upd]
        · refine ⟨fun e he => ?_, fun i hi hlw => ?_⟩
          · obtain ⟨a, b⟩ := CtxOk_upd (v := x.den) h4 e he
            exact ⟨by omega, b⟩
          · by_cases hik : i = k
            · subst hik
              obtain ⟨o', ho', hr', _⟩ := hlw
              rw [ho] at ho'; cases ho'
              rw [hrd] at hr'; cases hr'
            · exact h4.has i (by omega) (LW_congr (fun j hj => by simp only [upd]; rw [if_neg (by omega)]) hlw)
      · rename_i hrd
        obtain ⟨hob, hnx⟩ := hf
        obtain ⟨x, hx⟩ := hres k o ho
        obtain ⟨y, hy, hf⟩ := krn_spec (hnx x)
        rw [force_eq] at hf
        refine next g y _ g1 g2 ?_ ?_ hf
        · intro o' ho'
          rw [ho] at ho'; cases ho'
          refine .inr (.inr ⟨by rw [lk_upd (Nat.le_refl _)]; exact hw, hrd, by simp [upd, hy, hx], fun w hw0 hfs => ?_⟩)
          rw [lk_upd (Nat.le_refl _)]
          have hob := hob w hw0 (facts_of ctx fun e he hb => by
            obtain ⟨e1, e2, ⟨oe, he3, he4⟩, e5⟩ := h4.of e he
            have hF := hfs e.1 e1 (hms _ _ hb) (LW_congr (fun j hj => by simp only [upd]; rw [if_neg (by omega)]) e2)
            have := hF oe he3
            rw [lk_upd (Nat.le_of_lt e1)] at this
            rw [he4, e5]
            simpa [upd, Nat.ne_of_lt e1] using this)
          have := vcOp_spec hob
          rw [← hwn g g2] at this
          refine this.mono ?_
          rintro v w' ⟨q, rfl, hq⟩
          obtain ⟨x', hx', hq1, hq2⟩ := RS.un_spec hq
          refine ⟨⟨x', hx'⟩, hq1, ?_⟩
          rw [hx', ← hga]; exact hq2
        · refine ⟨fun e he => ?_, fun i hi hlw => ?_⟩
          · rcases List.mem_cons.1 he with rfl | he
            · refine ⟨Nat.lt_succ_self _, ⟨o, ho, hrd, by rw [lk_upd (Nat.le_refl _)]; exact hw⟩, ⟨o, ho, ?_⟩, ?_⟩
              · rw [lk_upd (Nat.le_refl _)]; exact hga
              · simp [upd, hy]
            · obtain ⟨a, b⟩ := CtxOk_upd (v := y.den) h4 e he
              exact ⟨by omega, b⟩
          · by_cases hik : i = k
            · exact ⟨_, List.mem_cons_self .., hik.symm⟩
            · obtain ⟨e, he, he'⟩ := h4.has i (by omega) (LW_congr (fun j hj => by simp only [upd]; rw [if_neg (by omega)]) hlw)
              exact ⟨e, List.mem_cons_of_mem _ he, he'⟩
    unfold flow at h
    dsimp only at h
    split at h
    · rename_i hgd
      exact step f h1 h2 (by simp [wnt, hgd]) h
    · rename_i j b hgd
      split at h
      · exact h.elim
      · rename_i s hs
        have hs' : dstAt ops j = some s := by unfold dstAt; rw [← hall]; exact hs
        split at h
        · rename_i c hc
          have hw : wnt ops (lk ops f0 val k) o = (c == b) := by
            simp only [wnt, hgd, hs', ← h2, hc, FV.den]
          split at h
          · rename_i he; exact step f h1 h2 (hw.trans he) h
          · rename_i he; exact skip f h1 h2 (hw.trans he) h
        · rename_i c hc
          have hw : wnt ops (lk ops f0 val k) o = (c == b) := by
            simp only [wnt, hgd, hs', ← h2, hc, FV.den]
          have hd : (FV.lit c).den = (fget f s).den := by rw [hc]; rfl
          have g1 : (fset f s (.lit c)).length = f0.length := by rw [length_fset, h1]
          have g2 : ∀ t, (fget (fset f s (.lit c)) t).den = lk ops f0 val k t := fun t => by rw [fset_same_den hd, h2]
          cases c with
          | true =>
            have h := h.1 rfl
            split at h
            · rename_i he; exact step _ g1 g2 (hw.trans he) h
            · rename_i he; exact skip _ g1 g2 (hw.trans he) h
          | false =>
            have h := h.2 rfl
            split at h
            · rename_i he; exact step _ g1 g2 (hw.trans he) h
            · rename_i he; exact skip _ g1 g2 (hw.trans he) h
        · rename_i hc
          exact skip f h1 h2 (by simp only [wnt, hgd, hs', ← h2, hc, FV.den, undef]) h
        · exact h.elim
end
end Go.V
