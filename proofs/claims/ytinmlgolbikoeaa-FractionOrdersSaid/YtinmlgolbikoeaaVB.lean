/- The calculus, second part: operations, regions in the text's order. -/
import Derived.Test.YtinmlgolbikoeaaVA
namespace Go.V
open Go Go.RowKit

def plainF (fn : Func) : Bool := fn.body.isSome && !(fn.name == "runtime.NumGoroutine")
def kr (k : FV → World → Prop) (w : World) : (r : RS) → r.T → Prop
  | .one v, x => kv (fun y => k y w) (v.val x)
  | .many l, x => k (.val (.tuple (Vval l x).toArray)) w
def vcOp (P : Program) (o : Oper) (f : Fr) (w : World) (k : FV → World → Prop) : Prop :=
  match isRd o with
  | true => vcRd P bel o f w fun v => k v w
  | false => match o.op with
    | .box e x => wr P (Instr.box e (fev f x)) (.one .addr) w fun a w' => k (.val (.pointer (some a))) w'
    | .alloc e => wr P (Instr.alloc e true (.tuple #[])) (.one .addr) w fun a w' => k (.val (.pointer (some a))) w'
    | .buildSlice t n ps => wr P (Instr.buildSlice t n (ps.map fun (i, x) => (i, fev f x))) (.one .slice) w fun v w' => k (.val (.slice v.1 v.2.1 v.2.2)) w'
    | .makeSlice t l c => wr P (Instr.makeSlice t (fev f l) (fev f c)) (.one .slice) w fun v w' => k (.val (.slice v.1 v.2.1 v.2.2)) w'
    | .makeMap t r => wr P (Instr.makeMap t (r.map (fev f))) (.one .map) w fun v w' => k (.val (.map v)) w'
    | .store t a x => wu P (Instr.storeAt t (fev f a) (fev f x)) w fun w' => k .un w'
    | .mapUpdate t m i x => wu P (Instr.mapUpdate t (fev f m) (fev f i) (fev f x)) w fun w' => k .un w'
    | .call c => match c.callee with
      | .builtin .append => wr P (Builtin.append_ c.argTypes o.type (c.args.map (fev f))) (.one .slice) w fun v w' => k (.val (.slice v.1 v.2.1 v.2.2)) w'
      | .builtin .copy => wr P (Builtin.copy_ c.argTypes o.type (c.args.map (fev f))) (.one (.int .i64)) w fun v w' => k (.val (.int .i64 v)) w'
      | .value g => match fev f g with
        | .func (.func h) first captured => match P.funcs[h]? with
          | some fn => match plainF fn with
            | true => call P h (first ++ c.args.map (fev f) ++ captured).toList (tyRS P o.type) w fun x w' => kr k w' _ x
            | false => False
          | none => False
        | _ => False
      | _ => False
    | _ => False

/-- what an operation does, without a frame -/
def OpOk (P : Program) (s : Sem Next) (w : World) (k : Value → World → Prop) : Prop :=
  match s.run P w with
  | .ok (.value v) w' => k v w'
  | .ok .skip w' => k undef w'
  | .ok (.enter f args) w' => Calls P f args w' fun e w'' => ∃ v, e = .returned v ∧ k v w''
  | _ => False
theorem OpOk.mono {P : Program} {s : Sem Next} {w : World} {k k' : Value → World → Prop} (h : OpOk P s w k) (hk : ∀ v w', k v w' → k' v w') : OpOk P s w k' := by
  unfold OpOk at *
  split at h
  · exact hk _ _ h
  · exact hk _ _ h
  · exact h.mono fun e w'' ⟨v, he, hv⟩ => ⟨v, he, hk _ _ hv⟩
  · exact h.elim
theorem OpOk.wp {P : Program} {o : Oper} {a : Act} {w : World} {k : Value → World → Prop} {K : Act → World → Prop} {Q : Exit → Act → World → Prop}
    (h : OpOk P (execOp a.eval o) w k) (hk : ∀ v w', k v w' → K (a.put o.dst v) w') : o.wp P a w K Q := by
  unfold Oper.wp
  unfold OpOk at h
  generalize (execOp a.eval o).run P w = r at *
  cases r with
  | ok n w' =>
    cases n <;> simp only [Oper.upon] at h ⊢ <;> first
      | exact hk _ _ h
      | exact h.elim
      | skip
    exact h.mono fun e w'' ⟨v, he, hv⟩ => by subst he; exact hk _ _ hv
  | halt x w' => exact h.elim

theorem args_eq (f : Fr) (c : Go.Call) : c.args.map (fev f) = c.args.map (fun x => fev f x) := rfl

theorem vcRd_spec {P : Program} {E : Rel} {o : Oper} {f : Fr} {w : World} {k : FV → Prop} (h : vcRd P E o f w k) :
    ∃ x : FV, (∀ w', (E w w' ∨ isPv o = true) → (execOp (fev f) o).run P w' = .ok (.value x.den) w') ∧ k x := by
  have rdk : ∀ {s : Sem Value} {v : VS} {g : FV → Prop}, rdE P E s v w (fun x => kv g (v.val x)) → isPv o = false → (execOp (fev f) o = do pure (Next.value (← s))) →
      ∃ x : FV, (∀ w', (E w w' ∨ isPv o = true) → (execOp (fev f) o).run P w' = .ok (.value x.den) w') ∧ g x := by
    rintro s v g ⟨x, hx, hk⟩ hp he
    obtain ⟨y, hy, hk⟩ := kv_spec hk
    refine ⟨y, fun w' hw => ?_, hk⟩
    rcases hw with hw | hw
    · rw [he, hy]; exact run_v (hx w' hw)
    · rw [hp] at hw; cases hw
  have rdpk : ∀ {s : Sem Value} {v : VS} {g : FV → Prop}, rdp P s v (fun x => kv g (v.val x)) → (execOp (fev f) o = do pure (Next.value (← s))) →
      ∃ x : FV, (∀ w', (E w w' ∨ isPv o = true) → (execOp (fev f) o).run P w' = .ok (.value x.den) w') ∧ g x := by
    rintro s v g ⟨x, hx, hk⟩ he
    obtain ⟨y, hy, hk⟩ := kv_spec hk
    exact ⟨y, fun w' _ => by rw [he, hy]; exact run_v (hx w'), hk⟩
  have p1 : ∀ {g : FV → Prop}, pure1 P (execOp (fev f) o) g → ∃ x : FV, (∀ w', (E w w' ∨ isPv o = true) → (execOp (fev f) o).run P w' = .ok (.value x.den) w') ∧ g x := by
    intro g h
    obtain ⟨x, h1, h2⟩ := pure1_spec h
    exact ⟨x, fun w' _ => h1 w', h2⟩
  have pz : ∀ {g : FV → Prop}, pureZ P (execOp (fev f) o) g → ∃ x : FV, (∀ w', (E w w' ∨ isPv o = true) → (execOp (fev f) o).run P w' = .ok (.value x.den) w') ∧ g x := by
    intro g h
    obtain ⟨x, h1, h2⟩ := pureZ_spec h
    exact ⟨x, fun w' _ => h1 w', h2⟩
  obtain ⟨dst, op, type, pos, after, guard⟩ := o
  unfold vcRd at h
  split at h
  · rename_i x he; dsimp only at he; subst he
    obtain ⟨y, hy, hk⟩ := kf_spec h
    exact ⟨y, fun w' _ => by rw [hy]; rfl, hk⟩
  · rename_i x he; dsimp only at he; subst he
    obtain ⟨y, hy, hk⟩ := kf_spec h
    exact ⟨y, fun w' _ => by rw [hy]; rfl, hk⟩
  · rename_i c a b he; dsimp only at he; subst he
    have run : ∀ (t : Bool) (y : FV), (fop f c).den = .bool t → y.den = (if t then fev f a else fev f b) → ∀ w', (execOp (fev f) ⟨dst, .pick c a b, type, pos, after, guard⟩).run P w' = .ok (.value y.den) w' := by
      intro t y hc hy w'
      have hc' : fev f c = .bool t := hc
      rw [hy]
      cases t <;> simp [execOp, hc', asBool]
    split at h
    · rename_i hc
      obtain ⟨y, hy, hk⟩ := kf_spec h
      exact ⟨y, fun w' _ => run true y (by rw [hc]; rfl) (by rw [hy]; rfl) w', hk⟩
    · rename_i hc
      obtain ⟨y, hy, hk⟩ := kf_spec h
      exact ⟨y, fun w' _ => run false y (by rw [hc]; rfl) (by rw [hy]; rfl) w', hk⟩
    · rename_i t hc
      cases t with
      | true =>
        obtain ⟨y, hy, hk⟩ := kf_spec (h.1 rfl)
        exact ⟨y, fun w' _ => run true y (by rw [hc]; rfl) (by rw [hy]; rfl) w', hk⟩
      | false =>
        obtain ⟨y, hy, hk⟩ := kf_spec (h.2 rfl)
        exact ⟨y, fun w' _ => run false y (by rw [hc]; rfl) (by rw [hy]; rfl) w', hk⟩
    · exact h.elim
  · rename_i t a he; dsimp only at he; subst he
    exact rdk h rfl rfl
  · rename_i x he; dsimp only at he; subst he
    split at h
    · rename_i a hc
      obtain ⟨ad, rfl, hk⟩ := h
      refine ⟨_, fun w' _ => ?_, hk⟩
      have hc' : fev f x = .pointer (some ad) := by unfold fev; rw [hc]; rfl
      simp [execOp, hc', FV.den]
    · exact p1 h
    · exact h.elim
  · rename_i op t x y t2 he; dsimp only at he; subst he
    have hb : ∀ op', execOp (fev f) ⟨dst, .binOp op' t x y t2, type, pos, after, guard⟩ = (do pure (Next.value (← cmpS op' t x y (fev f x) (fev f y)))) := fun _ => rfl
    split at h
    · exact rdpk h (hb _)
    · exact rdpk h (hb _)
    · exact rdpk h (hb _)
    · exact rdpk h (hb _)
    · split at h
      · exact p1 h
      · exact p1 h
      · exact rdk h rfl (hb _)
    · split at h
      · exact p1 h
      · exact p1 h
      · exact rdk h rfl (hb _)
    · split at h
      · exact rdpk h (hb _)
      · exact pz h
  · exact pz h
  · rename_i src dst' x he; dsimp only at he; subst he
    split at h
    · exact pz h
    · exact rdpk h rfl
  · rename_i t x lo hi mx he; dsimp only at he; subst he
    exact rdpk h rfl
  · rename_i t x i he; dsimp only at he; subst he
    obtain ⟨v, hx, hk⟩ := h
    exact ⟨.val (.pointer (some v)), fun w' _ => run_v (hx w'), hk⟩
  · rename_i t x i he; dsimp only at he; subst he
    exact rdk h rfl rfl
  · rename_i t x i c he; dsimp only at he; subst he
    split at h
    · exact rdk h rfl rfl
    · exact h.elim
  · exact p1 h
  · exact p1 h
  · exact p1 h
  · exact p1 h
  · exact p1 h
  · rename_i c he; dsimp only at he; subst he
    split at h
    · rename_i r hc hargs
      obtain ⟨v, hx, hk⟩ := h
      refine ⟨.val (.int .i64 v), fun w' hw => ?_, hk⟩
      have h1 : c.args.map (fev f) = #[Value.map r] := by
        rw [← Array.toArray_toList (xs := c.args.map (fev f)), hargs]
      have h2 : execOp (fev f) ⟨dst, .call c, type, pos, after, guard⟩ = (do pure (Next.value (← Builtin.len_ c.argTypes type #[.map r]))) := by
        simp only [execOp, resolve, hc, h1]; rfl
      rcases hw with hw | hw
      · rw [h2]; exact run_v (hx w' hw)
      · cases hw
    · exact p1 h
    · exact p1 h
    · exact pz h
    · exact pz h
    · exact h.elim
  · exact h.elim

theorem kr_spec {k : FV → World → Prop} {w : World} {r : RS} {x : r.T} (h : kr k w r x) : ∃ y : FV, y.den = r.val x ∧ k y w := by
  cases r with
  | one v => exact kv_spec h
  | many l => exact ⟨_, rfl, h⟩

theorem vcOp_spec {P : Program} {o : Oper} {f : Fr} {w : World} {k : FV → World → Prop} (h : vcOp P o f w k) :
    OpOk P (execOp (fev f) o) w fun v w' => ∃ x : FV, x.den = v ∧ k x w' := by
  unfold vcOp at h
  split at h
  · obtain ⟨x, hx, hk⟩ := vcRd_spec h
    unfold OpOk
    rw [hx w (.inl (bel.refl _))]
    exact ⟨x, rfl, hk⟩
  · have wrk : ∀ {s : Sem Value} {v : VS} {g : v.T → World → Prop}, wr P s v w g → (execOp (fev f) o = do pure (Next.value (← s))) →
      (∀ x w', g x w' → ∃ y : FV, y.den = v.val x ∧ k y w') → OpOk P (execOp (fev f) o) w fun v w' => ∃ x : FV, x.den = v ∧ k x w' := by
      rintro s v g ⟨x, w', hx, hk⟩ he hg
      unfold OpOk
      rw [he, run_v hx]
      exact hg _ _ hk
    have wuk : ∀ {s : Sem Unit}, wu P s w (fun w' => k .un w') → (execOp (fev f) o = do s; pure Next.skip) →
      OpOk P (execOp (fev f) o) w fun v w' => ∃ x : FV, x.den = v ∧ k x w' := by
      rintro s ⟨w', hx, hk⟩ he
      unfold OpOk
      rw [he, run_u hx]
      exact ⟨_, rfl, hk⟩
    obtain ⟨dst, op, type, pos, after, guard⟩ := o
    split at h
    · rename_i e x he; dsimp only at he; subst he
      exact wrk h rfl fun x w' h => ⟨_, rfl, h⟩
    · rename_i e he; dsimp only at he; subst he
      exact wrk h rfl fun x w' h => ⟨_, rfl, h⟩
    · rename_i t n ps he; dsimp only at he; subst he
      exact wrk h rfl fun x w' h => ⟨_, rfl, h⟩
    · rename_i t l c he; dsimp only at he; subst he
      exact wrk h rfl fun x w' h => ⟨_, rfl, h⟩
    · rename_i t r he; dsimp only at he; subst he
      exact wrk h rfl fun x w' h => ⟨_, rfl, h⟩
    · rename_i t a x he; dsimp only at he; subst he
      exact wuk h rfl
    · rename_i t m i x he; dsimp only at he; subst he
      exact wuk h rfl
    · rename_i c he; dsimp only at he; subst he
      split at h
      · rename_i hc
        exact wrk h (by simp only [execOp, resolve, hc]; rfl) fun x w' h => ⟨_, rfl, h⟩
      · rename_i hc
        exact wrk h (by simp only [execOp, resolve, hc]; rfl) fun x w' h => ⟨_, rfl, h⟩
      · rename_i g hc
        split at h
        · rename_i fn first captured hg
          split at h
          · rename_i fd hfd
            split at h
            · rename_i hp
              simp only [plainF, Bool.and_eq_true, Bool.not_eq_true'] at hp
              have hb : fd.body.isNone = false := by cases hb : fd.body <;> simp_all
              have hrun : (execOp (fev f) ⟨dst, .call c, type, pos, after, guard⟩).run P w = .ok (.enter fn (first ++ c.args.map (fev f) ++ captured)) w := by
                simp only [execOp, resolve, hc, hg, Deferred.ofValue, invoke, callFunc, Sem.run_bind, Sem.run_pure, Result.andThen_ok, run_program, hfd, hp.2, hb, Bool.false_eq_true, if_false]
              unfold OpOk
              rw [hrun]
              refine Calls.mono (R := fun e w' => ∃ x, e = .returned ((tyRS P type).val x) ∧ kr k w' _ x) ?_ ?_
              · unfold call at h; rw [Array.toArray_toList] at h; exact h
              · rintro e w' ⟨x, rfl, hk⟩
                obtain ⟨y, hy, hk⟩ := kr_spec hk
                exact ⟨_, rfl, y, hy, hk⟩
            · exact h.elim
          · exact h.elim
        · exact h.elim
      · exact h.elim
    · exact h.elim
end Go.V
