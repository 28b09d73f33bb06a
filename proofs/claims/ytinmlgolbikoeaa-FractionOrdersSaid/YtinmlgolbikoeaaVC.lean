/- The calculus, third part: a region in the text's order. -/
import Derived.Test.YtinmlgolbikoeaaVB
namespace Go.V
open Go Go.RowKit

def vcOps (P : Program) (all : List Oper) : List Oper → Fr → World → (Fr → World → Prop) → Prop
  | [], f, w, k => k f w
  | o :: os, f, w, k =>
    match o.guard with
    | none => vcOp P o f w fun v w' => force (fput f o.dst v) fun f' => vcOps P all os f' w' k
    | some (j, b) => match (all[j]?).bind (·.dst) with
      | none => False
      | some s => match fget f s with
        | .lit c => match c == b with
          | true => vcOp P o f w fun v w' => force (fput f o.dst v) fun f' => vcOps P all os f' w' k
          | false => force (fput f o.dst .un) fun f' => vcOps P all os f' w k
        | .val (.bool c) => br c
            (match true == b with
            | true => vcOp P o (fset f s (.lit true)) w fun v w' => force (fput (fset f s (.lit true)) o.dst v) fun f' => vcOps P all os f' w' k
            | false => force (fput (fset f s (.lit true)) o.dst .un) fun f' => vcOps P all os f' w k)
            (match false == b with
            | true => vcOp P o (fset f s (.lit false)) w fun v w' => force (fput (fset f s (.lit false)) o.dst v) fun f' => vcOps P all os f' w' k
            | false => force (fput (fset f s (.lit false)) o.dst .un) fun f' => vcOps P all os f' w k)
        | .un => force (fput f o.dst .un) fun f' => vcOps P all os f' w k
        | _ => False

def Agree (S : List Nat) (f f' : Fr) : Prop := f'.length = f.length ∧ ∀ t, t ∉ S → (fget f' t).den = (fget f t).den
theorem Agree.refl (S : List Nat) (f : Fr) : Agree S f f := ⟨rfl, fun _ _ => rfl⟩
theorem Agree.trans {S : List Nat} {f g h : Fr} (a : Agree S f g) (b : Agree S g h) : Agree S f h :=
  ⟨b.1.trans a.1, fun t ht => (b.2 t ht).trans (a.2 t ht)⟩
theorem Agree.mono {S S' : List Nat} {f g : Fr} (a : Agree S f g) (h : ∀ t ∈ S, t ∈ S') : Agree S' f g :=
  ⟨a.1, fun t ht => a.2 t fun h' => ht (h t h')⟩
theorem Agree.fput {f : Fr} {d : Option Nat} {v : FV} {S : List Nat} (h : ∀ t, d = some t → t ∈ S) : Agree S f (fput f d v) := by
  cases d with
  | none => exact .refl _ _
  | some d =>
    refine ⟨length_fset _ _ _, fun t ht => ?_⟩
    simp only [V.fput, fget_fset]
    rw [if_neg]
    rintro ⟨rfl, _⟩
    exact ht (h _ rfl)
theorem Agree.of_act {f g g' : Fr} {S : List Nat} (h : Agree S f g) (hl : g'.length = g.length) (hd : ∀ t, (fget g' t).den = (fget g t).den) : Agree S f g' :=
  ⟨hl.trans h.1, fun t ht => (hd t).trans (h.2 t ht)⟩

theorem fset_same_den {f : Fr} {s : Nat} {x : FV} (h : x.den = (fget f s).den) (t : Nat) : (fget (fset f s x) t).den = (fget f t).den := by
  rw [fget_fset]
  split
  · rename_i hs; obtain ⟨rfl, _⟩ := hs; exact h
  · rfl
theorem act_same {f : Fr} {s : Nat} {x : FV} (h : x.den = (fget f s).den) : act (fset f s x) = act f :=
  act_ext (length_fset _ _ _) (fset_same_den h)

theorem tmps_act (f : Fr) (s : Nat) : (match (act f).tmps[s]? with | some (.bool b) => some b | _ => none) = (match (fget f s).den with | .bool b => some b | _ => none) := by
  by_cases h : s < f.length
  · rw [get_act f s h]; generalize (fget f s).den = v; cases v <;> rfl
  · rw [Array.getElem?_eq_none (by rw [size_act]; omega), fget_out (by omega)]; rfl
theorem yielded_act {ops : Array Oper} {all : List Oper} (hall : ∀ j : Nat, all[j]? = ops[j]?) {f : Fr} {j s : Nat} (hs : (all[j]?).bind (·.dst) = some s) :
    yielded ops (act f).tmps j = (match (fget f s).den with | .bool b => some b | _ => none) := by
  rw [← tmps_act]
  unfold yielded
  rw [← hall, hs]
  rfl

def dsts (l : List Oper) : List Nat := l.filterMap (·.dst)
theorem mem_dsts {o : Oper} {os : List Oper} {t : Nat} (h : o.dst = some t) : t ∈ dsts (o :: os) := by simp [dsts, h]
theorem dsts_tail {o : Oper} {os : List Oper} {t : Nat} (h : t ∈ dsts os) : t ∈ dsts (o :: os) := by
  simp only [dsts, List.filterMap_cons] at *
  split
  · exact h
  · exact List.mem_cons_of_mem _ h

theorem vcOps_spec {P : Program} {ops : Array Oper} {all : List Oper} (hall : ∀ j : Nat, all[j]? = ops[j]?) {Q : Exit → Act → World → Prop} :
    ∀ (l : List Oper) (f : Fr) (w : World) (k : Fr → World → Prop), vcOps P all l f w k →
      (∀ f' w', k f' w' → Agree (dsts l) f f' → Q .normal (act f') w') → wpList P ops Q l (act f) w
  | [], f, w, k, h, hk => hk f w h (.refl _ _)
  | o :: os, f, w, k, h, hk => by
    have run : ∀ g : Fr, act g = act f → Agree (dsts (o :: os)) f g → Region.wanted o (yielded ops (act f).tmps) = true →
        vcOp P o g w (fun v w' => force (fput g o.dst v) fun f' => vcOps P all os f' w' k) → wpList P ops Q (o :: os) (act f) w := by
      intro g hg hag hw h
      unfold wpList
      rw [if_pos hw]
      refine .inl (OpOk.wp (k := _) (by rw [← hg, act_eval]; exact vcOp_spec h) ?_)
      rintro v w' ⟨x, rfl, hx⟩
      rw [force_eq] at hx
      rw [← hg, ← act_fput]
      refine vcOps_spec hall os _ w' k hx fun f' w' hk' hag' => hk f' w' hk' ?_
      exact hag.trans ((Agree.fput fun t ht => mem_dsts ht).trans (hag'.mono fun t ht => dsts_tail ht))
    have skip : ∀ g : Fr, act g = act f → Agree (dsts (o :: os)) f g → Region.wanted o (yielded ops (act f).tmps) = false →
        force (fput g o.dst .un) (fun f' => vcOps P all os f' w k) → wpList P ops Q (o :: os) (act f) w := by
      intro g hg hag hw h
      unfold wpList
      rw [if_neg (by rw [hw]; exact Bool.false_ne_true)]
      rw [force_eq] at h
      have := act_fput g o.dst .un
      rw [hg] at this
      rw [show undef = FV.den .un from rfl, ← this]
      refine vcOps_spec hall os _ w k h fun f' w' hk' hag' => hk f' w' hk' ?_
      exact hag.trans ((Agree.fput fun t ht => mem_dsts ht).trans (hag'.mono fun t ht => dsts_tail ht))
    unfold vcOps at h
    split at h
    · rename_i hgd
      exact run f rfl (.refl _ _) (by simp [Region.wanted, hgd]) h
    · rename_i j b hgd
      split at h
      · exact h.elim
      · rename_i s hs
        have hy := yielded_act hall (f := f) hs
        split at h
        · rename_i c hc
          have hw : Region.wanted o (yielded ops (act f).tmps) = (c == b) := by
            simp only [Region.wanted, hgd, hy, hc, FV.den]
            cases c <;> cases b <;> rfl
          split at h
          · rename_i he; exact run f rfl (.refl _ _) (hw.trans he) h
          · rename_i he; exact skip f rfl (.refl _ _) (hw.trans he) h
        · rename_i c hc
          have hw : Region.wanted o (yielded ops (act f).tmps) = (c == b) := by
            simp only [Region.wanted, hgd, hy, hc, FV.den]
            cases c <;> cases b <;> rfl
          have hd : (FV.lit c).den = (fget f s).den := by rw [hc]; rfl
          have hag : Agree (dsts (o :: os)) f (fset f s (.lit c)) := ⟨length_fset _ _ _, fun t _ => fset_same_den hd t⟩
          cases c with
          | true =>
            have h := h.1 rfl
            split at h
            · rename_i he; exact run _ (act_same hd) hag (hw.trans he) h
            · rename_i he; exact skip _ (act_same hd) hag (hw.trans he) h
          | false =>
            have h := h.2 rfl
            split at h
            · rename_i he; exact run _ (act_same hd) hag (hw.trans he) h
            · rename_i he; exact skip _ (act_same hd) hag (hw.trans he) h
        · rename_i hc
          have hw : Region.wanted o (yielded ops (act f).tmps) = false := by
            simp only [Region.wanted, hgd, hy, hc, FV.den, undef]
            rfl
          exact skip f rfl (.refl _ _) hw h
        · exact h.elim
end Go.V
