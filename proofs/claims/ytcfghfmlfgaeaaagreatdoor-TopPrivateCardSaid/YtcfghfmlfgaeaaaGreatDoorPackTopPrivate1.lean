import Derived.WalkKit
import Derived.WalkSpells
import Derived.WalkLawsBesides
import Derived.Lib.Hide
import Derived.StillTailTactics
import Derived.Deep.RegionHeld3
import Derived.Test.YtcfghfmlfgaeaaaGreatDoorProg
import Derived.KernelRfl

/- A calculus of verification conditions over the walk's predicates: 'vc' computes, for the code of a function, a proposition without a frame; 'vc_sound': it implies the walk's Code.wp. No program's text is in sight. -/






namespace Go.V
open Go Go.RowKit
abbrev Hd3 := Option Addr × Nat × Nat

/-! ### shapes -/
inductive Sh where
  | int (k : IntKind) | bool | str | slice | ptr | addr | map | any
def Sh.T : Sh → Type
  | .int _ => Int | .bool => Bool | .str => ByteArray | .slice => Option Addr × Nat × Nat | .ptr => Option Addr | .addr => Addr | .map => Option Nat | .any => Value
def Sh.val : (s : Sh) → s.T → Value
  | .int k, n => .int k n | .bool, b => .bool b | .str, s => .string s | .slice, x => .slice x.1 x.2.1 x.2.2
  | .ptr, a => .pointer a | .addr, a => .pointer (some a) | .map, r => .map r | .any, v => v
def LT : List Sh → Type
  | [] => Unit | s :: l => s.T × LT l
def Lval : (l : List Sh) → LT l → List Value
  | [], _ => [] | s :: l, x => s.val x.1 :: Lval l x.2
inductive VS where
  | one (s : Sh) | agg (l : List Sh)
def VS.T : VS → Type
  | .one s => s.T | .agg l => LT l
def VS.val : (v : VS) → v.T → Value
  | .one s, x => s.val x | .agg l, x => .agg (Lval l x).toArray
def VT : List VS → Type
  | [] => Unit | s :: l => s.T × VT l
def Vval : (l : List VS) → VT l → List Value
  | [], _ => [] | s :: l, x => s.val x.1 :: Vval l x.2
inductive RS where
  | one (v : VS) | many (l : List VS)
def RS.T : RS → Type
  | .one v => v.T | .many l => VT l
def RS.val : (r : RS) → r.T → Value
  | .one v, x => v.val x | .many l, x => .tuple (Vval l x).toArray

abbrev KR := Value → World → Prop
abbrev NV := Nat → Value
abbrev OA := Option Addr
abbrev jL (t : TypeId) (a : Addr) := Instr.loadAt t (.pointer (some a))
abbrev jS (t : TypeId) (a : Addr) (v : Value) := Instr.storeAt t (.pointer (some a)) v
abbrev jI (t : TypeId) (x : Hd3) (i : Int) := Instr.indexAt t (.slice x.1 x.2.1 x.2.2) (.int .i64 i)
abbrev jw (x : Hd3) : Value := .slice x.1 x.2.1 x.2.2
abbrev ji (n : Int) : Value := .int .i64 n
abbrev jp (a : Addr) : Value := .pointer (some a)
abbrev oA : VS := .one .addr
abbrev oS : VS := .one .slice
abbrev oI : VS := .one (.int .i64)
abbrev oB : VS := .one .bool
abbrev aF : VS := .agg [.int .i64, .int .i64]
abbrev aS : VS := .agg [.slice, .slice, .slice]
abbrev aN : VS := .agg [.bool, .slice, .slice]
abbrev aP : VS := .agg [.int .i64, .slice, .int .i64, .int .i64, .slice]
abbrev TF := Int × Int × Unit
abbrev TS := Hd3 × Hd3 × Hd3 × Unit
abbrev TP := Int × Hd3 × Int × Int × Hd3 × Unit

def Sh.dflt : (s : Sh) → s.T
  | .int _ => (0 : Int) | .bool => false | .str => ByteArray.empty | .slice => (none, 0, 0) | .ptr => none | .addr => ⟨0, 0, none⟩ | .map => none | .any => undef
def Ldflt : (l : List Sh) → LT l
  | [] => () | s :: l => (s.dflt, Ldflt l)
def VS.dflt : (v : VS) → v.T
  | .one s => s.dflt | .agg l => Ldflt l
def Vdflt : (l : List VS) → VT l
  | [] => () | s :: l => (s.dflt, Vdflt l)
def RS.dflt : (r : RS) → r.T
  | .one v => v.dflt | .many l => Vdflt l

def shOf : Value → Sh
  | .int k _ => .int k | .bool _ => .bool | .string _ => .str | .slice .. => .slice | .pointer _ => .ptr | .map _ => .map | _ => .any
def vsOf : Value → VS
  | .agg cs => .agg (cs.toList.map shOf) | v => .one (shOf v)
def rsOfV : Value → RS
  | .tuple vs => .many (vs.toList.map vsOf) | v => .one (vsOf v)
def zeroOf (P : Program) (t : TypeId) : Option Value := (P.info? t).bind (·.zero)
def tyVS (P : Program) (t : TypeId) : VS :=
  match zeroOf P t with
  | some z => vsOf z | none => .one .any
def tyRS (P : Program) (t : TypeId) : RS :=
  match zeroOf P t with
  | some z => rsOfV z | none => .one (.one .any)

def Sh.un : (s : Sh) → Value → (s.T → Prop) → Prop
  | .int k, .int k' n, p => match decEq k' k with
    | .isTrue _ => p n | .isFalse _ => False
  | .bool, .bool b, p => p b
  | .str, .string s, p => p s
  | .slice, .slice a n c, p => p (a, n, c)
  | .ptr, .pointer a, p => p a
  | .addr, .pointer (some a), p => p a
  | .map, .map r, p => p r
  | .any, v, p => p v
  | _, _, _ => False
def Lun : (l : List Sh) → List Value → (LT l → Prop) → Prop
  | [], [], p => p ()
  | s :: l, v :: vs, p => s.un v fun x => Lun l vs fun y => p (x, y)
  | _, _, _ => False
def VS.un : (v : VS) → Value → (v.T → Prop) → Prop
  | .one s, v, p => s.un v p
  | .agg l, .agg cs, p => Lun l cs.toList p
  | _, _, _ => False
def Vun : (l : List VS) → List Value → (VT l → Prop) → Prop
  | [], [], p => p ()
  | s :: l, v :: vs, p => s.un v fun x => Vun l vs fun y => p (x, y)
  | _, _, _ => False
def RS.un : (r : RS) → Value → (r.T → Prop) → Prop
  | .one v, x, p => v.un x p
  | .many l, .tuple cs, p => Vun l cs.toList p
  | _, _, _ => False

theorem Sh.un_spec {s : Sh} {v : Value} {p : s.T → Prop} (h : s.un v p) : ∃ x, v = s.val x ∧ p x := by
  cases s <;> cases v <;> simp only [Sh.un] at h <;> first
    | exact h.elim
    | exact ⟨_, rfl, h⟩
    | skip
  · rename_i k k' n
    cases hd : decEq k' k with
    | isTrue e => rw [hd] at h; subst e; exact ⟨_, rfl, h⟩
    | isFalse e => rw [hd] at h; exact h.elim
  · rename_i a
    cases a with
    | none => exact h.elim
    | some a => exact ⟨_, rfl, h⟩
theorem Lun_spec : ∀ {l : List Sh} {vs : List Value} {p : LT l → Prop}, Lun l vs p → ∃ x, vs = Lval l x ∧ p x
  | [], [], p, h => ⟨(), rfl, h⟩
  | [], _ :: _, p, h => by simp [Lun] at h
  | _ :: _, [], p, h => by simp [Lun] at h
  | s :: l, v :: vs, p, h => by
    obtain ⟨x, hx, h1⟩ := Sh.un_spec (show s.un v (fun x => Lun l vs fun y => p (x, y)) from h)
    obtain ⟨y, hy, h2⟩ := Lun_spec h1
    exact ⟨(x, y), by rw [hx, hy]; rfl, h2⟩
theorem VS.un_spec {s : VS} {v : Value} {p : s.T → Prop} (h : s.un v p) : ∃ x, v = s.val x ∧ p x := by
  cases s with
  | one s => exact Sh.un_spec h
  | agg l =>
    cases v <;> simp only [VS.un] at h <;> try exact h.elim
    obtain ⟨x, hx, h⟩ := Lun_spec h
    exact ⟨x, by simp only [VS.val]; rw [← hx], h⟩
theorem Vun_spec : ∀ {l : List VS} {vs : List Value} {p : VT l → Prop}, Vun l vs p → ∃ x, vs = Vval l x ∧ p x
  | [], [], p, h => ⟨(), rfl, h⟩
  | [], _ :: _, p, h => by simp [Vun] at h
  | _ :: _, [], p, h => by simp [Vun] at h
  | s :: l, v :: vs, p, h => by
    obtain ⟨x, hx, h1⟩ := VS.un_spec (show s.un v (fun x => Vun l vs fun y => p (x, y)) from h)
    obtain ⟨y, hy, h2⟩ := Vun_spec h1
    exact ⟨(x, y), by rw [hx, hy]; rfl, h2⟩
theorem RS.un_spec {s : RS} {v : Value} {p : s.T → Prop} (h : s.un v p) : ∃ x, v = s.val x ∧ p x := by
  cases s with
  | one s => exact VS.un_spec h
  | many l =>
    cases v <;> simp only [RS.un] at h <;> try exact h.elim
    obtain ⟨x, hx, h⟩ := Vun_spec h
    exact ⟨x, by simp only [RS.val]; rw [← hx], h⟩

/-! ### frames -/
inductive FV where
  | val (v : Value) | lit (b : Bool) | un
def FV.den : FV → Value
  | .val v => v | .lit b => .bool b | .un => undef
inductive Tr where
  | leaf | node (v : FV) (l r : Tr)
def Tr.root : Tr → FV
  | .leaf => .un | .node v _ _ => v
def Tr.left : Tr → Tr
  | .leaf => .leaf | .node _ l _ => l
def Tr.right : Tr → Tr
  | .leaf => .leaf | .node _ _ r => r
def tget : Nat → Tr → Nat → FV
  | 0, _, _ => .un
  | k + 1, t, i => match i with
    | 0 => t.root
    | j + 1 => match j % 2 with
      | 0 => tget k t.left (j / 2)
      | _ => tget k t.right (j / 2)
def tset : Nat → Tr → Nat → FV → Tr
  | 0, t, _, _ => t
  | k + 1, t, i, v => match i with
    | 0 => .node v t.left t.right
    | j + 1 => match j % 2 with
      | 0 => .node t.root (tset k t.left (j / 2) v) t.right
      | _ => .node t.root t.left (tset k t.right (j / 2) v)
theorem tget_tset : ∀ (k : Nat) (t : Tr) (i j : Nat) (v : FV), i + 1 < 2 ^ k → tget k (tset k t i v) j = if i = j then v else tget k t j
  | 0, t, i, j, v, h => by simp at h
  | k + 1, t, i, j, v, h => by
    have hk : 2 ^ (k + 1) = 2 * 2 ^ k := by rw [Nat.pow_succ, Nat.mul_comm]
    cases i with
    | zero => cases j with
      | zero => simp [tset, tget, Tr.root]
      | succ j => simp [tset, tget, Tr.left, Tr.right]
    | succ i =>
      have ih := tget_tset k
      have hb : i / 2 + 1 < 2 ^ k := by omega
      cases j with
      | zero =>
        simp only [tset, tget]
        rcases Nat.mod_two_eq_zero_or_one i with h2 | h2 <;> simp [h2, Tr.root]
      | succ j =>
        simp only [tset, tget]
        rcases Nat.mod_two_eq_zero_or_one i with h2 | h2 <;> rcases Nat.mod_two_eq_zero_or_one j with h3 | h3 <;> simp only [h2, h3, Tr.left, Tr.right]
        · rw [ih _ _ _ _ hb]
          by_cases h4 : i = j
          · subst h4; simp
          · rw [if_neg (by omega), if_neg (by omega)]
        · rw [if_neg (by omega)]
        · rw [if_neg (by omega)]
        · rw [ih _ _ _ _ hb]
          by_cases h4 : i = j
          · subst h4; simp
          · rw [if_neg (by omega), if_neg (by omega)]
structure Fr where
  length : Nat
  le : length ≤ 65534
  t : Tr
def fget (f : Fr) (i : Nat) : FV :=
  match Nat.ble (i + 1) f.length with
  | true => tget 16 f.t i
  | false => .un
def fset (f : Fr) (i : Nat) (v : FV) : Fr := ⟨f.length, f.le, tset 16 f.t i v⟩
def fput (f : Fr) (d : Option Nat) (v : FV) : Fr :=
  match d with
  | some d => fset f d v | none => f
def force (l : Fr) (k : Fr → Prop) : Prop := k l
theorem force_eq (l : Fr) (k : Fr → Prop) : force l k = k l := rfl
def fop (f : Fr) : Operand → FV
  | .tmp t => fget f t
  | .const (.bool b) => .lit b
  | .const v => .val v
  | .global g => .val (.pointer (some ⟨g, 0, none⟩))
  | .func g => .val (.func (.func g) #[] #[])
def fev (f : Fr) (x : Operand) : Value := (fop f x).den
def learn (f : Fr) (c : Operand) (b : Bool) : Fr :=
  match c with
  | .tmp s => fset f s (.lit b) | _ => f
def act (ds : List Deferred) (f : Fr) : Act := { tmps := ((List.range f.length).map fun i => (fget f i).den).toArray, defers := ds }

theorem fget_out {f : Fr} {t : Nat} (h : f.length ≤ t) : fget f t = .un := by
  unfold fget
  rw [show Nat.ble (t + 1) f.length = false by rw [← Bool.not_eq_true, Nat.ble_eq]; omega]
theorem fget_in {f : Fr} {t : Nat} (h : t < f.length) : fget f t = tget 16 f.t t := by
  unfold fget
  rw [show Nat.ble (t + 1) f.length = true by rw [Nat.ble_eq]; omega]
variable {ds : List Deferred}
theorem size_act (f : Fr) : (act ds f).tmps.size = f.length := by simp [act]
theorem get_act (f : Fr) (t : Nat) (h : t < f.length) : (act ds f).tmps[t]? = some (fget f t).den := by simp [act, h]
theorem den_fget (f : Fr) (t : Nat) : (act ds f).tmps.getD t undef = (fget f t).den := by
  by_cases h : t < f.length
  · rw [Array.getD_eq_getD_getElem?, get_act f t h]; rfl
  · rw [Array.getD_eq_getD_getElem?, Array.getElem?_eq_none (by rw [size_act]; omega), fget_out (by omega)]; rfl
theorem act_eval (f : Fr) : (act ds f).eval = fev f := by
  funext x
  cases x with
  | tmp t => exact den_fget f t
  | const v => cases v <;> rfl
  | global g => rfl
  | func g => rfl
theorem length_fset (f : Fr) (t : Nat) (v : FV) : (fset f t v).length = f.length := rfl
theorem fget_fset (f : Fr) (t s : Nat) (v : FV) : fget (fset f t v) s = if t = s ∧ t < f.length then v else fget f s := by
  by_cases h : s < f.length
  · rw [fget_in (f := fset f t v) h, fget_in h]
    have hl := f.le
    by_cases ht : t + 1 < 65536
    · rw [show (fset f t v).t = tset 16 f.t t v from rfl, tget_tset 16 f.t t s v ht]
      by_cases e : t = s
      · subst e; simp [h]
      · simp [e]
    · rw [if_neg (by omega)]
      have key : ∀ (k : Nat) (tr : Tr) (t s : Nat), s + 1 < 2 ^ k → 2 ^ k ≤ t + 1 → tget k (tset k tr t v) s = tget k tr s := by
        intro k
        induction k with
        | zero => intro tr t s h; simp at h
        | succ k ih =>
          intro tr t s hs ht
          have hk : 2 ^ (k + 1) = 2 * 2 ^ k := by rw [Nat.pow_succ, Nat.mul_comm]
          have hp : 0 < 2 ^ k := Nat.two_pow_pos k
          cases t with
          | zero => omega
          | succ t =>
            cases s with
            | zero =>
              simp only [tset, tget]
              rcases Nat.mod_two_eq_zero_or_one t with h2 | h2 <;> simp [h2, Tr.root]
            | succ s =>
              simp only [tset, tget]
              rcases Nat.mod_two_eq_zero_or_one t with h2 | h2 <;> rcases Nat.mod_two_eq_zero_or_one s with h3 | h3 <;> simp only [h2, h3, Tr.left, Tr.right]
              · exact ih _ _ _ (by omega) (by omega)
              · exact ih _ _ _ (by omega) (by omega)
      exact key 16 f.t t s (by show s + 1 < 65536; omega) (by show 65536 ≤ t + 1; omega)
  · rw [fget_out (f := fset f t v) (by rw [length_fset]; omega), fget_out (by omega), if_neg (by omega)]
theorem act_ext {f g : Fr} (hl : f.length = g.length) (h : ∀ t, (fget f t).den = (fget g t).den) : act ds f = act ds g := by
  unfold act
  rw [hl]
  congr 2
  exact List.map_congr_left fun t _ => h t
theorem act_fput (f : Fr) (d : Option Nat) (v : FV) : act ds (fput f d v) = (act ds f).put d v.den := by
  cases d with
  | none => rfl
  | some d =>
    show act ds (fset f d v) = { (act ds f) with tmps := (act ds f).tmps.setIfInBounds d v.den }
    unfold act
    congr 1
    refine Array.ext (by simp [length_fset]) fun i hi _ => ?_
    have hi' : i < f.length := by simpa [length_fset] using hi
    simp only [List.getElem_toArray, List.getElem_map, List.getElem_range, fget_fset]
    by_cases hd : d = i
    · subst hd; simp [hi']
    · simp [hd]
theorem act_learn {f : Fr} {c : Operand} {b : Bool} (h : fop f c = .val (.bool b)) : act ds (learn f c b) = act ds f := by
  cases c with
  | tmp s =>
    refine act_ext (length_fset _ _ _) fun t => ?_
    simp only [learn, fget_fset]
    split
    · rename_i hs; obtain ⟨rfl, _⟩ := hs
      have h' : fget f s = .val (.bool b) := h
      rw [h']; rfl
    · rfl
  | _ => rfl

abbrev Pm := Option (List PanicEntry → World → Prop)
def PnOf : Pm → List PanicEntry → World → Prop
  | none => fun _ _ => False
  | some R => R

/-! ### the conditions' words -/
def br (c : Bool) (A B : Prop) : Prop := (c = true → A) ∧ (c = false → B)
def z (n : Int) (k : Int → Prop) : Prop := k n
def nn (a : Option Addr) (k : Addr → Prop) : Prop := ∃ ad, a = some ad ∧ k ad
abbrev Rel := World → World → Prop
def bel : Rel := fun w w' => Below w.heap.size w w'
theorem bel.refl (w : World) : bel w w := Below.refl _ _
theorem bel.trans {a b c : World} (h : bel a b) (h' : bel b c) : bel a c := Below.trans h (Below.mono h' h.size)
def rdE (P : Program) (E : Rel) (s : Sem Value) (v : VS) (w : World) (k : v.T → Prop) : Prop :=
  ∃ x, (∀ w', E w w' → s.run P w' = .ok (v.val x) w') ∧ k x
def rd (P : Program) (s : Sem Value) (v : VS) (w : World) (k : v.T → Prop) : Prop := rdE P bel s v w k
def rdp (P : Program) (s : Sem Value) (v : VS) (k : v.T → Prop) : Prop :=
  ∃ x, (∀ w', s.run P w' = .ok (v.val x) w') ∧ k x
def rdM (P : Program) (E : Rel) (s : Sem Value) (l : List VS) (w : World) (k : VT l → Prop) : Prop :=
  ∃ x, (∀ w', E w w' → s.run P w' = .ok (.tuple (Vval l x).toArray) w') ∧ k x
def rdF (P : Program) (E : Rel) (s : Sem Value) (w : World) (k : Nat → Array Value → Array Value → Prop) : Prop :=
  ∃ h fi ca, (∀ w', E w w' → s.run P w' = .ok (.func (.func h) fi ca) w') ∧ k h fi ca
def wr (P : Program) (s : Sem Value) (v : VS) (w : World) (k : v.T → World → Prop) : Prop :=
  ∃ x w', s.run P w = .ok (v.val x) w' ∧ k x w'
def wu (P : Program) (s : Sem Unit) (w : World) (k : World → Prop) : Prop :=
  ∃ w', s.run P w = .ok () w' ∧ k w'
def call (P : Program) (f : FuncId) (args : List Value) (r : RS) (w : World) (k : r.T → World → Prop) : Prop :=
  Calls P f args.toArray w fun e w' => ∃ x, e = .returned (r.val x) ∧ k x w'
def callP (P : Program) (Pn : List PanicEntry → World → Prop) (f : FuncId) (args : List Value) (r : RS) (w : World) (k : r.T → World → Prop) : Prop :=
  Calls P f args.toArray w fun e w' => (∃ x, e = .returned (r.val x) ∧ k x w') ∨ ∃ ch, e = .panicked ch ∧ Pn ch w'
def loop {T : Type} (x0 : T) (w0 : World) (body : (T → World → Prop) → T → World → Prop) : Prop :=
  ∃ (I : T → World → Prop) (μ : T → World → Nat), I x0 w0 ∧ ∀ x w, I x w → body (fun x' w' => I x' w' ∧ μ x' w' < μ x w) x w
def join {T : Type} (K : T → World → Prop) (B : (T → World → Prop) → Prop) : Prop := B K
def drw (w : World) (k : World → Prop) : Prop := k { w with drawn := w.drawn + 1 }

/-! ### the value of an operation that looks at no memory -/
def pv (P : Program) {α : Type} : Sem α → Option α
  | .pure a => some a
  | .program k => pv P (k P)
  | .mark _ k => pv P k
  | _ => none
theorem pv_spec {P : Program} {α : Type} : ∀ {s : Sem α} {a : α}, pv P s = some a → ∀ w, s.run P w = .ok a w
  | .pure a, b, h, w => by simp only [pv] at h; cases h; rfl
  | .program k, b, h, w => by simp only [pv] at h; simp only [Sem.run]; exact pv_spec h w
  | .mark _ k, b, h, w => by simp only [pv] at h; simp only [Sem.run]; exact pv_spec h w
  | .load .., b, h, w | .store .., b, h, w | .new .., b, h, w | .shape .., b, h, w | .freeze .., b, h, w | .frozen .., b, h, w
  | .getObj .., b, h, w | .setObj .., b, h, w | .choose .., b, h, w | .sys .., b, h, w | .halt .., b, h, w => by simp [pv] at h

def kv (k : FV → Prop) : Value → Prop
  | .bool b => k (.val (.bool b))
  | .int i n => k (.val (.int i n))
  | .slice a n c => k (.val (.slice a n c))
  | .pointer a => k (.val (.pointer a))
  | .agg cs => k (.val (.agg cs))
  | .tuple cs => k (.val (.tuple cs))
  | .func f a b => k (.val (.func f a b))
  | .string s => k (.val (.string s))
  | .map r => k (.val (.map r))
  | v => k (.val v)
def kz (k : FV → Prop) : Value → Prop
  | .int i n => z n fun n => k (.val (.int i n))
  | v => kv k v
theorem kv_spec {k : FV → Prop} {v : Value} (h : kv k v) : ∃ x : FV, x.den = v ∧ k x := by
  cases v <;> exact ⟨_, rfl, h⟩
theorem kz_spec {k : FV → Prop} {v : Value} (h : kz k v) : ∃ x : FV, x.den = v ∧ k x := by
  cases v <;> first | exact kv_spec h | exact ⟨_, rfl, h⟩
def kf (k : FV → Prop) : FV → Prop
  | .val v => kv k v
  | .lit b => k (.lit b)
  | .un => k .un
theorem kf_spec {k : FV → Prop} {v : FV} (h : kf k v) : ∃ x : FV, x.den = v.den ∧ k x := by
  cases v <;> first | exact kv_spec h | exact ⟨_, rfl, h⟩
def pure1 (P : Program) (s : Sem Next) (k : FV → Prop) : Prop :=
  match pv P s with
  | some (.value v) => kv k v
  | _ => False
def pureZ (P : Program) (s : Sem Next) (k : FV → Prop) : Prop :=
  match pv P s with
  | some (.value v) => kz k v
  | _ => False

def isRd (o : Oper) : Bool :=
  match o.op with
  | .move _ | .assign _ | .pick .. | .load .. | .nilCheck _ | .binOp .. | .unOp .. | .convert .. | .makeFunc .. | .slice .. | .fieldAddr .. | .field ..
  | .indexAddr .. | .index .. | .lookup .. | .extract .. | .build .. => true
  | .call { callee := .builtin .len, .. } | .call { callee := .builtin .cap, .. } | .call { callee := .builtin .max, .. } | .call { callee := .builtin .min, .. } => true
  | _ => false
def iand (k : IntKind) (a b : Int) : Int := k.wrap (BitVec.ofInt k.bits a &&& BitVec.ofInt k.bits b).toNat
def isPv (o : Oper) : Bool :=
  match o.op with
  | .move _ | .assign _ | .pick .. | .nilCheck _ | .unOp .. | .convert .. | .makeFunc .. | .slice .. | .fieldAddr .. | .field .. | .indexAddr .. | .extract .. | .build .. => true
  | .binOp op _ _ _ _ => match op with
    | .eql | .neq => false | _ => true
  | _ => false
def cmpS (op : BinOp) (t : TypeId) (x y : Operand) (a b : Value) : Sem Value := do eqGuard op t x y a b; Go.binOp op t a b
def vcRd (P : Program) (E : Rel) (o : Oper) (f : Fr) (w : World) (k : FV → Prop) : Prop :=
  match o.op with
  | .move x | .assign x => kf k (fop f x)
  | .pick c a b => match fop f c with
    | .lit true => kf k (fop f a)
    | .lit false => kf k (fop f b)
    | .val (.bool c) => br c (kf k (fop f a)) (kf k (fop f b))
    | _ => False
  | .load t a => match tyVS P t with
    | .one .any => rdF P E (Instr.loadAt t (fev f a)) w fun h fi ca => k (.val (.func (.func h) fi ca))
    | s => rdE P E (Instr.loadAt t (fev f a)) s w fun x => kv k (s.val x)
  | .nilCheck x => match fop f x with
    | .val (.pointer a) => nn a fun ad => k (.val (.pointer (some ad)))
    | .val (.func _ _ _) => pure1 P (execOp (fev f) o) k
    | _ => False
  | .binOp op t x y _ => match op with
    | .quo | .rem | .shl | .shr => rdp P (cmpS op t x y (fev f x) (fev f y)) (tyVS P o.type) fun v => kv k ((tyVS P o.type).val v)
    | .eql | .neq => match fev f x, fev f y with
      | .int _ _, .int _ _ => pure1 P (execOp (fev f) o) k
      | .bool _, .bool _ => pure1 P (execOp (fev f) o) k
      | _, _ => rdE P E (cmpS op t x y (fev f x) (fev f y)) (tyVS P o.type) w fun v => kv k ((tyVS P o.type).val v)
    | _ => match fev f x with
      | .string _ => rdp P (cmpS op t x y (fev f x) (fev f y)) (tyVS P o.type) fun v => kv k ((tyVS P o.type).val v)
      | _ => pureZ P (execOp (fev f) o) k
  | .unOp .. => pureZ P (execOp (fev f) o) k
  | .convert src dst x => match fev f x with
    | .int _ _ => pureZ P (execOp (fev f) o) k
    | v => rdp P (Go.convert src dst v) (tyVS P o.type) fun v => kv k ((tyVS P o.type).val v)
  | .slice t x lo hi mx => rdp P (Instr.sliceAt t (fev f x) (lo.map (fev f)) (hi.map (fev f)) (mx.map (fev f))) (tyVS P o.type) fun v => kv k ((tyVS P o.type).val v)
  | .indexAddr t x i => rdp P (Instr.indexAt t (fev f x) (fev f i)) (.one .addr) fun v => k (.val (.pointer (some v)))
  | .index t x i => rdE P E (Instr.index t (fev f x) (fev f i)) (tyVS P o.type) w fun v => kv k ((tyVS P o.type).val v)
  | .lookup t x i c => match tyRS P o.type with
    | .one v => rdE P E (Instr.lookup t (fev f x) (fev f i) c) v w fun x => kv k (v.val x)
    | .many l => rdM P E (Instr.lookup t (fev f x) (fev f i) c) l w fun x => k (.val (.tuple (Vval l x).toArray))
  | .fieldAddr .. | .field .. | .extract .. | .makeFunc .. | .build .. => pure1 P (execOp (fev f) o) k
  | .call c => match c.callee, (c.args.map (fev f)).toList with
    | .builtin .len, [.map r] => rdE P E (Builtin.len_ c.argTypes o.type #[.map r]) (.one (.int .i64)) w fun v => k (.val (.int .i64 v))
    | .builtin .len, _ => pure1 P (execOp (fev f) o) k
    | .builtin .cap, _ => pure1 P (execOp (fev f) o) k
    | .builtin .max, _ => pureZ P (execOp (fev f) o) k
    | .builtin .min, _ => pureZ P (execOp (fev f) o) k
    | _, _ => False
  | _ => False

theorem pure1_spec {P : Program} {s : Sem Next} {k : FV → Prop} (h : pure1 P s k) : ∃ x : FV, (∀ w, s.run P w = .ok (.value x.den) w) ∧ k x := by
  unfold pure1 at h
  split at h
  · rename_i v hv
    obtain ⟨x, rfl, hk⟩ := kv_spec h
    exact ⟨x, fun w => pv_spec hv w, hk⟩
  · exact h.elim
theorem pureZ_spec {P : Program} {s : Sem Next} {k : FV → Prop} (h : pureZ P s k) : ∃ x : FV, (∀ w, s.run P w = .ok (.value x.den) w) ∧ k x := by
  unfold pureZ at h
  split at h
  · rename_i v hv
    obtain ⟨x, rfl, hk⟩ := kz_spec h
    exact ⟨x, fun w => pv_spec hv w, hk⟩
  · exact h.elim

theorem run_v {P : Program} {s : Sem Value} {w w' : World} {v : Value} (h : s.run P w = .ok v w') :
    (do pure (Next.value (← s)) : Sem Next).run P w = .ok (.value v) w' := by
  simp only [Sem.run_bind, h]; rfl
theorem run_u {P : Program} {s : Sem Unit} {w w' : World} (h : s.run P w = .ok () w') :
    (do s; pure Next.skip : Sem Next).run P w = .ok .skip w' := by
  simp only [Sem.run_bind, h]; rfl
end Go.V

/- The calculus, second part: operations, regions in the text's order. -/

namespace Go.V
open Go Go.RowKit

def plainF (fn : Func) : Bool := fn.body.isSome && !(fn.name == "runtime.NumGoroutine")
def kr (k : FV → World → Prop) (w : World) : (r : RS) → r.T → Prop
  | .one v, x => kv (fun y => k y w) (v.val x)
  | .many l, x => k (.val (.tuple (Vval l x).toArray)) w
def extX (P : Program) (h : Nat) (args : List Value) (r : RS) (w : World) (k : r.T → World → Prop) : Prop :=
  ∃ x w', (callFunc h args.toArray).run P w = .ok (.value (r.val x)) w' ∧ k x w'
def callX (P : Program) (h : Nat) (args : List Value) (r : RS) (w : World) (k : r.T → World → Prop) : Prop :=
  match P.funcs[h]? with
  | some fn => match plainF fn with
    | true => call P h args r w k
    | false => extX P h args r w k
  | none => False
def callXP (P : Program) (Pn : List PanicEntry → World → Prop) (h : Nat) (args : List Value) (r : RS) (w : World) (k : r.T → World → Prop) : Prop :=
  match P.funcs[h]? with
  | some fn => match plainF fn with
    | true => callP P Pn h args r w k
    | false => False
  | none => False
def callY (P : Program) (pn : Pm) (h : Nat) (args : List Value) (r : RS) (w : World) (k : r.T → World → Prop) : Prop :=
  match pn with
  | none => callX P h args r w k
  | some Pn => callXP P Pn h args r w k
def callV (P : Program) (pn : Pm) (v : Value) (args : Array Value) (r : RS) (w : World) (k : r.T → World → Prop) : Prop :=
  match v with
  | .func (.func h) first captured => callY P pn h (first ++ args ++ captured).toList r w k
  | _ => False
def vcOp (P : Program) (pn : Pm) (o : Oper) (f : Fr) (w : World) (k : FV → World → Prop) : Prop :=
  match isRd o with
  | true => vcRd P bel o f w fun v => k v w
  | false => match o.op with
    | .box e x => wr P (Instr.box e (fev f x)) (.one .addr) w fun a w' => k (.val (.pointer (some a))) w'
    | .alloc e => wr P (Instr.alloc e true (.tuple #[])) (.one .addr) w fun a w' => k (.val (.pointer (some a))) w'
    | .buildSlice t n ps => wr P (Instr.buildSlice t n (ps.map fun (i, x) => (i, fev f x))) (.one .slice) w fun v w' => k (.val (.slice v.1 v.2.1 v.2.2)) w'
    | .makeSlice t l c => wr P (Instr.makeSlice t (fev f l) (fev f c)) (.one .slice) w fun v w' => k (.val (.slice v.1 v.2.1 v.2.2)) w'
    | .makeMap t r => wr P (Instr.makeMap t (r.map (fev f))) (.one .map) w fun v w' => k (.val (.map v)) w'
    | .store t a x => wu P (Instr.storeAt t (fev f a) (fev f x)) w fun w' => k .un w'
    | .mapUpdate t m i x => wu P (Instr.mapUpdate t (fev f m) (fev f i) (fev f x)) w fun w' => k .un w'
    | .call c => match c.callee with
      | .builtin .append => wr P (Builtin.append_ c.argTypes o.type (c.args.map (fev f))) (.one .slice) w fun v w' => k (.val (.slice v.1 v.2.1 v.2.2)) w'
      | .builtin .copy => wr P (Builtin.copy_ c.argTypes o.type (c.args.map (fev f))) (.one (.int .i64)) w fun v w' => k (.val (.int .i64 v)) w'
      | .builtin .clear => wr P (Builtin.clear_ c.argTypes o.type (c.args.map (fev f))) (.one .any) w fun v w' => k (.val v) w'
      | .builtin .delete => wr P (Builtin.delete_ c.argTypes o.type (c.args.map (fev f))) (.one .any) w fun v w' => k (.val v) w'
      | .value g => callV P pn (fev f g) (c.args.map (fev f)) (tyRS P o.type) w fun x w' => kr k w' _ x
      | _ => False
    | _ => False

def OpOk (P : Program) (pn : Pm) (s : Sem Next) (w : World) (k : Value → World → Prop) : Prop :=
  match s.run P w with
  | .ok (.value v) w' => k v w'
  | .ok .skip w' => k undef w'
  | .ok (.enter f args) w' => Calls P f args w' fun e w'' => (∃ v, e = .returned v ∧ k v w'') ∨ ∃ ch, e = .panicked ch ∧ PnOf pn ch w''
  | _ => False
theorem OpOk.mono {P : Program} {pn : Pm} {s : Sem Next} {w : World} {k k' : Value → World → Prop} (h : OpOk P pn s w k) (hk : ∀ v w', k v w' → k' v w') : OpOk P pn s w k' := by
  unfold OpOk at *
  split at h
  · exact hk _ _ h
  · exact hk _ _ h
  · exact h.mono fun e w'' q => q.imp (fun ⟨v, he, hv⟩ => ⟨v, he, hk _ _ hv⟩) id
  · exact h.elim
theorem OpOk.wp {P : Program} {pn : Pm} {o : Oper} {a : Act} {w : World} {k : Value → World → Prop} {K : Act → World → Prop} {Q : Exit → Act → World → Prop}
    (hP : ∀ ch w', PnOf pn ch w' → Q (.panic ch) a w') (h : OpOk P pn (execOp a.eval o) w k) (hk : ∀ v w', k v w' → K (a.put o.dst v) w') : o.wp P a w K Q := by
  unfold Oper.wp
  unfold OpOk at h
  generalize (execOp a.eval o).run P w = r at *
  cases r with
  | ok n w' =>
    cases n <;> simp only [Oper.upon] at h ⊢ <;> first
      | exact hk _ _ h
      | exact h.elim
      | skip
    exact h.mono fun e w'' q => by
      rcases q with ⟨v, he, hv⟩ | ⟨ch, he, hv⟩
      · subst he; exact hk _ _ hv
      · subst he; exact hP _ _ hv
  | halt x w' => exact h.elim

theorem vcRd_spec {P : Program} {E : Rel} {o : Oper} {f : Fr} {w : World} {k : FV → Prop} (h : vcRd P E o f w k) :
    ∃ x : FV, (∀ w', (E w w' ∨ isPv o = true) → (execOp (fev f) o).run P w' = .ok (.value x.den) w') ∧ k x := by
  have rdk : ∀ {s : Sem Value} {v : VS} {g : FV → Prop}, rdE P E s v w (fun x => kv g (v.val x)) → isPv o = false → (execOp (fev f) o = do pure (Next.value (← s))) →
      ∃ x : FV, (∀ w', (E w w' ∨ isPv o = true) → (execOp (fev f) o).run P w' = .ok (.value x.den) w') ∧ g x := by
    rintro s v g ⟨x, hx, hk⟩ hp he
    obtain ⟨y, hy, hk⟩ := kv_spec hk
    refine ⟨y, fun w' hw => ?_, hk⟩
    rcases hw with hw | hw
    · rw [he, hy]; exact run_v (hx w' hw)
    · rw [hp] at hw; cases hw
  have rdpk : ∀ {s : Sem Value} {v : VS} {g : FV → Prop}, rdp P s v (fun x => kv g (v.val x)) → (execOp (fev f) o = do pure (Next.value (← s))) →
      ∃ x : FV, (∀ w', (E w w' ∨ isPv o = true) → (execOp (fev f) o).run P w' = .ok (.value x.den) w') ∧ g x := by
    rintro s v g ⟨x, hx, hk⟩ he
    obtain ⟨y, hy, hk⟩ := kv_spec hk
    exact ⟨y, fun w' _ => by rw [he, hy]; exact run_v (hx w'), hk⟩
  have p1 : ∀ {g : FV → Prop}, pure1 P (execOp (fev f) o) g → ∃ x : FV, (∀ w', (E w w' ∨ isPv o = true) → (execOp (fev f) o).run P w' = .ok (.value x.den) w') ∧ g x := by
    intro g h
    obtain ⟨x, h1, h2⟩ := pure1_spec h
    exact ⟨x, fun w' _ => h1 w', h2⟩
  have pz : ∀ {g : FV → Prop}, pureZ P (execOp (fev f) o) g → ∃ x : FV, (∀ w', (E w w' ∨ isPv o = true) → (execOp (fev f) o).run P w' = .ok (.value x.den) w') ∧ g x := by
    intro g h
    obtain ⟨x, h1, h2⟩ := pureZ_spec h
    exact ⟨x, fun w' _ => h1 w', h2⟩
  obtain ⟨dst, op, type, pos, after, guard⟩ := o
  unfold vcRd at h
  split at h
  · rename_i x he; dsimp only at he; subst he
    obtain ⟨y, hy, hk⟩ := kf_spec h
    exact ⟨y, fun w' _ => by rw [hy]; rfl, hk⟩
  · rename_i x he; dsimp only at he; subst he
    obtain ⟨y, hy, hk⟩ := kf_spec h
    exact ⟨y, fun w' _ => by rw [hy]; rfl, hk⟩
  · rename_i c a b he; dsimp only at he; subst he
    have run : ∀ (t : Bool) (y : FV), (fop f c).den = .bool t → y.den = (if t then fev f a else fev f b) → ∀ w', (execOp (fev f) ⟨dst, .pick c a b, type, pos, after, guard⟩).run P w' = .ok (.value y.den) w' := by
      intro t y hc hy w'
      have hc' : fev f c = .bool t := hc
      rw [hy]
      cases t <;> simp [execOp, hc', asBool]
    split at h
    · rename_i hc
      obtain ⟨y, hy, hk⟩ := kf_spec h
      exact ⟨y, fun w' _ => run true y (by rw [hc]; rfl) (by rw [hy]; rfl) w', hk⟩
    · rename_i hc
      obtain ⟨y, hy, hk⟩ := kf_spec h
      exact ⟨y, fun w' _ => run false y (by rw [hc]; rfl) (by rw [hy]; rfl) w', hk⟩
    · rename_i t hc
      cases t with
      | true =>
        obtain ⟨y, hy, hk⟩ := kf_spec (h.1 rfl)
        exact ⟨y, fun w' _ => run true y (by rw [hc]; rfl) (by rw [hy]; rfl) w', hk⟩
      | false =>
        obtain ⟨y, hy, hk⟩ := kf_spec (h.2 rfl)
        exact ⟨y, fun w' _ => run false y (by rw [hc]; rfl) (by rw [hy]; rfl) w', hk⟩
    · exact h.elim
  · rename_i t a he; dsimp only at he; subst he
    split at h
    · obtain ⟨g, fi, ca, hx, hk⟩ := h
      refine ⟨.val (.func (.func g) fi ca), fun w' hw => ?_, hk⟩
      rcases hw with hw | hw
      · exact run_v (hx w' hw)
      · cases hw
    · exact rdk h rfl rfl
  · rename_i x he; dsimp only at he; subst he
    split at h
    · rename_i a hc
      obtain ⟨ad, rfl, hk⟩ := h
      refine ⟨_, fun w' _ => ?_, hk⟩
      have hc' : fev f x = .pointer (some ad) := by unfold fev; rw [hc]; rfl
      simp [execOp, hc', FV.den]
    · exact p1 h
    · exact h.elim
  · rename_i op t x y t2 he; dsimp only at he; subst he
    have hb : ∀ op', execOp (fev f) ⟨dst, .binOp op' t x y t2, type, pos, after, guard⟩ = (do pure (Next.value (← cmpS op' t x y (fev f x) (fev f y)))) := fun _ => rfl
    split at h
    · exact rdpk h (hb _)
    · exact rdpk h (hb _)
    · exact rdpk h (hb _)
    · exact rdpk h (hb _)
    · split at h
      · exact p1 h
      · exact p1 h
      · exact rdk h rfl (hb _)
    · split at h
      · exact p1 h
      · exact p1 h
      · exact rdk h rfl (hb _)
    · split at h
      · exact rdpk h (hb _)
      · exact pz h
  · exact pz h
  · rename_i src dst' x he; dsimp only at he; subst he
    split at h
    · exact pz h
    · exact rdpk h rfl
  · rename_i t x lo hi mx he; dsimp only at he; subst he
    exact rdpk h rfl
  · rename_i t x i he; dsimp only at he; subst he
    obtain ⟨v, hx, hk⟩ := h
    exact ⟨.val (.pointer (some v)), fun w' _ => run_v (hx w'), hk⟩
  · rename_i t x i he; dsimp only at he; subst he
    exact rdk h rfl rfl
  · rename_i t x i c he; dsimp only at he; subst he
    split at h
    · exact rdk h rfl rfl
    · obtain ⟨v, hx, hk⟩ := h
      refine ⟨_, fun w' hw => ?_, hk⟩
      rcases hw with hw | hw
      · exact run_v (hx w' hw)
      · cases hw
  · exact p1 h
  · exact p1 h
  · exact p1 h
  · exact p1 h
  · exact p1 h
  · rename_i c he; dsimp only at he; subst he
    split at h
    · rename_i r hc hargs
      obtain ⟨v, hx, hk⟩ := h
      refine ⟨.val (.int .i64 v), fun w' hw => ?_, hk⟩
      have h1 : c.args.map (fev f) = #[Value.map r] := by
        rw [← Array.toArray_toList (xs := c.args.map (fev f)), hargs]
      have h2 : execOp (fev f) ⟨dst, .call c, type, pos, after, guard⟩ = (do pure (Next.value (← Builtin.len_ c.argTypes type #[.map r]))) := by
        simp only [execOp, resolve, hc, h1]; rfl
      rcases hw with hw | hw
      · rw [h2]; exact run_v (hx w' hw)
      · cases hw
    · exact p1 h
    · exact p1 h
    · exact pz h
    · exact pz h
    · exact h.elim
  · exact h.elim

theorem kr_spec {k : FV → World → Prop} {w : World} {r : RS} {x : r.T} (h : kr k w r x) : ∃ y : FV, y.den = r.val x ∧ k y w := by
  cases r with
  | one v => exact kv_spec h
  | many l => exact ⟨_, rfl, h⟩

theorem vcOp_spec {P : Program} {pn : Pm} {o : Oper} {f : Fr} {w : World} {k : FV → World → Prop} (h : vcOp P pn o f w k) :
    OpOk P pn (execOp (fev f) o) w fun v w' => ∃ x : FV, x.den = v ∧ k x w' := by
  unfold vcOp at h
  split at h
  · obtain ⟨x, hx, hk⟩ := vcRd_spec h
    unfold OpOk
    rw [hx w (.inl (bel.refl _))]
    exact ⟨x, rfl, hk⟩
  · have wrk : ∀ {s : Sem Value} {v : VS} {g : v.T → World → Prop}, wr P s v w g → (execOp (fev f) o = do pure (Next.value (← s))) →
      (∀ x w', g x w' → ∃ y : FV, y.den = v.val x ∧ k y w') → OpOk P pn (execOp (fev f) o) w fun v w' => ∃ x : FV, x.den = v ∧ k x w' := by
      rintro s v g ⟨x, w', hx, hk⟩ he hg
      unfold OpOk
      rw [he, run_v hx]
      exact hg _ _ hk
    have wuk : ∀ {s : Sem Unit}, wu P s w (fun w' => k .un w') → (execOp (fev f) o = do s; pure Next.skip) →
      OpOk P pn (execOp (fev f) o) w fun v w' => ∃ x : FV, x.den = v ∧ k x w' := by
      rintro s ⟨w', hx, hk⟩ he
      unfold OpOk
      rw [he, run_u hx]
      exact ⟨_, rfl, hk⟩
    obtain ⟨dst, op, type, pos, after, guard⟩ := o
    split at h
    · rename_i e x he; dsimp only at he; subst he
      exact wrk h rfl fun x w' h => ⟨_, rfl, h⟩
    · rename_i e he; dsimp only at he; subst he
      exact wrk h rfl fun x w' h => ⟨_, rfl, h⟩
    · rename_i t n ps he; dsimp only at he; subst he
      exact wrk h rfl fun x w' h => ⟨_, rfl, h⟩
    · rename_i t l c he; dsimp only at he; subst he
      exact wrk h rfl fun x w' h => ⟨_, rfl, h⟩
    · rename_i t r he; dsimp only at he; subst he
      exact wrk h rfl fun x w' h => ⟨_, rfl, h⟩
    · rename_i t a x he; dsimp only at he; subst he
      exact wuk h rfl
    · rename_i t m i x he; dsimp only at he; subst he
      exact wuk h rfl
    · rename_i c he; dsimp only at he; subst he
      split at h
      · rename_i hc
        exact wrk h (by simp only [execOp, resolve, hc]; rfl) fun x w' h => ⟨_, rfl, h⟩
      · rename_i hc
        exact wrk h (by simp only [execOp, resolve, hc]; rfl) fun x w' h => ⟨_, rfl, h⟩
      · rename_i hc
        exact wrk h (by simp only [execOp, resolve, hc]; rfl) fun x w' h => ⟨_, rfl, h⟩
      · rename_i hc
        exact wrk h (by simp only [execOp, resolve, hc]; rfl) fun x w' h => ⟨_, rfl, h⟩
      · rename_i g hc
        unfold callV at h
        split at h
        · rename_i fn first captured hg
          have fin : ∀ (fd : Func), P.funcs[fn]? = some fd → plainF fd = true → (Calls P fn (first ++ c.args.map (fev f) ++ captured) w fun e w' => (∃ x, e = .returned ((tyRS P type).val x) ∧ kr k w' _ x) ∨ ∃ ch, e = .panicked ch ∧ PnOf pn ch w') →
              OpOk P pn (execOp (fev f) ⟨dst, .call c, type, pos, after, guard⟩) w fun v w' => ∃ x : FV, x.den = v ∧ k x w' := by
            intro fd hfd hp h
            simp only [plainF, Bool.and_eq_true, Bool.not_eq_true'] at hp
            have hb : fd.body.isNone = false := by cases hb : fd.body <;> simp_all
            have hrun : (execOp (fev f) ⟨dst, .call c, type, pos, after, guard⟩).run P w = .ok (.enter fn (first ++ c.args.map (fev f) ++ captured)) w := by
              simp only [execOp, resolve, hc, hg, Deferred.ofValue, invoke, callFunc, Sem.run_bind, Sem.run_pure, Result.andThen_ok, run_program, hfd, hp.2, hb, Bool.false_eq_true, if_false]
            unfold OpOk
            rw [hrun]
            refine h.mono ?_
            rintro e w' (⟨x, rfl, hk⟩ | q)
            · obtain ⟨y, hy, hk⟩ := kr_spec hk
              exact .inl ⟨_, rfl, y, hy, hk⟩
            · exact .inr q
          unfold callY at h
          split at h
          · unfold callX at h
            split at h
            · rename_i fd hfd
              split at h
              · rename_i hp
                refine fin fd hfd hp ?_
                unfold call at h; rw [Array.toArray_toList] at h
                exact h.mono fun e w' ⟨x, he, hk⟩ => .inl ⟨x, he, hk⟩
              · obtain ⟨x, w', hr, hk⟩ := h
                obtain ⟨y, hy, hk⟩ := kr_spec hk
                rw [Array.toArray_toList] at hr
                have hrun : (execOp (fev f) ⟨dst, .call c, type, pos, after, guard⟩).run P w = .ok (.value ((tyRS P type).val x)) w' := by
                  simp only [execOp, resolve, hc, hg, Deferred.ofValue, invoke, Sem.run_bind, Sem.run_pure, Result.andThen_ok]
                  exact hr
                unfold OpOk
                rw [hrun]
                exact ⟨y, hy, hk⟩
            · exact h.elim
          · unfold callXP at h
            split at h
            · rename_i fd hfd
              split at h
              · rename_i hp
                refine fin fd hfd hp ?_
                unfold callP at h; rw [Array.toArray_toList] at h
                exact h
              · exact h.elim
            · exact h.elim
        · exact h.elim
      · exact h.elim
    · exact h.elim
end Go.V

/- The calculus, third part: a region in the text's order. -/

namespace Go.V
open Go Go.RowKit
variable {ds : List Deferred} {pn : Pm}

def vcOps (P : Program) (pn : Pm) (all : List Oper) : List Oper → Fr → World → (Fr → World → Prop) → Prop
  | [], f, w, k => k f w
  | o :: os, f, w, k =>
    match o.guard with
    | none => vcOp P pn o f w fun v w' => force (fput f o.dst v) fun f' => vcOps P pn all os f' w' k
    | some (j, b) => match (all[j]?).bind (·.dst) with
      | none => False
      | some s => match fget f s with
        | .lit c => match c == b with
          | true => vcOp P pn o f w fun v w' => force (fput f o.dst v) fun f' => vcOps P pn all os f' w' k
          | false => force (fput f o.dst .un) fun f' => vcOps P pn all os f' w k
        | .val (.bool c) => br c
            (match true == b with
            | true => vcOp P pn o (fset f s (.lit true)) w fun v w' => force (fput (fset f s (.lit true)) o.dst v) fun f' => vcOps P pn all os f' w' k
            | false => force (fput (fset f s (.lit true)) o.dst .un) fun f' => vcOps P pn all os f' w k)
            (match false == b with
            | true => vcOp P pn o (fset f s (.lit false)) w fun v w' => force (fput (fset f s (.lit false)) o.dst v) fun f' => vcOps P pn all os f' w' k
            | false => force (fput (fset f s (.lit false)) o.dst .un) fun f' => vcOps P pn all os f' w k)
        | .un => force (fput f o.dst .un) fun f' => vcOps P pn all os f' w k
        | _ => False

def Agree (S : List Nat) (f f' : Fr) : Prop := f'.length = f.length ∧ ∀ t, t ∉ S → (fget f' t).den = (fget f t).den
theorem Agree.refl (S : List Nat) (f : Fr) : Agree S f f := ⟨rfl, fun _ _ => rfl⟩
theorem Agree.trans {S : List Nat} {f g h : Fr} (a : Agree S f g) (b : Agree S g h) : Agree S f h :=
  ⟨b.1.trans a.1, fun t ht => (b.2 t ht).trans (a.2 t ht)⟩
theorem Agree.mono {S S' : List Nat} {f g : Fr} (a : Agree S f g) (h : ∀ t ∈ S, t ∈ S') : Agree S' f g :=
  ⟨a.1, fun t ht => a.2 t fun h' => ht (h t h')⟩
theorem Agree.fput {f : Fr} {d : Option Nat} {v : FV} {S : List Nat} (h : ∀ t, d = some t → t ∈ S) : Agree S f (fput f d v) := by
  cases d with
  | none => exact .refl _ _
  | some d =>
    refine ⟨length_fset _ _ _, fun t ht => ?_⟩
    simp only [V.fput, fget_fset]
    rw [if_neg]
    rintro ⟨rfl, _⟩
    exact ht (h _ rfl)
theorem fset_same_den {f : Fr} {s : Nat} {x : FV} (h : x.den = (fget f s).den) (t : Nat) : (fget (fset f s x) t).den = (fget f t).den := by
  rw [fget_fset]
  split
  · rename_i hs; obtain ⟨rfl, _⟩ := hs; exact h
  · rfl
theorem act_same {f : Fr} {s : Nat} {x : FV} (h : x.den = (fget f s).den) : act ds (fset f s x) = act ds f :=
  act_ext (length_fset _ _ _) (fset_same_den h)

theorem tmps_act (f : Fr) (s : Nat) : (match (act ds f).tmps[s]? with | some (.bool b) => some b | _ => none) = (match (fget f s).den with | .bool b => some b | _ => none) := by
  by_cases h : s < f.length
  · rw [get_act f s h]; generalize (fget f s).den = v; cases v <;> rfl
  · rw [Array.getElem?_eq_none (by rw [size_act]; omega), fget_out (by omega)]; rfl
theorem yielded_act {ops : Array Oper} {all : List Oper} (hall : ∀ j : Nat, all[j]? = ops[j]?) {f : Fr} {j s : Nat} (hs : (all[j]?).bind (·.dst) = some s) :
    yielded ops (act ds f).tmps j = (match (fget f s).den with | .bool b => some b | _ => none) := by
  rw [← tmps_act]
  unfold yielded
  rw [← hall, hs]
  rfl

def dsts (l : List Oper) : List Nat := l.filterMap (·.dst)
theorem mem_dsts {o : Oper} {os : List Oper} {t : Nat} (h : o.dst = some t) : t ∈ dsts (o :: os) := by simp [dsts, h]
theorem dsts_tail {o : Oper} {os : List Oper} {t : Nat} (h : t ∈ dsts os) : t ∈ dsts (o :: os) := by
  simp only [dsts, List.filterMap_cons] at *
  split
  · exact h
  · exact List.mem_cons_of_mem _ h

def PanAt (ds : List Deferred) (S : List Nat) (f0 : Fr) (a : Act) : Prop := a.defers = ds ∧ ∀ t, t ∉ S → a.tmps.getD t undef = (fget f0 t).den
theorem PanAt.act (S : List Nat) (f : Fr) : PanAt ds S f (act ds f) := ⟨rfl, fun t _ => den_fget f t⟩
theorem PanAt.back {S S' : List Nat} {f g : Fr} {a : Act} (h : Agree S f g) (hs : ∀ t ∈ S', t ∈ S) (p : PanAt ds S' g a) : PanAt ds S f a := ⟨p.1, fun t ht => (p.2 t fun q => ht (hs t q)).trans (h.2 t ht)⟩
theorem PanAt.put {S : List Nat} {f : Fr} {a : Act} {d : Option Nat} {v : Value} (hd : ∀ t, d = some t → t ∈ S) (p : PanAt ds S f (a.put d v)) : PanAt ds S f a := by
  cases d with
  | none => exact p
  | some s =>
    refine ⟨p.1, fun t ht => ?_⟩
    have hne : s ≠ t := fun e => ht (e ▸ hd s rfl)
    rw [← p.2 t ht]
    simp [Act.put, hne]
theorem dst_mem {ops : Array Oper} {i : Nat} {o : Oper} {t : Nat} (ho : ops[i]? = some o) (h : o.dst = some t) : t ∈ dsts ops.toList :=
  List.mem_filterMap.2 ⟨o, by simpa using Array.mem_of_getElem? ho, h⟩

theorem vcOps_spec {P : Program} {ops : Array Oper} {all : List Oper} (hall : ∀ j : Nat, all[j]? = ops[j]?) {Q : Exit → Act → World → Prop} :
    ∀ (l : List Oper) (f : Fr) (w : World) (k : Fr → World → Prop), vcOps P pn all l f w k → (∀ ch (a : Act) w, PanAt ds (dsts l) f a → PnOf pn ch w → Q (.panic ch) a w) →
      (∀ f' w', k f' w' → Agree (dsts l) f f' → Q .normal (act ds f') w') → wpList P ops Q l (act ds f) w
  | [], f, w, k, h, _, hk => hk f w h (.refl _ _)
  | o :: os, f, w, k, h, hP, hk => by
    have run : ∀ g : Fr, act ds g = act ds f → Agree (dsts (o :: os)) f g → Region.wanted o (yielded ops (act ds f).tmps) = true →
        vcOp P pn o g w (fun v w' => force (fput g o.dst v) fun f' => vcOps P pn all os f' w' k) → wpList P ops Q (o :: os) (act ds f) w := by
      intro g hg hag hw h
      unfold wpList
      rw [if_pos hw]
      refine .inl (OpOk.wp (k := _) (fun ch w' q => hP ch _ w' (PanAt.act _ _) q) (by rw [← hg, act_eval]; exact vcOp_spec h) ?_)
      rintro v w' ⟨x, rfl, hx⟩
      rw [force_eq] at hx
      rw [← hg, ← act_fput]
      refine vcOps_spec hall os _ w' k hx (fun ch a w q => hP ch a w (PanAt.back (hag.trans (Agree.fput fun t ht => mem_dsts ht)) (fun t ht => dsts_tail ht) q)) fun f' w' hk' hag' => hk f' w' hk' ?_
      exact hag.trans ((Agree.fput fun t ht => mem_dsts ht).trans (hag'.mono fun t ht => dsts_tail ht))
    have skip : ∀ g : Fr, act ds g = act ds f → Agree (dsts (o :: os)) f g → Region.wanted o (yielded ops (act ds f).tmps) = false →
        force (fput g o.dst .un) (fun f' => vcOps P pn all os f' w k) → wpList P ops Q (o :: os) (act ds f) w := by
      intro g hg hag hw h
      unfold wpList
      rw [if_neg (by rw [hw]; exact Bool.false_ne_true)]
      rw [force_eq] at h
      have := act_fput (ds := ds) g o.dst .un
      rw [hg] at this
      rw [show undef = FV.den .un from rfl, ← this]
      refine vcOps_spec hall os _ w k h (fun ch a w q => hP ch a w (PanAt.back (hag.trans (Agree.fput fun t ht => mem_dsts ht)) (fun t ht => dsts_tail ht) q)) fun f' w' hk' hag' => hk f' w' hk' ?_
      exact hag.trans ((Agree.fput fun t ht => mem_dsts ht).trans (hag'.mono fun t ht => dsts_tail ht))
    unfold vcOps at h
    split at h
    · rename_i hgd
      exact run f rfl (.refl _ _) (by simp [Region.wanted, hgd]) h
    · rename_i j b hgd
      split at h
      · exact h.elim
      · rename_i s hs
        have hy := yielded_act (ds := ds) hall (f := f) hs
        split at h
        · rename_i c hc
          have hw : Region.wanted o (yielded ops (act ds f).tmps) = (c == b) := by
            simp only [Region.wanted, hgd, hy, hc, FV.den]
            cases c <;> cases b <;> rfl
          split at h
          · rename_i he; exact run f rfl (.refl _ _) (hw.trans he) h
          · rename_i he; exact skip f rfl (.refl _ _) (hw.trans he) h
        · rename_i c hc
          have hw : Region.wanted o (yielded ops (act ds f).tmps) = (c == b) := by
            simp only [Region.wanted, hgd, hy, hc, FV.den]
            cases c <;> cases b <;> rfl
          have hd : (FV.lit c).den = (fget f s).den := by rw [hc]; rfl
          have hag : Agree (dsts (o :: os)) f (fset f s (.lit c)) := ⟨length_fset _ _ _, fun t _ => fset_same_den hd t⟩
          cases c with
          | true =>
            have h := h.1 rfl
            split at h
            · rename_i he; exact run _ (act_same hd) hag (hw.trans he) h
            · rename_i he; exact skip _ (act_same hd) hag (hw.trans he) h
          | false =>
            have h := h.2 rfl
            split at h
            · rename_i he; exact run _ (act_same hd) hag (hw.trans he) h
            · rename_i he; exact skip _ (act_same hd) hag (hw.trans he) h
        · rename_i hc
          have hw : Region.wanted o (yielded ops (act ds f).tmps) = false := by
            simp only [Region.wanted, hgd, hy, hc, FV.den, undef]
            rfl
          exact skip f rfl (.refl _ _) hw h
        · exact h.elim
end Go.V

/- The calculus, fourth part: a region that draws its order, by one obligation for each operation that makes memory or calls ('flow'). -/

namespace Go.V
open Go Go.RowKit

abbrev Facts := Nat → List Value → Value → World → Prop
abbrev Ctx := List (Nat × List Value × Value)
def argsOf (f : Fr) (o : Oper) : List Value :=
  match o.op with
  | .call c => (c.args.map (fev f)).toList
  | .box _ x => [fev f x]
  | .buildSlice _ _ ps => (ps.map fun p => fev f p.2).toList
  | _ => []
def rsOf (P : Program) (o : Oper) : RS :=
  match o.op with
  | .box .. | .alloc .. => .one (.one .addr)
  | _ => tyRS P o.type
def facts (Φ : Facts) (m : Nat) : Ctx → World → Prop
  | [], _ => True
  | e :: l, w => match m.testBit e.1 with
    | true => Φ e.1 e.2.1 e.2.2 w ∧ facts Φ m l w
    | false => facts Φ m l w
def factsAll (Φ : Facts) : Ctx → World → Prop
  | [], _ => True
  | e :: l, w => Φ e.1 e.2.1 e.2.2 w ∧ factsAll Φ l w
def flc (E : Rel) (w0 : World) (pre : World → Prop) (ob : World → Prop) {T : Type} (nxt : T → Prop) : Prop := (∀ w, E w0 w → pre w → ob w) ∧ ∀ x, nxt x
def flend (E : Rel) (w0 : World) (pre : World → Prop) (k : World → Prop) : Prop := ∀ w, E w0 w → pre w → k w
def flEx (B : Facts → Prop) : Prop := ∃ Φ : Facts, (∀ i ags v w w', Φ i ags v w → bel w w' → Φ i ags v w') ∧ B Φ
def flExE (B : Rel → Facts → Prop) : Prop := ∃ (E : Rel) (Φ : Facts), (∀ w, E w w) ∧ (∀ a b c, E a b → E b c → E a c) ∧ (∀ i ags v w w', Φ i ags v w → E w w' → Φ i ags v w') ∧ B E Φ
def setD (D : Nat → Bool) (j : Nat) : Nat → Bool := fun i => D i || i == j
def flcC (St : (Nat → Bool) → World → Prop) (j : Nat) (E : Rel) (w0 : World) (pre : (Nat → Bool) → World → Prop) (ob : (Nat → Bool) → World → Prop) {T : Type} (nxt : T → Prop) : Prop := (∀ D w, D j = false → E w0 w → St D w → pre D w → ob D w) ∧ ∀ x, nxt x
def flendC (St : (Nat → Bool) → World → Prop) (L : List Nat) (E : Rel) (w0 : World) (pre : (Nat → Bool) → World → Prop) (k : World → Prop) : Prop := ∀ w, E w0 w → St (fun i => L.contains i) w → pre (fun i => L.contains i) w → k w
def flExC (w0 : World) (B : Rel → (Nat → Rel) → ((Nat → Bool) → World → Prop) → ((Nat → Bool) → Facts) → Prop) : Prop := ∃ (E : Rel) (G : Nat → Rel) (St : (Nat → Bool) → World → Prop) (Φ : (Nat → Bool) → Facts), (∀ w, E w w) ∧ (∀ a b c, E a b → E b c → E a c) ∧ (∀ i j D ags v w w', i ≠ j → D i = true → D j = false → Φ D i ags v w → E w w' → G j w w' → Φ (setD D j) i ags v w') ∧ St (fun _ => false) w0 ∧ B E G St Φ
def krn (k : FV → Prop) : (r : RS) → r.T → Prop
  | .one v, x => kv k (v.val x)
  | .many l, x => k (.val (.tuple (Vval l x).toArray))
theorem krn_spec {k : FV → Prop} {r : RS} {x : r.T} (h : krn k r x) : ∃ y : FV, y.den = r.val x ∧ k y := by
  cases r with
  | one v => exact kv_spec h
  | many l => exact ⟨_, rfl, h⟩
def ER (St : (Nat → Bool) → World → Prop) (L : List Nat) (E : Rel) : Rel := fun w w' => E w w' ∧ ∃ D : Nat → Bool, (∀ j ∈ L, D j = false) ∧ St D w'
def late (ms : List Nat) (all : List Oper) (i : Nat) : List Nat := (List.range ms.length).filter fun j => (ms.getD j 0).testBit i && (all[j]?).any fun o => !isRd o
def rdRel (cm : Bool) (St : (Nat → Bool) → World → Prop) (ms : List Nat) (all : List Oper) (i : Nat) (E : Rel) : Rel :=
  match cm with
  | false => E
  | true => ER St (late ms all i) E
def known : List Nat → (Nat → Bool) → Prop → Prop
  | [], _, p => p
  | k :: l, D, p => D k = true → known l D p
theorem known_spec : ∀ {l : List Nat} {D : Nat → Bool} {p : Prop}, known l D p → (∀ k ∈ l, D k = true) → p
  | [], _, _, h, _ => h
  | k :: _, _, _, h, hl => known_spec (h (hl k (List.mem_cons_self ..))) fun j hj => hl j (List.mem_cons_of_mem _ hj)
def doneL (kb : Bool) (m : Nat) (ctx : Ctx) : List Nat :=
  match kb with
  | true => (ctx.filter fun e => m.testBit e.1).map fun e => e.1
  | false => []
theorem doneL_mem {kb : Bool} {m : Nat} {ctx : Ctx} {k : Nat} (h : k ∈ doneL kb m ctx) : ∃ e ∈ ctx, e.1 = k ∧ m.testBit k = true := by
  cases kb with
  | false => cases h
  | true =>
    obtain ⟨e, he, rfl⟩ := List.mem_map.1 h
    rw [List.mem_filter] at he
    exact ⟨e, he.1, rfl, he.2⟩
def flq (P : Program) (pn : Pm) (E : Rel) (Φ : (Nat → Bool) → Facts) (cm : Bool) (kn : List Nat) (G : Nat → Rel) (St : (Nat → Bool) → World → Prop) (w0 : World) (pre : (Nat → Bool) → World → Prop) (o : Oper) (f : Fr) (i : Nat) (nxt : (rsOf P o).T → Prop) : Prop :=
  match cm with
  | false => flc E w0 (pre fun _ => false) (fun w => vcOp P pn o f w fun v w' => (rsOf P o).un v.den fun x => E w w' ∧ Φ (fun _ => false) i (argsOf f o) ((rsOf P o).val x) w') nxt
  | true => flcC St i E w0 pre (fun D w => known kn D (vcOp P pn o f w fun v w' => (rsOf P o).un v.den fun x => E w w' ∧ G i w w' ∧ St (setD D i) w' ∧ Φ (setD D i) i (argsOf f o) ((rsOf P o).val x) w')) nxt
def flow (P : Program) (pn : Pm) (E : Rel) (Φ : (Nat → Bool) → Facts) (cm kb : Bool) (G : Nat → Rel) (St : (Nat → Bool) → World → Prop) (ms : List Nat) (all : List Oper) (w0 : World) : List Oper → Nat → Fr → Ctx → (Fr → Ctx → Prop) → Prop
  | [], _, f, ctx, fin => fin f ctx
  | o :: os, i, f, ctx, fin =>
    let step (f : Fr) : Prop := match isRd o with
      | true => vcRd P (rdRel cm St ms all i E) o f w0 fun v => force (fput f o.dst v) fun f' => flow P pn E Φ cm kb G St ms all w0 os (i + 1) f' ctx fin
      | false => flq P pn E Φ cm (doneL kb (ms.getD i 0) ctx) G St w0 (fun D => facts (Φ D) (ms.getD i 0) ctx) o f i
          (fun x => krn (fun v => force (fput f o.dst v) fun f' => flow P pn E Φ cm kb G St ms all w0 os (i + 1) f' ((i, argsOf f o, (rsOf P o).val x) :: ctx) fin) (rsOf P o) x)
    let skip (f : Fr) : Prop := force (fput f o.dst .un) fun f' => flow P pn E Φ cm kb G St ms all w0 os (i + 1) f' ctx fin
    match o.guard with
    | none => step f
    | some (j, b) => match (all[j]?).bind (·.dst) with
      | none => False
      | some s => match fget f s with
        | .lit c => match c == b with
          | true => step f
          | false => skip f
        | .val (.bool c) => br c
            (match true == b with
            | true => step (fset f s (.lit true))
            | false => skip (fset f s (.lit true)))
            (match false == b with
            | true => step (fset f s (.lit false))
            | false => skip (fset f s (.lit false)))
        | .un => skip f
        | _ => False

/-! ### what precedes what -/
def maskOf (acc : List Nat) (o : Oper) : Nat :=
  o.after.toList.foldl (fun m e => match Region.binds .any e with
    | true => m ||| (2 ^ e.on ||| acc.getD e.on 0)
    | false => m) 0
def masks : List Oper → List Nat → List Nat
  | [], acc => acc
  | o :: os, acc => masks os (acc ++ [maskOf acc o])
inductive Pre (ops : Array Oper) : Nat → Nat → Prop where
  | one {i j : Nat} {o : Oper} {e : Edge} (ho : ops[j]? = some o) (he : e ∈ o.after) (hb : Region.binds .any e = true) (hi : e.on = i) : Pre ops i j
  | more {i j : Nat} {o : Oper} {e : Edge} (ho : ops[j]? = some o) (he : e ∈ o.after) (hb : Region.binds .any e = true) (hi : Pre ops i e.on) : Pre ops i j

theorem maskOf_spec {ops : Array Oper} {acc : List Nat} {o : Oper} {j : Nat} (ho : ops[j]? = some o) (hacc : ∀ k i, (acc.getD k 0).testBit i = true → Pre ops i k) :
    ∀ i, (maskOf acc o).testBit i = true → Pre ops i j := by
  have key : ∀ (l : List Edge) (m : Nat), (∀ e ∈ l, e ∈ o.after.toList) → (∀ i, m.testBit i = true → Pre ops i j) →
      ∀ i, (l.foldl (fun m e => match Region.binds .any e with
        | true => m ||| (2 ^ e.on ||| acc.getD e.on 0)
        | false => m) m).testBit i = true → Pre ops i j := by
    intro l
    induction l with
    | nil => intro m _ h i hi; exact h i hi
    | cons e l ih =>
      intro m hl h i hi
      refine ih _ (fun x hx => hl x (List.mem_cons_of_mem _ hx)) ?_ i hi
      intro i hi
      dsimp only at hi
      cases hb : Region.binds .any e with
      | false => rw [hb] at hi; exact h i hi
      | true =>
        rw [hb] at hi
        have he : e ∈ o.after := by have := hl e (List.mem_cons_self ..); simpa using this
        simp only [Nat.testBit_or, Bool.or_eq_true] at hi
        rcases hi with hi | hi | hi
        · exact h i hi
        · rw [Nat.testBit_two_pow] at hi
          exact .one ho he hb (by simpa using hi)
        · exact .more ho he hb (hacc _ _ hi)
  exact key o.after.toList 0 (fun e he => he) (fun i hi => by simp at hi)
theorem masks_spec {ops : Array Oper} : ∀ (l : List Oper) (acc : List Nat), (∀ j, l[j]? = ops[acc.length + j]?) → (∀ k i, (acc.getD k 0).testBit i = true → Pre ops i k) →
    ∀ k i, ((masks l acc).getD k 0).testBit i = true → Pre ops i k
  | [], acc, _, h => h
  | o :: l, acc, hl, h => by
    have ho : ops[acc.length]? = some o := by simpa using (hl 0).symm
    refine masks_spec l _ (fun j => by have := hl (j + 1); simpa [Nat.add_assoc, Nat.add_comm 1 j] using this) ?_
    intro k i hk
    by_cases hlt : k < acc.length
    · rw [List.getD_eq_getElem?_getD, List.getElem?_append_left hlt, ← List.getD_eq_getElem?_getD] at hk
      exact h k i hk
    · by_cases he : k = acc.length
      · subst he
        rw [List.getD_eq_getElem?_getD, List.getElem?_append_right (Nat.le_refl _)] at hk
        simp only [Nat.sub_self, List.getElem?_cons_zero, Option.getD_some] at hk
        exact maskOf_spec ho h i hk
      · rw [List.getD_eq_getElem?_getD, List.getElem?_eq_none (by simp; omega)] at hk
        simp at hk

def dstAt (ops : Array Oper) (i : Nat) : Option Nat := (ops[i]?).bind (·.dst)
def confB (ops : Array Oper) (oi oj : Oper) : Bool :=
  (match oi.dst with
  | some d => (oj.looksAt ops).contains d || oj.dst == some d
  | none => false) ||
  (match oj.dst with
  | some d => (oi.looksAt ops).contains d
  | none => false)
def confRow (ops : Array Oper) (m : Nat) (tl : Bool) (oj : Oper) : List Oper → Nat → Bool
  | [], _ => true
  | oi :: l, i => (!confB ops oi oj || oj.after.toList.any fun e => Region.binds .any e && e.on == i) && (!tl || isPv oi || m.testBit i) && confRow ops m tl oj l (i + 1)
def flowB (ops : Array Oper) (ms : List Nat) (len n : Nat) : List Oper → Nat → Bool
  | [], _ => true
  | o :: os, j =>
    confRow ops (ms.getD j 0) (decide (n ≤ j)) o (ops.toList.take j) 0 &&
    (match o.dst with
      | some d => decide (d < len) | none => true) &&
    (o.after.toList.all fun e => !Region.binds .any e || decide (e.on < j)) &&
    (match o.op with
      | .select .. => false | _ => true) &&
    flowB ops ms len n os (j + 1)
structure FlowOk (ops : Array Oper) (len n : Nat) : Prop where
  dir : ∀ i j oi oj, ops[i]? = some oi → ops[j]? = some oj → i < j → confB ops oi oj = true → ∃ e ∈ oj.after, Region.binds .any e = true ∧ e.on = i
  len : ∀ i d, dstAt ops i = some d → d < len
  back : ∀ j oj e, ops[j]? = some oj → e ∈ oj.after → Region.binds .any e = true → e.on < j
  tail : ∀ t, n ≤ t → t < ops.size → ∀ i oi, i < t → ops[i]? = some oi → isPv oi = false → Pre ops i t
  sel : ∀ (j : Nat) (o : Oper) cs b, ops[j]? = some o → o.op ≠ .select cs b
theorem FlowOk.conf {ops : Array Oper} {len n : Nat} (fo : FlowOk ops len n) : ∀ i j oi oj, ops[i]? = some oi → ops[j]? = some oj → i < j → confB ops oi oj = true → Pre ops i j := by
  intro i j oi oj hi hj hij hc
  obtain ⟨e, he, hb, ho⟩ := fo.dir i j oi oj hi hj hij hc
  exact .one hj he hb ho
theorem confRow_spec {ops : Array Oper} {m : Nat} {tl : Bool} {oj : Oper} : ∀ (l : List Oper) (k : Nat), confRow ops m tl oj l k = true → ∀ i oi, l[i]? = some oi →
    (confB ops oi oj = true → ∃ e ∈ oj.after, Region.binds .any e = true ∧ e.on = k + i) ∧ (tl = true → isPv oi = false → m.testBit (k + i) = true)
  | [], _, _, i, oi, h => by simp at h
  | o :: l, k, h, i, oi, hi => by
    simp only [confRow, Bool.and_eq_true, Bool.or_eq_true, Bool.not_eq_true'] at h
    obtain ⟨⟨h1, h2⟩, h3⟩ := h
    cases i with
    | zero =>
      simp only [List.getElem?_cons_zero, Option.some.injEq] at hi
      subst hi
      refine ⟨fun hc => ?_, fun ht hp => ?_⟩
      · rcases h1 with h1 | h1
        · rw [h1] at hc; cases hc
        · obtain ⟨e, he, hb⟩ := List.any_eq_true.1 h1
          simp only [Bool.and_eq_true, beq_iff_eq] at hb
          exact ⟨e, by simpa using he, hb.1, hb.2⟩
      · rcases h2 with (h2 | h2) | h2
        · rw [h2] at ht; cases ht
        · rw [h2] at hp; cases hp
        · exact h2
    | succ i =>
      have := confRow_spec l (k + 1) h3 i oi (by simpa using hi)
      rwa [Nat.add_assoc, Nat.add_comm 1 i] at this
theorem flowB_spec {ops : Array Oper} {ms : List Nat} {len n : Nat} : ∀ (l : List Oper) (k : Nat), (∀ j, l[j]? = ops[k + j]?) → flowB ops ms len n l k = true →
    ∀ j oj, k ≤ j → ops[j]? = some oj →
      (∀ i oi, i < j → ops[i]? = some oi → (confB ops oi oj = true → ∃ e ∈ oj.after, Region.binds .any e = true ∧ e.on = i) ∧ (n ≤ j → isPv oi = false → (ms.getD j 0).testBit i = true)) ∧
      (∀ d, oj.dst = some d → d < len) ∧
      (∀ e, e ∈ oj.after → Region.binds .any e = true → e.on < j) ∧
      (∀ cs b, oj.op ≠ .select cs b)
  | [], k, hl, _, j, oj, hj, ho => by
    have := hl (j - k)
    rw [show k + (j - k) = j by omega, ho] at this
    simp at this
  | o :: l, k, hl, h, j, oj, hj, ho => by
    simp only [flowB, Bool.and_eq_true] at h
    obtain ⟨⟨⟨⟨h1, h2⟩, h3⟩, h5⟩, h6⟩ := h
    by_cases hjk : j = k
    · subst hjk
      have h0 : some o = some oj := by have := hl 0; rw [Nat.add_zero, ho] at this; simpa using this
      cases h0
      refine ⟨fun i oi hi hoi => ?_, fun d hd => ?_, fun e he hb => ?_, fun cs b he => ?_⟩
      · have := confRow_spec _ 0 h1 i oi (by rw [List.getElem?_take]; simp [hi, hoi])
        rw [Nat.zero_add] at this
        exact ⟨this.1, fun hn => this.2 (by simpa using hn)⟩
      · rw [hd] at h2; simpa using h2
      · have := List.all_eq_true.1 h3 e (by simpa using he)
        simpa [hb] using this
      · rw [he] at h5; cases h5
    · exact flowB_spec l (k + 1) (fun j => by have := hl (j + 1); simpa [Nat.add_assoc, Nat.add_comm 1 j] using this) h6 j oj (by omega) ho
theorem flowOk {ops : Array Oper} {len n : Nat} (h : flowB ops (masks ops.toList []) len n ops.toList 0 = true) : FlowOk ops len n := by
  have hm := masks_spec (ops := ops) ops.toList [] (fun j => by simp) (fun k i hi => by simp at hi)
  have H := flowB_spec (ops := ops) ops.toList 0 (fun j => by simp) h
  refine ⟨fun i j oi oj hi hj hij hc => ((H j oj (Nat.zero_le _) hj).1 i oi hij hi).1 hc, fun i d hd => ?_, fun j oj e hj he hb => (H j oj (Nat.zero_le _) hj).2.2.1 e he hb, fun t ht hlt i oi hi hoi hp => ?_, fun j o cs b hj => (H j o (Nat.zero_le _) hj).2.2.2 cs b⟩
  · unfold dstAt at hd
    cases ho : ops[i]? with
    | none => simp [ho] at hd
    | some o => rw [ho] at hd; exact (H i o (Nat.zero_le _) ho).2.1 d hd
  · exact hm _ _ (((H t ops[t] (Nat.zero_le _) (by simp [hlt])).1 i oi hi hoi).2 ht hp)
end Go.V

/- The calculus, fifth part: what 'flow' says holds in every order. -/

namespace Go.V
open Go Go.RowKit

def evl (g : Nat → Value) : Operand → Value
  | .tmp t => g t
  | .const v => v
  | .global a => .pointer (some ⟨a, 0, none⟩)
  | .func h => .func (.func h) #[] #[]
theorem fev_evl (f : Fr) : fev f = evl fun t => (fget f t).den := by
  funext x
  cases x with
  | const v => cases v <;> rfl
  | _ => rfl
theorem act_evl (a : Act) : a.eval = evl fun t => a.tmps.getD t undef := by
  funext x; cases x <;> rfl

section
variable (P : Program) (pn : Pm) (ops : Array Oper) (E : Rel) (Φ : Facts) (w0 : World) (f0 : Fr)

def lk (val : Nat → Value) : Nat → Nat → Value
  | 0, t => (fget f0 t).den
  | i + 1, t => if dstAt ops i = some t then val i else lk val i t
def wnt (g : Nat → Value) (o : Oper) : Bool :=
  match o.guard with
  | none => true
  | some (j, b) => match dstAt ops j with
    | none => false
    | some s => match g s with
      | .bool c => c == b
      | _ => false
def argsV (g : Nat → Value) (o : Oper) : List Value :=
  match o.op with
  | .call c => (c.args.map (evl g)).toList
  | .box _ x => [evl g x]
  | .buildSlice _ _ ps => (ps.map fun p => evl g p.2).toList
  | _ => []
def LW (val : Nat → Value) (i : Nat) : Prop := ∃ o, ops[i]? = some o ∧ isRd o = false ∧ wnt ops (lk ops f0 val i) o = true
def FactAt (val : Nat → Value) (i : Nat) (w : World) : Prop := ∀ o, ops[i]? = some o → Φ i (argsV (lk ops f0 val i) o) (val i) w
def Vok (Ψ : (Nat → Bool) → Facts) (G : Nat → Rel) (St : (Nat → Bool) → World → Prop) (w0 : World) (f0 : Fr) (res val : Nat → Value) (j : Nat) : Prop := ∀ o, ops[j]? = some o →
  (wnt ops (lk ops f0 val j) o = false ∧ val j = undef) ∨
  (wnt ops (lk ops f0 val j) o = true ∧ isRd o = true ∧ ∀ w', ((E w0 w' ∧ ∃ D : Nat → Bool, (∀ t, Pre ops j t → D t = false) ∧ St D w') ∨ isPv o = true) → (execOp (evl (lk ops f0 val j)) o).run P w' = .ok (.value (val j)) w') ∨
  (wnt ops (lk ops f0 val j) o = true ∧ isRd o = false ∧ val j = res j ∧ ∀ D w, D j = false → E w0 w → St D w → (∀ i, i < j → Pre ops i j → LW ops f0 val i → FactAt ops (Ψ D) f0 val i w) → (∀ i, i < j → Pre ops i j → LW ops f0 val i → D i = true) →
    OpOk P pn (execOp (evl (lk ops f0 val j)) o) w fun v w' => (∃ x, v = (rsOf P o).val x) ∧ E w w' ∧ G j w w' ∧ St (setD D j) w' ∧ Ψ (setD D j) j (argsV (lk ops f0 val j) o) v w')
def upd (val : Nat → Value) (k : Nat) (v : Value) : Nat → Value := fun j => if j = k then v else val j
structure CtxOk (k : Nat) (val : Nat → Value) (ctx : Ctx) : Prop where
  of : ∀ e ∈ ctx, e.1 < k ∧ LW ops f0 val e.1 ∧ (∃ o, ops[e.1]? = some o ∧ e.2.1 = argsV (lk ops f0 val e.1) o) ∧ e.2.2 = val e.1
  has : ∀ i, i < k → LW ops f0 val i → ∃ e ∈ ctx, e.1 = i
  nod : ctx.Pairwise fun a b => a.1 ≠ b.1
end

section
variable {P : Program} {pn : Pm} {ops : Array Oper} {E : Rel} {Φ : Facts} {Ψ : (Nat → Bool) → Facts} {w0 : World} {f0 : Fr}

theorem lk_congr {val val' : Nat → Value} : ∀ (j t : Nat), (∀ i, i < j → dstAt ops i = some t → val i = val' i) → lk ops f0 val j t = lk ops f0 val' j t
  | 0, _, _ => rfl
  | j + 1, t, h => by
    simp only [lk]
    split
    · rename_i hd; exact h j (Nat.lt_succ_self _) hd
    · exact lk_congr j t fun i hi => h i (Nat.lt_succ_of_lt hi)
theorem lk_upd {val : Nat → Value} {k j : Nat} {v : Value} (h : j ≤ k) : lk ops f0 (upd val k v) j = lk ops f0 val j := by
  funext t
  exact lk_congr j t fun i hi _ => by simp only [upd]; rw [if_neg (by omega)]
theorem LW_congr {val val' : Nat → Value} {i : Nat} (h : ∀ j, j < i → val j = val' j) (hl : LW ops f0 val i) : LW ops f0 val' i := by
  have : lk ops f0 val i = lk ops f0 val' i := funext fun t => lk_congr i t fun j hj _ => h j hj
  unfold LW at *
  rw [← this]; exact hl
theorem FactAt_congr {val val' : Nat → Value} {i : Nat} {w : World} (h : ∀ j, j ≤ i → val j = val' j) (hl : FactAt ops Φ f0 val i w) : FactAt ops Φ f0 val' i w := by
  have : lk ops f0 val i = lk ops f0 val' i := funext fun t => lk_congr i t fun j hj _ => h j (Nat.le_of_lt hj)
  unfold FactAt at *
  rw [← this, ← h i (Nat.le_refl _)]; exact hl
theorem Vok_congr {G : Nat → Rel} {St : (Nat → Bool) → World → Prop} {res val val' : Nat → Value} {j : Nat} (h : ∀ i, i ≤ j → val i = val' i) (hv : Vok P pn ops E Ψ G St w0 f0 res val j) : Vok P pn ops E Ψ G St w0 f0 res val' j := by
  have hlk : lk ops f0 val j = lk ops f0 val' j := funext fun t => lk_congr j t fun i hi _ => h i (Nat.le_of_lt hi)
  unfold Vok at *
  rw [← hlk, ← h j (Nat.le_refl _)]
  intro o ho
  rcases hv o ho with h1 | h1 | ⟨h1, h2, h3, h4⟩
  · exact .inl h1
  · exact .inr (.inl h1)
  · refine .inr (.inr ⟨h1, h2, h3, fun kk w hkk hw hst hf hkn => h4 kk w hkk hw hst (fun i hi hp hl => ?_) (fun i hi hp hl => hkn i hi hp (LW_congr (fun k hk => h k (by omega)) hl))⟩)
    exact FactAt_congr (fun k hk => (h k (by omega)).symm) (hf i hi hp (LW_congr (fun k hk => h k (by omega)) hl))
theorem CtxOk_upd {val : Nat → Value} {k : Nat} {v : Value} {ctx : Ctx} (h : CtxOk ops f0 k val ctx) : ∀ e ∈ ctx, e.1 < k ∧ LW ops f0 (upd val k v) e.1 ∧ (∃ o, ops[e.1]? = some o ∧ e.2.1 = argsV (lk ops f0 (upd val k v) e.1) o) ∧ e.2.2 = upd val k v e.1 := by
  intro e he
  obtain ⟨h1, h2, h3, h4⟩ := h.of e he
  refine ⟨h1, LW_congr (fun j hj => by simp only [upd]; rw [if_neg (by omega)]) h2, ?_, ?_⟩
  · rw [lk_upd (Nat.le_of_lt h1)]; exact h3
  · rw [h4]; simp only [upd]; rw [if_neg (by omega)]

theorem wnt_eq (a : Act) (o : Oper) : Region.wanted o (yielded ops a.tmps) = wnt ops (fun t => a.tmps.getD t undef) o := by
  unfold Region.wanted wnt
  cases o.guard with
  | none => rfl
  | some g =>
    obtain ⟨j, b⟩ := g
    simp only [yielded, dstAt]
    cases (ops[j]?).bind (·.dst) with
    | none => rfl
    | some s =>
      simp only [Option.bind_some, Array.getD_eq_getD_getElem?]
      cases a.tmps[s]? with
      | none => rfl
      | some v => cases v <;> first | rfl | (rename_i c; cases c <;> cases b <;> rfl)

theorem argsOf_eq (f : Fr) (o : Oper) : argsOf f o = argsV (fun t => (fget f t).den) o := by
  unfold argsOf argsV
  first
    | (rw [fev_evl]; done)
    | (rw [fev_evl]; split <;> simp_all)

theorem facts_of {m : Nat} {w : World} : ∀ (ctx : Ctx), (∀ e ∈ ctx, m.testBit e.1 = true → Φ e.1 e.2.1 e.2.2 w) → facts Φ m ctx w
  | [], _ => trivial
  | e :: l, h => by
    have ih := facts_of l fun x hx => h x (List.mem_cons_of_mem _ hx)
    unfold facts
    cases hb : m.testBit e.1 with
    | true => exact ⟨h e (List.mem_cons_self ..) hb, ih⟩
    | false => exact ih
theorem factsAll_of {w : World} : ∀ (ctx : Ctx), (∀ e ∈ ctx, Φ e.1 e.2.1 e.2.2 w) → factsAll Φ ctx w
  | [], _ => trivial
  | e :: l, h => ⟨h e (List.mem_cons_self ..), factsAll_of l fun x hx => h x (List.mem_cons_of_mem _ hx)⟩

theorem fput_den {g : Fr} {d : Option Nat} {x : FV} {t : Nat} (h : ∀ s, d = some s → s < g.length) : (fget (fput g d x) t).den = if d = some t then x.den else (fget g t).den := by
  cases d with
  | none => simp [fput]
  | some s =>
    have := h s rfl
    simp only [fput, fget_fset, Option.some.injEq]
    by_cases hs : s = t
    · subst hs; simp [this]
    · simp [hs]

theorem flow_run {cm kb : Bool} {G : Nat → Rel} {St : (Nat → Bool) → World → Prop} (hcm : cm = true ∨ (cm = false ∧ (∀ j w w', G j w w') ∧ (∀ D w, St D w) ∧ ∀ D D', Ψ D = Ψ D')) {ms : List Nat} {all : List Oper} {res : Nat → Value} {fin : Fr → Ctx → Prop} (hres : ∀ i o, ops[i]? = some o → ∃ x, res i = (rsOf P o).val x)
    (hms : ∀ k i, (ms.getD k 0).testBit i = true → Pre ops i k) (hlen : ∀ i d, dstAt ops i = some d → d < f0.length) (hall : ∀ j : Nat, all[j]? = ops[j]?) :
    ∀ (l : List Oper) (k : Nat) (f : Fr) (ctx : Ctx) (val : Nat → Value), (∀ j, j < l.length → l[j]? = ops[k + j]?) → f.length = f0.length →
      (∀ t, (fget f t).den = lk ops f0 val k t) → (∀ j, j < k → Vok P pn ops E Ψ G St w0 f0 res val j) → CtxOk ops f0 k val ctx → flow P pn E Ψ cm kb G St ms all w0 l k f ctx fin →
      ∃ val' f' ctx', (∀ j, j < k + l.length → Vok P pn ops E Ψ G St w0 f0 res val' j) ∧ f'.length = f0.length ∧ (∀ t, (fget f' t).den = lk ops f0 val' (k + l.length) t) ∧
        CtxOk ops f0 (k + l.length) val' ctx' ∧ fin f' ctx'
  | [], k, f, ctx, val, _, h1, h2, h3, h4, h => ⟨val, f, ctx, h3, h1, h2, h4, h⟩
  | o :: l, k, f, ctx, val, hl, h1, h2, h3, h4, h => by
    have ho : ops[k]? = some o := by simpa using (hl 0 (by simp)).symm
    have hdk : dstAt ops k = o.dst := by simp [dstAt, ho]
    have hl' : ∀ j, j < l.length → l[j]? = ops[k + 1 + j]? := fun j hj => by
      have := hl (j + 1) (by simp; omega)
      simpa [Nat.add_assoc, Nat.add_comm 1 j] using this
    have hk : k + (o :: l).length = k + 1 + l.length := by simp; omega
    rw [hk]
    have next : ∀ (g : Fr) (x : FV) (ctx' : Ctx), g.length = f0.length → (∀ t, (fget g t).den = lk ops f0 val k t) →
        Vok P pn ops E Ψ G St w0 f0 res (upd val k x.den) k → CtxOk ops f0 (k + 1) (upd val k x.den) ctx' → flow P pn E Ψ cm kb G St ms all w0 l (k + 1) (fput g o.dst x) ctx' fin →
        ∃ val' f' ctx', (∀ j, j < k + 1 + l.length → Vok P pn ops E Ψ G St w0 f0 res val' j) ∧ f'.length = f0.length ∧ (∀ t, (fget f' t).den = lk ops f0 val' (k + 1 + l.length) t) ∧
          CtxOk ops f0 (k + 1 + l.length) val' ctx' ∧ fin f' ctx' := by
      intro g x ctx' g1 g2 hv hc hf
      refine flow_run hcm hres hms hlen hall l (k + 1) _ ctx' (upd val k x.den) hl' ?_ ?_ ?_ hc hf
      · rw [← g1]; cases o.dst <;> simp [fput, length_fset]
      · intro t
        rw [fput_den (fun s hs => by rw [g1]; exact hlen k s (by rw [hdk, hs]))]
        simp only [lk, hdk, lk_upd (Nat.le_refl _), g2]
        simp [upd]
      · intro j hj
        by_cases hjk : j = k
        · subst hjk; exact hv
        · exact Vok_congr (fun i hi => by simp only [upd]; rw [if_neg (by omega)]) (h3 j (by omega))
    have hwn : ∀ g : Fr, (∀ t, (fget g t).den = lk ops f0 val k t) → evl (lk ops f0 val k) = fev g := fun g g2 => by
      rw [fev_evl]; congr 1; funext t; exact (g2 t).symm
    have skip : ∀ g : Fr, g.length = f0.length → (∀ t, (fget g t).den = lk ops f0 val k t) → wnt ops (lk ops f0 val k) o = false →
        force (fput g o.dst .un) (fun f' => flow P pn E Ψ cm kb G St ms all w0 l (k + 1) f' ctx fin) →
        ∃ val' f' ctx', (∀ j, j < k + 1 + l.length → Vok P pn ops E Ψ G St w0 f0 res val' j) ∧ f'.length = f0.length ∧ (∀ t, (fget f' t).den = lk ops f0 val' (k + 1 + l.length) t) ∧
          CtxOk ops f0 (k + 1 + l.length) val' ctx' ∧ fin f' ctx' := by
      intro g g1 g2 hw hf
      rw [force_eq] at hf
      refine next g .un ctx g1 g2 ?_ ?_ hf
      · intro o' ho'
        rw [ho] at ho'; cases ho'
        refine .inl ⟨by rw [lk_upd (Nat.le_refl _)]; exact hw, by simp [upd, FV.den]⟩
      · refine ⟨fun e he => ?_, fun i hi hlw => ?_, ?_⟩
        · obtain ⟨a, b⟩ := CtxOk_upd (v := FV.un.den) h4 e he
          exact ⟨by omega, b⟩
        · by_cases hik : i = k
          · subst hik
            obtain ⟨o', ho', _, hw'⟩ := hlw
            rw [ho] at ho'; cases ho'
            rw [lk_upd (Nat.le_refl _), hw] at hw'; cases hw'
          · exact h4.has i (by omega) (LW_congr (fun j hj => by simp only [upd]; rw [if_neg (by omega)]) hlw)
        · exact h4.nod
    have step : ∀ g : Fr, g.length = f0.length → (∀ t, (fget g t).den = lk ops f0 val k t) → wnt ops (lk ops f0 val k) o = true →
        (match isRd o with
          | true => vcRd P (rdRel cm St ms all k E) o g w0 fun v => force (fput g o.dst v) fun f' => flow P pn E Ψ cm kb G St ms all w0 l (k + 1) f' ctx fin
          | false => flq P pn E Ψ cm (doneL kb (ms.getD k 0) ctx) G St w0 (fun D => facts (Ψ D) (ms.getD k 0) ctx) o g k
              (fun x => krn (fun v => force (fput g o.dst v) fun f' => flow P pn E Ψ cm kb G St ms all w0 l (k + 1) f' ((k, argsOf g o, (rsOf P o).val x) :: ctx) fin) (rsOf P o) x)) →
        ∃ val' f' ctx', (∀ j, j < k + 1 + l.length → Vok P pn ops E Ψ G St w0 f0 res val' j) ∧ f'.length = f0.length ∧ (∀ t, (fget f' t).den = lk ops f0 val' (k + 1 + l.length) t) ∧
          CtxOk ops f0 (k + 1 + l.length) val' ctx' ∧ fin f' ctx' := by
      intro g g1 g2 hw hf
      have hga : argsOf g o = argsV (lk ops f0 val k) o := by rw [argsOf_eq]; congr 1; funext t; exact g2 t
      split at hf
      · rename_i hrd
        obtain ⟨x, hx, hf⟩ := vcRd_spec hf
        rw [force_eq] at hf
        refine next g x ctx g1 g2 ?_ ?_ hf
        · intro o' ho'
          rw [ho] at ho'; cases ho'
          refine .inr (.inl ⟨by rw [lk_upd (Nat.le_refl _)]; exact hw, hrd, fun w' hw' => ?_⟩)
          have hr : (rdRel cm St ms all k E) w0 w' ∨ isPv o = true := by
            rcases hw' with ⟨q1, D, q2, q3⟩ | q
            · refine .inl ?_
              cases cm with
              | false => exact q1
              | true =>
                refine ⟨q1, D, fun j hj => ?_, q3⟩
                unfold late at hj
                rw [List.mem_filter, Bool.and_eq_true] at hj
                exact q2 j (hms _ _ hj.2.1)
            · exact .inr q
          rw [lk_upd (Nat.le_refl _), hwn g g2, hx w' hr]
          simp [upd]
        · refine ⟨fun e he => ?_, fun i hi hlw => ?_, ?_⟩
          · obtain ⟨a, b⟩ := CtxOk_upd (v := x.den) h4 e he
            exact ⟨by omega, b⟩
          · by_cases hik : i = k
            · subst hik
              obtain ⟨o', ho', hr', _⟩ := hlw
              rw [ho] at ho'; cases ho'
              rw [hrd] at hr'; cases hr'
            · exact h4.has i (by omega) (LW_congr (fun j hj => by simp only [upd]; rw [if_neg (by omega)]) hlw)
          · exact h4.nod
      · rename_i hrd
        have hf2 : (∀ D w, D k = false → E w0 w → St D w → facts (Ψ D) (ms.getD k 0) ctx w → (∀ e ∈ ctx, (ms.getD k 0).testBit e.1 = true → D e.1 = true) → OpOk P pn (execOp (fev g) o) w fun v w' => ∃ x' : (rsOf P o).T, v = (rsOf P o).val x' ∧ E w w' ∧ G k w w' ∧ St (setD D k) w' ∧ Ψ (setD D k) k (argsOf g o) ((rsOf P o).val x') w') ∧
            ∀ x, krn (fun v => force (fput g o.dst v) fun f' => flow P pn E Ψ cm kb G St ms all w0 l (k + 1) f' ((k, argsOf g o, (rsOf P o).val x) :: ctx) fin) (rsOf P o) x := by
          unfold flq at hf
          rcases hcm with rfl | ⟨rfl, hG, hS, hΨ⟩
          · obtain ⟨q1, q2⟩ := hf
            refine ⟨fun kk w c1 c2 c3 c4 c5 => (vcOp_spec (known_spec (q1 kk w c1 c2 c3 c4) fun x hx => by obtain ⟨e, he, rfl, hb⟩ := doneL_mem hx; exact c5 e he hb)).mono ?_, q2⟩
            rintro v w' ⟨q, rfl, hq⟩
            exact RS.un_spec hq
          · obtain ⟨q1, q2⟩ := hf
            refine ⟨fun kk w c1 c2 c3 c4 _ => (vcOp_spec (q1 w c2 (by show facts (Ψ fun _ => false) _ _ _; rw [hΨ (fun _ => false) kk]; exact c4))).mono ?_, q2⟩
            rintro v w' ⟨q, rfl, hq⟩
            obtain ⟨x', hx', hq1, hq2⟩ := RS.un_spec hq
            exact ⟨x', hx', hq1, hG _ _ _, hS _ _, by rw [hΨ _ (fun _ => false)]; exact hq2⟩
        obtain ⟨hob, hnx⟩ := hf2
        obtain ⟨x, hx⟩ := hres k o ho
        obtain ⟨y, hy, hf⟩ := krn_spec (hnx x)
        rw [force_eq] at hf
        refine next g y _ g1 g2 ?_ ?_ hf
        · intro o' ho'
          rw [ho] at ho'; cases ho'
          refine .inr (.inr ⟨by rw [lk_upd (Nat.le_refl _)]; exact hw, hrd, by simp [upd, hy, hx], fun kk w hkk hw0 hst hfs hkn => ?_⟩)
          rw [lk_upd (Nat.le_refl _)]
          have this := hob kk w hkk hw0 hst (facts_of ctx fun e he hb => by
            obtain ⟨e1, e2, ⟨oe, he3, he4⟩, e5⟩ := h4.of e he
            have hF := hfs e.1 e1 (hms _ _ hb) (LW_congr (fun j hj => by simp only [upd]; rw [if_neg (by omega)]) e2)
            have := hF oe he3
            rw [lk_upd (Nat.le_of_lt e1)] at this
            rw [he4, e5]
            simpa [upd, Nat.ne_of_lt e1] using this) (fun e he hb => by
            obtain ⟨e1, e2, _, _⟩ := h4.of e he
            exact hkn e.1 e1 (hms _ _ hb) (LW_congr (fun j hj => by simp only [upd]; rw [if_neg (by omega)]) e2))
          rw [← hwn g g2] at this
          refine this.mono ?_
          rintro v w' ⟨x', hx', hq1, hq4, hq3, hq2⟩
          refine ⟨⟨x', hx'⟩, hq1, hq4, hq3, ?_⟩
          rw [hx', ← hga]; exact hq2
        · refine ⟨fun e he => ?_, fun i hi hlw => ?_, ?_⟩
          · rcases List.mem_cons.1 he with rfl | he
            · refine ⟨Nat.lt_succ_self _, ⟨o, ho, hrd, by rw [lk_upd (Nat.le_refl _)]; exact hw⟩, ⟨o, ho, ?_⟩, ?_⟩
              · rw [lk_upd (Nat.le_refl _)]; exact hga
              · simp [upd, hy]
            · obtain ⟨a, b⟩ := CtxOk_upd (v := y.den) h4 e he
              exact ⟨by omega, b⟩
          · by_cases hik : i = k
            · exact ⟨_, List.mem_cons_self .., hik.symm⟩
            · obtain ⟨e, he, he'⟩ := h4.has i (by omega) (LW_congr (fun j hj => by simp only [upd]; rw [if_neg (by omega)]) hlw)
              exact ⟨e, List.mem_cons_of_mem _ he, he'⟩
          · exact List.Pairwise.cons (fun e he => by have := (h4.of e he).1; dsimp only; omega) h4.nod
    unfold flow at h
    dsimp only at h
    split at h
    · rename_i hgd
      exact step f h1 h2 (by simp [wnt, hgd]) h
    · rename_i j b hgd
      split at h
      · exact h.elim
      · rename_i s hs
        have hs' : dstAt ops j = some s := by unfold dstAt; rw [← hall]; exact hs
        split at h
        · rename_i c hc
          have hw : wnt ops (lk ops f0 val k) o = (c == b) := by
            simp only [wnt, hgd, hs', ← h2, hc, FV.den]
          split at h
          · rename_i he; exact step f h1 h2 (hw.trans he) h
          · rename_i he; exact skip f h1 h2 (hw.trans he) h
        · rename_i c hc
          have hw : wnt ops (lk ops f0 val k) o = (c == b) := by
            simp only [wnt, hgd, hs', ← h2, hc, FV.den]
          have hd : (FV.lit c).den = (fget f s).den := by rw [hc]; rfl
          have g1 : (fset f s (.lit c)).length = f0.length := by rw [length_fset, h1]
          have g2 : ∀ t, (fget (fset f s (.lit c)) t).den = lk ops f0 val k t := fun t => by rw [fset_same_den hd, h2]
          cases c with
          | true =>
            have h := h.1 rfl
            split at h
            · rename_i he; exact step _ g1 g2 (hw.trans he) h
            · rename_i he; exact skip _ g1 g2 (hw.trans he) h
          | false =>
            have h := h.2 rfl
            split at h
            · rename_i he; exact step _ g1 g2 (hw.trans he) h
            · rename_i he; exact skip _ g1 g2 (hw.trans he) h
        · rename_i hc
          exact skip f h1 h2 (by simp only [wnt, hgd, hs', ← h2, hc, FV.den, undef]) h
        · exact h.elim
end
end Go.V

/- The calculus, sixth part: a region that draws its order, walked by 'flow'. -/

namespace Go.V
open Go Go.RowKit
variable {ds : List Deferred} {pn : Pm}
section
variable {P : Program} {ops : Array Oper} {E : Rel} {Φ : (Nat → Bool) → Facts} {w0 : World} {f0 : Fr}

theorem mem_looks {o : Oper} {t : Nat} (h : Operand.tmp t ∈ o.op.operands) : t ∈ o.looksAt ops :=
  List.mem_append_left _ (List.mem_filterMap.2 ⟨.tmp t, by simpa using h, rfl⟩)
theorem evl_congr {g g' : Nat → Value} {o : Oper} (h : ∀ t ∈ o.looksAt ops, g t = g' t) : ∀ x ∈ o.op.operands, evl g x = evl g' x := by
  intro x hx
  cases x with
  | tmp t => exact h t (mem_looks hx)
  | _ => rfl
theorem wnt_congr {g g' : Nat → Value} {o : Oper} (h : ∀ t ∈ o.looksAt ops, g t = g' t) : wnt ops g o = wnt ops g' o := by
  unfold wnt
  cases hg : o.guard with
  | none => rfl
  | some jb =>
    obtain ⟨j, b⟩ := jb
    dsimp only
    cases hd : dstAt ops j with
    | none => rfl
    | some s =>
      have : s ∈ o.looksAt ops := by
        refine List.mem_append_right _ ?_
        rw [hg]; unfold dstAt at hd
        simp [hd]
      simp only [h s this]
theorem argsV_congr {g g' : Nat → Value} {o : Oper} (h : ∀ t ∈ o.looksAt ops, g t = g' t) : argsV g o = argsV g' o := by
  have h' := evl_congr h
  unfold argsV
  split
  · rename_i c hc
    rw [hc] at h'
    rw [Array.map_congr_left fun x hx => h' x (by simp [Op.operands, Call.operands, hx])]
  · rename_i e x hc
    rw [hc] at h'
    rw [h' x (by simp [Op.operands])]
  · rename_i t n ps hc
    rw [hc] at h'
    rw [Array.map_congr_left fun p hp => h' p.2 (by
      simp only [Op.operands, List.mem_toArray, List.mem_map]
      exact ⟨p, by simpa using hp, rfl⟩)]
  · rfl
theorem confB_dst {oi oj : Oper} {d : Nat} (hd : oi.dst = some d) (h : d ∈ oj.looksAt ops ∨ oj.dst = some d) : confB ops oi oj = true := by
  unfold confB
  rcases h with h | h <;> simp [hd, h]
theorem confB_look {oi oj : Oper} {d : Nat} (hd : oj.dst = some d) (h : d ∈ oi.looksAt ops) : confB ops oi oj = true := by
  unfold confB
  simp [hd, h]
theorem dstAt_some {i d : Nat} (h : dstAt ops i = some d) : ∃ o, ops[i]? = some o ∧ o.dst = some d := by
  unfold dstAt at h
  cases ho : ops[i]? with
  | none => simp [ho] at h
  | some o => rw [ho] at h; exact ⟨o, rfl, h⟩

theorem val_indep {G : Nat → Rel} {St : (Nat → Bool) → World → Prop} (hE : ∀ w, E w w) (hS0 : St (fun _ => false) w0) {n len : Nat} (fo : FlowOk ops len n) {L : Nat → Prop} (hL : ∀ i j, Pre ops i j → L j → L i) {res res' val val' : Nat → Value}
    (hv : ∀ j, j < n → Vok P pn ops E Φ G St w0 f0 res val j) (hv' : ∀ j, j < n → Vok P pn ops E Φ G St w0 f0 res' val' j) (hr : ∀ j, L j → res j = res' j) :
    ∀ j, j < n → j < ops.size → L j → val j = val' j := by
  intro j
  induction j using Nat.strongRecOn with
  | _ j ih =>
    intro hjn hjs hLj
    have ho : ops[j]? = some ops[j] := by simp [hjs]
    generalize ops[j] = o at ho
    have hlk : ∀ t ∈ o.looksAt ops, lk ops f0 val j t = lk ops f0 val' j t := fun t ht => lk_congr j t fun i hi hd => by
      obtain ⟨oi, hoi, hdi⟩ := dstAt_some hd
      have hp := fo.conf i j oi o hoi ho hi (confB_dst hdi (.inl ht))
      exact ih i hi (by omega) (by omega) (hL i j hp hLj)
    have hw := wnt_congr hlk
    have he : execOp (evl (lk ops f0 val j)) o = execOp (evl (lk ops f0 val' j)) o := execOp_congr o (fun cs b => fo.sel j o cs b ho) (evl_congr hlk)
    have h1 := hv j hjn o ho
    have h2 := hv' j hjn o ho
    rw [← hw, ← he] at h2
    rcases h1 with ⟨a1, a2⟩ | ⟨a1, a2, a3⟩ | ⟨a1, a2, a3, _⟩ <;> rcases h2 with ⟨b1, b2⟩ | ⟨b1, b2, b3⟩ | ⟨b1, b2, b3, _⟩ <;> first
      | (rw [a1] at b1; cases b1; done)
      | (rw [a2] at b2; cases b2; done)
      | skip
    · rw [a2, b2]
    · have h3 := a3 w0 (.inl ⟨hE w0, _, fun _ _ => rfl, hS0⟩)
      rw [b3 w0 (.inl ⟨hE w0, _, fun _ _ => rfl, hS0⟩)] at h3
      injection h3 with h4 _
      injection h4 with h5
      exact h5.symm
    · rw [a3, b3]; exact hr j hLj

def mlk (ops : Array Oper) (f0 : Fr) (listed : Array Bool) (val : Nat → Value) : Nat → Nat → Value
  | 0, t => (fget f0 t).den
  | i + 1, t => if listed.getD i false = true ∧ dstAt ops i = some t then val i else mlk ops f0 listed val i t
theorem mlk_lk {listed : Array Bool} {val : Nat → Value} {t : Nat} : ∀ i, (∀ j, j < i → dstAt ops j = some t → listed.getD j false = true) → mlk ops f0 listed val i t = lk ops f0 val i t
  | 0, _ => rfl
  | i + 1, h => by
    simp only [mlk, lk]
    have ih := mlk_lk (val := val) i fun j hj => h j (Nat.lt_succ_of_lt hj)
    by_cases hd : dstAt ops i = some t
    · simp [hd, h i (Nat.lt_succ_self _) hd]
    · simp [hd, ih]
theorem mlk_not {listed : Array Bool} {val : Nat → Value} {t : Nat} (h : ∀ j, dstAt ops j ≠ some t) : ∀ i, mlk ops f0 listed val i t = (fget f0 t).den
  | 0 => rfl
  | i + 1 => by simp only [mlk]; rw [if_neg (fun q => h i q.2), mlk_not h i]
theorem mlk_lk_none {listed : Array Bool} {val : Nat → Value} {t : Nat} (h : ∀ j, listed.getD j false = false) : ∀ {i : Nat}, mlk ops f0 listed val i t = (fget f0 t).den
  | 0 => rfl
  | i + 1 => by
    simp only [mlk]
    rw [if_neg (by rw [h i]; simp), mlk_lk_none h]
theorem mlk_up {listed : Array Bool} {val : Nat → Value} {t i : Nat} : ∀ d, (∀ j, i ≤ j → dstAt ops j = some t → listed.getD j false = false) → mlk ops f0 listed val (i + d) t = mlk ops f0 listed val i t
  | 0, _ => rfl
  | d + 1, h => by
    rw [← Nat.add_assoc]
    simp only [mlk]
    rw [if_neg, mlk_up d h]
    rintro ⟨h1, h2⟩
    rw [h (i + d) (by omega) h2] at h1
    cases h1
theorem mlk_congr {listed : Array Bool} {val val' : Nat → Value} {t : Nat} : ∀ i, (∀ j, j < i → listed.getD j false = true → val j = val' j) → mlk ops f0 listed val i t = mlk ops f0 listed val' i t
  | 0, _ => rfl
  | i + 1, h => by
    simp only [mlk]
    have ih := mlk_congr (t := t) i fun j hj => h j (Nat.lt_succ_of_lt hj)
    split
    · rename_i hc; exact h i (Nat.lt_succ_self _) hc.1
    · exact ih
theorem getD_set_self {listed : Array Bool} {i : Nat} (h : i < listed.size) : (listed.setIfInBounds i true).getD i false = true := by simp [h]
theorem mlk_set {listed : Array Bool} {val : Nat → Value} {t i : Nat} (hi : i < listed.size) : ∀ m, (∀ j, i < j → j < m → dstAt ops j = some t → dstAt ops i = some t → listed.getD j false = false) →
    mlk ops f0 (listed.setIfInBounds i true) val m t = if i < m ∧ dstAt ops i = some t then val i else mlk ops f0 listed val m t
  | 0, _ => by simp [mlk]
  | m + 1, h => by
    have ih := mlk_set (val := val) hi m fun j h1 h2 => h j h1 (by omega)
    simp only [mlk]
    by_cases hmi : m = i
    · subst hmi
      rw [getD_set_self hi]
      by_cases hd : dstAt ops m = some t
      · simp [hd]
      · rw [ih]; simp [hd]
    · rw [getD_set_ne false (Ne.symm hmi), ih]
      by_cases hc : listed.getD m false = true ∧ dstAt ops m = some t
      · rw [if_pos hc, if_neg]
        · simp [hc]
        · rintro ⟨h1, h2⟩
          have := h m (by omega) (by omega) hc.2 h2
          rw [hc.1] at this; cases this
      · rw [if_neg hc, if_neg hc]
        by_cases h3 : i < m ∧ dstAt ops i = some t
        · rw [if_pos h3, if_pos ⟨by omega, h3.2⟩]
        · rw [if_neg h3, if_neg]
          rintro ⟨h1, h2⟩
          exact h3 ⟨by omega, h2⟩

def cnt (listed : Array Bool) : Nat → Nat
  | 0 => 0
  | m + 1 => cnt listed m + if listed.getD m true = false then 1 else 0
theorem cnt_same {listed : Array Bool} {i : Nat} : ∀ m, m ≤ i → cnt (listed.setIfInBounds i true) m = cnt listed m
  | 0, _ => rfl
  | m + 1, h => by
    simp only [cnt]
    rw [cnt_same m (by omega), getD_set_ne true (by omega)]
theorem cnt_set {listed : Array Bool} {i : Nat} (hi : listed.getD i true = false) : ∀ m, i < m → cnt (listed.setIfInBounds i true) m + 1 = cnt listed m
  | m + 1, h => by
    simp only [cnt]
    by_cases hmi : m = i
    · subst hmi
      rw [cnt_same m (Nat.le_refl _), if_pos hi]
      have : (listed.setIfInBounds m true).getD m true = true := by
        by_cases hs : m < listed.size
        · simp [hs]
        · simp [hs]
      rw [if_neg (by rw [this]; simp)]
    · rw [getD_set_ne true (Ne.symm hmi)]
      have := cnt_set hi m (by omega)
      omega
theorem cnt_zero {listed : Array Bool} : ∀ m, cnt listed m = 0 → ∀ j, j < m → listed.getD j true = true
  | m + 1, h, j, hj => by
    simp only [cnt] at h
    by_cases hjm : j = m
    · subst hjm
      cases hb : listed.getD j true with
      | true => rfl
      | false => rw [if_pos hb] at h; omega
    · exact cnt_zero m (by omega) j (by omega)
theorem cnt_all {listed : Array Bool} : ∀ m, (∀ j, j < m → listed.getD j true = true) → cnt listed m = 0
  | 0, _ => rfl
  | m + 1, h => by
    simp only [cnt]
    rw [cnt_all m fun j hj => h j (by omega), if_neg (by rw [h m (Nat.lt_succ_self _)]; simp)]

theorem getD_tf {listed : Array Bool} {j : Nat} (h : j < listed.size) : listed.getD j true = listed.getD j false := by simp [h]

def Closed (ops : Array Oper) (listed : Array Bool) : Prop := ∀ i j, Pre ops i j → listed.getD j false = true → listed.getD i false = true
theorem ready_pre {listed : Array Bool} (hc : Closed ops listed) {i : Nat} (hr : i ∈ Region.ready .any ops listed) {j : Nat} (hp : Pre ops j i) : listed.getD j false = true := by
  obtain ⟨_, o, ho, hall⟩ := mem_ready.1 hr
  cases hp with
  | one ho' he hb hi => rw [ho] at ho'; cases ho'; rw [← hi]; exact hall _ he hb
  | more ho' he hb hi => rw [ho] at ho'; cases ho'; exact hc _ _ hi (hall _ he hb)
theorem Closed.set {listed : Array Bool} (hc : Closed ops listed) {i : Nat} (hr : i ∈ Region.ready .any ops listed) : Closed ops (listed.setIfInBounds i true) := by
  intro k j hp hl
  by_cases hij : i = j
  · subst hij; exact getD_set_true (ready_pre hc hr hp)
  · rw [getD_set_ne false hij] at hl
    exact getD_set_true (hc k j hp hl)
theorem ready_first {n len : Nat} (fo : FlowOk ops len n) {listed : Array Bool} {i : Nat} (hi : i < ops.size) (hl : listed.getD i true = false) (hb : ∀ j, j < i → listed.getD j false = true) :
    i ∈ Region.ready .any ops listed := by
  refine mem_ready.2 ⟨hl, ops[i], by simp [hi], fun e he hbd => hb _ (fo.back i ops[i] e (by simp [hi]) he hbd)⟩
theorem exists_first {p : Nat → Prop} [DecidablePred p] : ∀ m, (∃ i, i < m ∧ ¬ p i) → ∃ i, i < m ∧ ¬ p i ∧ ∀ j, j < i → p j
  | 0, h => by obtain ⟨i, h, _⟩ := h; omega
  | m + 1, h => by
    by_cases h' : ∃ i, i < m ∧ ¬ p i
    · obtain ⟨i, h1, h2, h3⟩ := exists_first m h'
      exact ⟨i, by omega, h2, h3⟩
    · obtain ⟨i, h1, h2⟩ := h
      have : i = m := by
        rcases Nat.lt_or_ge i m with h3 | h3
        · exact absurd ⟨i, h3, h2⟩ h'
        · omega
      subst this
      refine ⟨i, h1, h2, fun j hj => ?_⟩
      by_cases hp : p j
      · exact hp
      · exact absurd ⟨j, hj, hp⟩ h'

theorem isPv_rd {o : Oper} (h : isPv o = true) : isRd o = true := by
  unfold isPv at h
  unfold isRd
  split at h <;> first
    | (rename_i he; rw [he]; done)
    | (rename_i he; simp only [he]; done)
    | cases h
theorem apart_of {x y : Oper} (h : confB ops x y = false) : x.apart ops y = true ∧ y.apart ops x = true := by
  unfold confB at h
  unfold Oper.apart
  cases hx : x.dst <;> cases hy : y.dst <;> simp_all
  intro e; subst e; simp_all
theorem eager {n len : Nat} (fo : FlowOk ops len n) {Q : Exit → Act → World → Prop} (hQ : ∀ (i : Nat) o c a v w, ops[i]? = some o → Q (.panic c) (Act.put a o.dst v) w → Q (.panic c) a w) {i : Nat} {oi : Oper} {v : Value} {fuel : Nat} {listed : Array Bool} {a : Act} {w : World}
    (ho : ops[i]? = some oi) (hs : listed.size = ops.size) (hc : Closed ops listed) (hr : i ∈ Region.ready .any ops listed) (hy : Yields P ops oi v a)
    (h : wpAny P .any ops Q fuel (listed.setIfInBounds i true) (a.put oi.dst v) w) : wpAny P .any ops Q (fuel + 1) listed a w := by
  refine wpAny_first ho fo.sel (fun c a w h => hQ i oi c a v w ho h) fuel listed a w ?_ hr hy h
  intro j oj hoj hji hl he
  have hjs := (Array.getElem?_eq_some_iff.1 hoj).1
  rcases Nat.lt_or_ge i j with h' | h'
  · refine (apart_of (x := oi) (y := oj) ?_).1
    cases hcf : confB ops oi oj with
    | false => rfl
    | true =>
      obtain ⟨e, he1, he2, he3⟩ := fo.dir i j oi oj ho hoj h' hcf
      exact absurd he3 (he e he1 he2)
  · refine (apart_of (x := oj) (y := oi) ?_).2
    cases hcf : confB ops oj oi with
    | false => rfl
    | true =>
      have := ready_pre hc hr (fo.conf j i oj oi hoj ho (by omega) hcf)
      rw [← getD_tf (by omega), hl] at this; cases this
theorem tail_run {n len : Nat} (fo : FlowOk ops len n) {Q : Exit → Act → World → Prop} (hQ : ∀ (i : Nat) o c a v w, ops[i]? = some o → Q (.panic c) (Act.put a o.dst v) w → Q (.panic c) a w) {all : List Oper} (hall : ∀ j : Nat, all[j]? = ops[j]?) :
    ∀ (l : List Oper) (k fuel : Nat) (listed : Array Bool) (f : Fr) (w : World) (kk : Fr → World → Prop),
    (∀ j, l[j]? = ops[k + j]?) → n ≤ k → listed.size = ops.size → Closed ops listed → (∀ j, j < k → listed.getD j false = true) → (∀ j, k ≤ j → j < ops.size → listed.getD j true = false) →
    cnt listed ops.size = fuel → vcOps P pn all l f w kk → (∀ ch (a : Act) w, PanAt ds (dsts l) f a → PnOf pn ch w → Q (.panic ch) a w) → (∀ f' w', kk f' w' → Agree (dsts l) f f' → Q .normal (act ds f') w') → wpAny P .any ops Q fuel listed (act ds f) w
  | [], k, fuel, listed, f, w, kk, hl, hn, hs, hc, h1, h2, hf, h, _, hk => by
    have hk0 : ops.size ≤ k := by
      rcases Nat.lt_or_ge k ops.size with h' | h'
      · have := hl 0; simp [h'] at this
      · exact h'
    have hr : Region.ready .any ops listed = [] := by
      rw [List.eq_nil_iff_forall_not_mem]
      intro i hi
      obtain ⟨h0, o, ho, _⟩ := mem_ready.1 hi
      have hlt := (Array.getElem?_eq_some_iff.1 ho).1
      rw [getD_tf (by omega), h1 i (by omega)] at h0; cases h0
    have : cnt listed ops.size = 0 := cnt_all _ fun j hj => by rw [getD_tf (by omega)]; exact h1 j (by omega)
    rw [this] at hf; subst hf
    exact ⟨hr, hk f w h (.refl _ _)⟩
  | o :: l, k, fuel, listed, f, w, kk, hl, hn, hs, hc, h1, h2, hf, h, hP, hk => by
    have ho : ops[k]? = some o := by simpa using (hl 0).symm
    have hks : k < ops.size := (Array.getElem?_eq_some_iff.1 ho).1
    have hrk : k ∈ Region.ready .any ops listed := ready_first fo hks (h2 k (Nat.le_refl _) hks) h1
    have hcs := cnt_set (h2 k (Nat.le_refl _) hks) ops.size hks
    obtain ⟨fu, rfl⟩ : ∃ f, fuel = f + 1 := ⟨cnt (listed.setIfInBounds k true) ops.size, by omega⟩
    have next : ∀ (g : Fr) (x : FV) (w' : World), act ds g = act ds f → Agree (dsts (o :: l)) f g → force (fput g o.dst x) (fun f' => vcOps P pn all l f' w' kk) →
        wpAny P .any ops Q fu (listed.setIfInBounds k true) ((act ds f).put o.dst x.den) w' := by
      intro g x w' hg hag hx
      rw [force_eq] at hx
      rw [← hg, ← act_fput]
      refine tail_run fo hQ hall l (k + 1) fu _ _ w' kk (fun j => by have := hl (j + 1); simpa [Nat.add_assoc, Nat.add_comm 1 j] using this) (by omega) (by simp [hs]) (hc.set hrk) ?_ ?_ (by omega) hx (fun ch a w q => hP ch a w (PanAt.back (hag.trans (Agree.fput fun t ht => mem_dsts ht)) (fun t ht => dsts_tail ht) q))
        fun f' w' hk' hag' => hk f' w' hk' (hag.trans ((Agree.fput fun t ht => mem_dsts ht).trans (hag'.mono fun t ht => dsts_tail ht)))
      · intro j hj
        by_cases hji : k = j
        · subst hji; exact getD_set_self (by omega)
        · rw [getD_set_ne false hji]; exact h1 j (by omega)
      · intro j hj hj'
        rw [getD_set_ne true (by omega)]; exact h2 j (by omega) hj'
    have skip : ∀ g : Fr, act ds g = act ds f → Agree (dsts (o :: l)) f g → Region.wanted o (yielded ops (act ds f).tmps) = false →
        force (fput g o.dst .un) (fun f' => vcOps P pn all l f' w kk) → wpAny P .any ops Q (fu + 1) listed (act ds f) w := by
      intro g hg hag hw hx
      exact eager fo hQ ho hs hc hrk (.inr ⟨hw, rfl⟩) (next g .un w hg hag hx)
    have run : ∀ g : Fr, act ds g = act ds f → Agree (dsts (o :: l)) f g → Region.wanted o (yielded ops (act ds f).tmps) = true →
        vcOp P pn o g w (fun v w' => force (fput g o.dst v) fun f' => vcOps P pn all l f' w' kk) → wpAny P .any ops Q (fu + 1) listed (act ds f) w := by
      intro g hg hag hw hx
      by_cases hp : isPv o = true
      · unfold vcOp at hx
        rw [isPv_rd hp] at hx
        obtain ⟨x, hx1, hx2⟩ := vcRd_spec hx
        refine eager fo hQ ho hs hc hrk (.inl ⟨hw, fun w' => ?_⟩) (next g x w hg hag hx2)
        rw [← hg, act_eval]; exact hx1 w' (.inr hp)
      · refine ⟨fun h => by rw [h] at hrk; simp at hrk, fun i hi => ?_⟩
        have hik : i = k := by
          obtain ⟨h0, oi, hoi, _⟩ := mem_ready.1 hi
          have hlt := (Array.getElem?_eq_some_iff.1 hoi).1
          rcases Nat.lt_trichotomy i k with h' | h' | h'
          · rw [getD_tf (by omega), h1 i h'] at h0; cases h0
          · exact h'
          · have := ready_pre hc hi (fo.tail i (by omega) hlt k o h' ho (by simpa using hp))
            rw [← getD_tf (by omega), h2 k (Nat.le_refl _) hks] at this; cases this
        subst hik
        unfold wpOp
        simp only [ho]
        rw [if_pos hw]
        refine .inl (OpOk.wp (k := _) (fun ch w' q => hP ch _ w' (PanAt.act _ _) q) (by rw [← hg, act_eval]; exact vcOp_spec hx) ?_)
        rintro v w' ⟨x, rfl, hx⟩
        exact next g x w' hg hag hx
    unfold vcOps at h
    split at h
    · rename_i hgd
      exact run f rfl (.refl _ _) (by simp [Region.wanted, hgd]) h
    · rename_i j b hgd
      split at h
      · exact h.elim
      · rename_i s hs'
        have hy := yielded_act (ds := ds) hall (f := f) hs'
        split at h
        · rename_i c hc'
          have hw : Region.wanted o (yielded ops (act ds f).tmps) = (c == b) := by
            simp only [Region.wanted, hgd, hy, hc', FV.den]
            cases c <;> cases b <;> rfl
          split at h
          · rename_i he; exact run f rfl (.refl _ _) (hw.trans he) h
          · rename_i he; exact skip f rfl (.refl _ _) (hw.trans he) h
        · rename_i c hc'
          have hw : Region.wanted o (yielded ops (act ds f).tmps) = (c == b) := by
            simp only [Region.wanted, hgd, hy, hc', FV.den]
            cases c <;> cases b <;> rfl
          have hd : (FV.lit c).den = (fget f s).den := by rw [hc']; rfl
          have hag : Agree (dsts (o :: l)) f (fset f s (.lit c)) := ⟨length_fset _ _ _, fun t _ => fset_same_den hd t⟩
          cases c with
          | true =>
            have h := h.1 rfl
            split at h
            · rename_i he; exact run _ (act_same hd) hag (hw.trans he) h
            · rename_i he; exact skip _ (act_same hd) hag (hw.trans he) h
          | false =>
            have h := h.2 rfl
            split at h
            · rename_i he; exact run _ (act_same hd) hag (hw.trans he) h
            · rename_i he; exact skip _ (act_same hd) hag (hw.trans he) h
        · rename_i hc'
          have hw : Region.wanted o (yielded ops (act ds f).tmps) = false := by
            simp only [Region.wanted, hgd, hy, hc', FV.den, undef]
            rfl
          exact skip f rfl (.refl _ _) hw h
        · exact h.elim

theorem bind_ok {α β : Type} {P : Program} {s : Sem α} {f : α → Sem β} {w w' : World} {v : β} (h : (s >>= f).run P w = .ok v w') : ∃ x w1, s.run P w = .ok x w1 ∧ (f x).run P w1 = .ok v w' := by
  rw [Sem.run_bind] at h
  cases hr : s.run P w with
  | halt => rw [hr] at h; cases h
  | ok x w1 => rw [hr] at h; exact ⟨x, w1, rfl, h⟩
theorem underlying_w {P : Program} {t : TypeId} {w w' : World} {x} (h : (underlying t).run P w = .ok x w') : w' = w := by
  unfold underlying at h
  simp only [Sem.run_bind, run_program, Result.andThen_ok] at h
  split at h
  · simp at h; exact h.2.symm
  · simp at h
theorem asInt_w {P : Program} {v : Value} {w w' : World} {x} (h : (asInt v).run P w = .ok x w') : w' = w := by
  obtain ⟨y, w1, h1, h2⟩ := bind_ok h
  have e2 : w1 = w' := by simp at h2; exact h2.2
  subst e2
  unfold asIntOf at h1
  split at h1
  · simp at h1; exact h1.2.symm
  · simp [unsupported] at h1
  · simp at h1
theorem typeInfo_w {P : Program} {t : TypeId} {w w' : World} {x} (h : (typeInfo t).run P w = .ok x w') : w' = w := by
  unfold typeInfo at h
  simp only [Sem.run_bind, run_program, Result.andThen_ok] at h
  split at h
  · simp at h; exact h.2.symm
  · simp at h
theorem sizeOf_w {P : Program} {t : TypeId} {w w' : World} {x} (h : (sizeOf t).run P w = .ok x w') : w' = w := by
  obtain ⟨y, w1, h1, h2⟩ := bind_ok h
  simp at h2
  rw [← h2.2]; exact typeInfo_w h1
theorem zero_w {P : Program} {t : TypeId} {w w' : World} {x} (h : (zeroValue t).run P w = .ok x w') : w' = w := by
  obtain ⟨y, w1, h1, h2⟩ := bind_ok h
  split at h2
  · simp at h2; rw [← h2.2]; exact typeInfo_w h1
  · simp [unsupported] at h2
theorem askRoom_w {P : Program} {n : Nat} {w w' : World} {x} (h : (askRoom n).run P w = .ok x w') : w' = w := by
  unfold askRoom at h
  split at h
  · have h : Result.ok () w = .ok x w' := h
    injection h with _ h; exact h.symm
  · simp at h; exact h.symm
theorem panic_no {α : Type} {P : Program} {m : String} {f : Unit → Sem α} {w w' : World} {v : α} (h : (runtimePanic (.error m) >>= f).run P w = .ok v w') : False := by
  obtain ⟨_, _, h1, _⟩ := bind_ok h
  unfold runtimePanic at h1
  simp [goPanic] at h1
theorem makeSlice_fresh {P : Program} {t : TypeId} {l c v : Value} {w w' : World} (h : (Instr.makeSlice t l c).run P w = .ok v w') : ∃ n m, v = .slice (some ⟨w.heap.size, 0, none⟩) n m ∧ w.heap.size < w'.heap.size := by
  unfold Instr.makeSlice at h
  obtain ⟨td, w1, h1, h2⟩ := bind_ok h
  clear h
  cases underlying_w h1
  split at h2
  · obtain ⟨x, w1, h3, h4⟩ := bind_ok h2
    clear h2
    cases asInt_w h3
    obtain ⟨y, w1, h5, h6⟩ := bind_ok h4
    clear h4
    cases asInt_w h5
    obtain ⟨i, w1, h7, h8⟩ := bind_ok h6
    clear h6
    cases typeInfo_w h7
    dsimp only at h8
    have last : ∀ {z : Array Value} {a : TypeId} {n m : Nat} {w1 : World}, (do let a ← newRow a z; pure (Value.slice (some a) n m) : Sem Value).run P w1 = .ok v w' → ∃ n m, v = .slice (some ⟨w1.heap.size, 0, none⟩) n m ∧ w1.heap.size < w'.heap.size := by
      intro z a n m w1 h
      have h : Result.ok (Value.slice (some ⟨w1.heap.size, 0, none⟩) n m) (w1.alloc (.cells z a)) = .ok v w' := h
      injection h with e1 e2
      exact ⟨n, m, e1.symm, by rw [← e2]; simp⟩
    split at h8
    · split at h8
      · exact (panic_no h8).elim
      · split at h8
        · exact (panic_no h8).elim
        · obtain ⟨_, _, _, h9⟩ := bind_ok h8
          exact (panic_no h9).elim
    · obtain ⟨_, w1, ha, hb⟩ := bind_ok h8
      clear h8
      cases askRoom_w ha
      obtain ⟨_, w1, hc, hd⟩ := bind_ok hb
      clear hb
      cases sizeOf_w hc
      split at hd
      · exact last hd
      · obtain ⟨_, w1, he, hf⟩ := bind_ok hd
        cases zero_w he
        exact last hf
  · simp at h2
def vblk : Value → Option Nat
  | .pointer (some a) => some a.block
  | .slice (some a) _ _ => some a.block
  | _ => none
def isAlc (o : Oper) : Bool :=
  match o.op with
  | .box .. | .alloc .. | .makeSlice .. => true
  | _ => false
def AlcAt (ops : Array Oper) (i : Nat) : Prop := ∃ o, ops[i]? = some o ∧ isAlc o = true
theorem OpOk.alc {P : Program} {pn : Pm} {ev : Operand → Value} {o : Oper} {w : World} {k : Value → World → Prop} (h : OpOk P pn (execOp ev o) w k) :
    OpOk P pn (execOp ev o) w fun v w' => k v w' ∧ (isAlc o = true → ∃ b, vblk v = some b ∧ b = w.heap.size ∧ w.heap.size < w'.heap.size) := by
  cases ha : isAlc o with
  | false => exact h.mono fun v w' hk => ⟨hk, fun e => (Bool.noConfusion e)⟩
  | true =>
    obtain ⟨dst, op, type, pos, after, guard⟩ := o
    have key : ∀ {s : Sem Value}, execOp ev ⟨dst, op, type, pos, after, guard⟩ = (do pure (Next.value (← s))) → (∀ v w', s.run P w = .ok v w' → vblk v = some w.heap.size ∧ w.heap.size < w'.heap.size) →
        OpOk P pn (execOp ev ⟨dst, op, type, pos, after, guard⟩) w fun v w' => k v w' ∧ (true = true → ∃ b, vblk v = some b ∧ b = w.heap.size ∧ w.heap.size < w'.heap.size) := by
      intro s he hs
      unfold OpOk at h ⊢
      rw [he] at h ⊢
      cases hr : s.run P w with
      | halt x w' =>
        rw [Sem.run_bind, hr] at h
        exact h.elim
      | ok v w' =>
        rw [run_v hr] at h ⊢
        obtain ⟨h1, h2⟩ := hs v w' hr
        exact ⟨h, fun _ => ⟨_, h1, rfl, h2⟩⟩
    cases op <;> simp only [isAlc] at ha <;> first
      | cases ha
      | skip
    · refine key rfl fun v w' hr => ?_
      unfold Instr.alloc zeroValue typeInfo at hr
      simp only [Sem.run_bind, run_program, Result.andThen_ok] at hr
      rename_i e
      cases hi : P.info? e with
      | none => rw [hi] at hr; simp at hr
      | some i =>
        rw [hi] at hr
        simp only [Sem.run_pure, Result.andThen_ok] at hr
        cases hz : i.zero with
        | none => rw [hz] at hr; simp at hr
        | some z =>
          rw [hz] at hr
          simp only [Sem.run_pure, Result.andThen_ok] at hr
          have hr2 : (Result.ok (Value.pointer (some ⟨w.heap.size, 0, none⟩)) (w.alloc (.cells z.cells e)) : Result Value) = .ok v w' := hr
          injection hr2 with e1 e2
          exact ⟨by rw [← e1]; rfl, by rw [← e2]; simp⟩
    · refine key rfl fun v w' hr => ?_
      rename_i e x
      have hr2 : (Result.ok (Value.pointer (some ⟨w.heap.size, 0, none⟩)) (w.alloc (.cells (ev x).cells e)) : Result Value) = .ok v w' := hr
      injection hr2 with e1 e2
      exact ⟨by rw [← e1]; rfl, by rw [← e2]; simp⟩
    · refine key rfl fun v w' hr => ?_
      obtain ⟨n, m, rfl, h2⟩ := makeSlice_fresh hr
      exact ⟨rfl, h2⟩
def lwB (ops : Array Oper) (f0 : Fr) (val : Nat → Value) (i : Nat) : Bool := (ops[i]?).any fun o => !isRd o && wnt ops (lk ops f0 val i) o
def doneD (ops : Array Oper) (f0 : Fr) (n : Nat) (listed : Array Bool) (val : Nat → Value) : Nat → Bool := fun i => decide (i < n) && listed.getD i false && lwB ops f0 val i
theorem lwB_iff {ops : Array Oper} {f0 : Fr} {val : Nat → Value} {i : Nat} : lwB ops f0 val i = true ↔ LW ops f0 val i := by
  unfold lwB LW
  cases ho : ops[i]? with
  | none => simp
  | some o => simp
theorem lwB_congr {ops : Array Oper} {f0 : Fr} {val val' : Nat → Value} {i : Nat} (h : LW ops f0 val i ↔ LW ops f0 val' i) : lwB ops f0 val i = lwB ops f0 val' i := by
  rw [Bool.eq_iff_iff, lwB_iff, lwB_iff, h]
structure Inv (ds : List Deferred) (P : Program) (pn : Pm) (ops : Array Oper) (E : Rel) (Φ : (Nat → Bool) → Facts) (G : Nat → Rel) (St : (Nat → Bool) → World → Prop) (w0 : World) (f0 : Fr) (n : Nat) (listed : Array Bool) (a : Act) (w : World) (res val : Nat → Value) : Prop where
  size : listed.size = ops.size
  closed : Closed ops listed
  tl : ∀ t, n ≤ t → t < ops.size → listed.getD t true = false
  typed : ∀ i o, ops[i]? = some o → ∃ x, res i = (rsOf P o).val x
  ok : ∀ j, j < n → Vok P pn ops E Φ G St w0 f0 res val j
  asize : a.tmps.size = f0.length
  adef : a.defers = ds
  look : ∀ t, a.tmps.getD t undef = mlk ops f0 listed val ops.size t
  below : E w0 w
  quiet : (∀ i, i < n → listed.getD i false = true → ¬ LW ops f0 val i) → w = w0
  facts : ∀ i, i < n → listed.getD i false = true → LW ops f0 val i → FactAt ops (Φ (doneD ops f0 n listed val)) f0 val i w
  cntS : St (doneD ops f0 n listed val) w
  alc : (∀ a b, E a b → a.heap.size ≤ b.heap.size) → ∀ i, i < n → listed.getD i false = true → LW ops f0 val i → AlcAt ops i → ∃ b, vblk (val i) = some b ∧ b < w.heap.size
  dis : (∀ a b, E a b → a.heap.size ≤ b.heap.size) → ∀ i j, i < n → j < n → i ≠ j → listed.getD i false = true → listed.getD j false = true → LW ops f0 val i → LW ops f0 val j → AlcAt ops i → AlcAt ops j → vblk (val i) ≠ vblk (val j)

theorem put_getD {a : Act} {d : Option Nat} {v : Value} {t : Nat} (h : ∀ s, d = some s → s < a.tmps.size) : (a.put d v).tmps.getD t undef = if d = some t then v else a.tmps.getD t undef := by
  cases d with
  | none => simp [Act.put]
  | some s =>
    have := h s rfl
    simp only [Act.put, Array.getD_eq_getD_getElem?, Option.some.injEq, Array.getElem?_setIfInBounds]
    by_cases hs : s = t
    · subst hs; simp [this]
    · simp [hs]
theorem put_size (a : Act) (d : Option Nat) (v : Value) : (a.put d v).tmps.size = a.tmps.size := by cases d <;> simp [Act.put]
theorem put_defers (a : Act) (d : Option Nat) (v : Value) : (a.put d v).defers = a.defers := by cases d <;> rfl

theorem head_run {G : Nat → Rel} {St : (Nat → Bool) → World → Prop} (hE : ∀ w, E w w) (hS0 : St (fun _ => false) w0) (hT : ∀ a b c, E a b → E b c → E a c) {n : Nat} (fo : FlowOk ops f0.length n) (hn : n ≤ ops.size) {Q : Exit → Act → World → Prop} (hQ : ∀ (i : Nat) o c a v w, ops[i]? = some o → Q (.panic c) (Act.put a o.dst v) w → Q (.panic c) a w) (hP : ∀ ch (a : Act) w, PanAt ds (dsts ops.toList) f0 a → PnOf pn ch w → Q (.panic ch) a w) {T : Act → World → Prop}
    (hTl : ∀ (fuel : Nat) (listed : Array Bool) (a : Act) (w : World), listed.size = ops.size → Closed ops listed → (∀ j, j < n → listed.getD j false = true) → (∀ j, n ≤ j → j < ops.size → listed.getD j true = false) →
      cnt listed ops.size = fuel → T a w → wpAny P .any ops Q fuel listed a w)
    (hΦ : ∀ i j D ags v w w', i ≠ j → D i = true → D j = false → Φ D i ags v w → E w w' → G j w w' → Φ (setD D j) i ags v w')
    (hrun : ∀ res : Nat → Value, (∀ i o, ops[i]? = some o → ∃ x, res i = (rsOf P o).val x) → ∃ val, (∀ j, j < n → Vok P pn ops E Φ G St w0 f0 res val j) ∧
      ∀ (a : Act) (w : World), a.tmps.size = f0.length → a.defers = ds → (∀ t, a.tmps.getD t undef = lk ops f0 val n t) → E w0 w →
        ((∀ i, i < n → ¬ LW ops f0 val i) → w = w0) → (∀ i, i < n → LW ops f0 val i → FactAt ops (Φ (fun i => decide (i < n) && lwB ops f0 val i)) f0 val i w) → ((∀ a b, E a b → a.heap.size ≤ b.heap.size) → ∀ i j, i < n → j < n → i ≠ j → LW ops f0 val i → LW ops f0 val j → AlcAt ops i → AlcAt ops j → vblk (val i) ≠ vblk (val j)) → St (fun i => decide (i < n) && lwB ops f0 val i) w → T a w) :
    ∀ (fuel : Nat) (listed : Array Bool) (a : Act) (w : World) (res val : Nat → Value), cnt listed ops.size = fuel → Inv ds P pn ops E Φ G St w0 f0 n listed a w res val → wpAny P .any ops Q fuel listed a w := by
  intro fuel
  induction fuel with
  | zero =>
    intro listed a w res val hc inv
    have hall := cnt_zero _ hc
    have hn0 : n = ops.size := by
      rcases Nat.lt_or_ge n ops.size with h | h
      · have := inv.tl n (Nat.le_refl _) h; rw [hall n h] at this; cases this
      · omega
    obtain ⟨val', hv', hfin⟩ := hrun res inv.typed
    have hind := val_indep hE hS0 fo (L := fun j => listed.getD j false = true) inv.closed inv.ok hv' (fun _ _ => rfl)
    have hls : ∀ j, j < ops.size → listed.getD j false = true := fun j hj => by rw [← getD_tf (by rw [inv.size]; exact hj)]; exact hall j hj
    have hvv : ∀ j, j < n → val j = val' j := fun j hj => hind j hj (by omega) (hls j (by omega))
    have hlw : ∀ i, i < n → LW ops f0 val' i → LW ops f0 val i := fun i hi h => LW_congr (fun k hk => (hvv k (by omega)).symm) h
    have hDD : doneD ops f0 n listed val = fun i => decide (i < n) && lwB ops f0 val' i := by
      funext i
      unfold doneD
      by_cases hi : i < n
      · rw [hls i (by omega), lwB_congr ⟨fun h => LW_congr (fun k hk => hvv k (by omega)) h, hlw i hi⟩, Bool.and_true]
      · simp [hi]
    have := hfin a w inv.asize inv.adef (fun t => by
        rw [inv.look t, ← mlk_lk n (listed := listed) (fun j hj _ => hls j (by omega)), hn0]
        exact mlk_congr _ fun j hj _ => hvv j (by omega)) inv.below
      (fun h => inv.quiet fun i hi _ hl => h i hi (LW_congr (fun k hk => hvv k (by omega)) hl))
      (fun i hi hl => by rw [← hDD]; exact FactAt_congr (fun k hk => hvv k (by omega)) (inv.facts i hi (hls i (by omega)) (hlw i hi hl)))
      (fun hS i j hi hj hij hl hl' ai aj => by rw [← hvv i hi, ← hvv j hj]; exact inv.dis hS i j hi hj hij (hls i (by omega)) (hls j (by omega)) (hlw i hi hl) (hlw j hj hl') ai aj)
      (by
        have e : doneD ops f0 n listed val = fun i => decide (i < n) && lwB ops f0 val' i := by
          funext i
          unfold doneD
          by_cases hi : i < n
          · rw [hls i (by omega), lwB_congr ⟨fun h => LW_congr (fun k hk => hvv k (by omega)) h, hlw i hi⟩, Bool.and_true]
          · simp [hi]
        rw [← e]; exact inv.cntS)
    exact hTl 0 listed a w inv.size inv.closed (fun j hj => hls j (by omega)) inv.tl hc this
  | succ fuel ih =>
    intro listed a w res val hc inv
    by_cases hheads : ∃ i, i < n ∧ ¬ listed.getD i false = true
    · obtain ⟨i0, h1, h2, h3⟩ := exists_first n hheads
      have hr0 := ready_first fo (i := i0) (by omega) (by rw [getD_tf (by rw [inv.size]; omega)]; simpa using h2) h3
      have main : ∀ i, i ∈ Region.ready .any ops listed → i < n → ∀ o, ops[i]? = some o →
          (∀ v, isPv o = true → Yields P ops o v a → wpAny P .any ops Q fuel (listed.setIfInBounds i true) (a.put o.dst v) w) ∧
          (isPv o = true → ∃ v, Yields P ops o v a) ∧
          wpOp P ops Q i (wpAny P .any ops Q fuel (listed.setIfInBounds i true)) a w := by
       intro i hi hin o ho
       obtain ⟨hu, _, _, _⟩ := mem_ready.1 hi
       have hilt := (Array.getElem?_eq_some_iff.1 ho).1
       have hisz : i < listed.size := by rw [inv.size]; exact hilt
       have huf : listed.getD i false = false := by rw [← getD_tf hisz]; exact hu
       have hdi : dstAt ops i = o.dst := by simp [dstAt, ho]
       have hcs := cnt_set hu ops.size hilt
       have hlater : ∀ j t, i ≤ j → dstAt ops j = some t → (t ∈ o.looksAt ops ∨ o.dst = some t) → listed.getD j false = false := by
         intro j t hij hd ht
         rcases Nat.eq_or_lt_of_le hij with h | h
         · subst h; exact huf
         · obtain ⟨oj, hoj, hdj⟩ := dstAt_some hd
           cases hb : listed.getD j false with
           | false => rfl
           | true =>
             have hcf : confB ops o oj = true := by
               rcases ht with ht | ht
               · exact confB_look hdj ht
               · exact confB_dst ht (.inr hdj)
             have := inv.closed i j (fo.conf i j o oj ho hoj h hcf) hb
             rw [huf] at this; cases this
       have hlook : ∀ t ∈ o.looksAt ops, a.tmps.getD t undef = lk ops f0 val i t := by
         intro t ht
         rw [inv.look t]
         have := mlk_up (ops := ops) (f0 := f0) (val := val) (i := i) (ops.size - i) fun j hij hd => hlater j t hij hd (.inl ht)
         rw [show i + (ops.size - i) = ops.size by omega] at this
         rw [this]
         refine mlk_lk i fun j hj hd => ?_
         obtain ⟨oj, hoj, hdj⟩ := dstAt_some hd
         exact ready_pre inv.closed hi (fo.conf j i oj o hoj ho hj (confB_dst hdj (.inl ht)))
       have hw : Region.wanted o (yielded ops a.tmps) = wnt ops (lk ops f0 val i) o := by rw [wnt_eq]; exact wnt_congr hlook
       have he : execOp a.eval o = execOp (evl (lk ops f0 val i)) o := by
         rw [act_evl]; exact execOp_congr o (fun cs b => fo.sel i o cs b ho) (evl_congr hlook)
       have hdlen : ∀ s, o.dst = some s → s < a.tmps.size := fun s hs => by rw [inv.asize]; exact fo.len i s (by rw [hdi, hs])
       have inv' : ∀ (res' val' : Nat → Value) (w' : World), (∀ i o, ops[i]? = some o → ∃ x, res' i = (rsOf P o).val x) → (∀ j, j < n → Vok P pn ops E Φ G St w0 f0 res' val' j) →
           (∀ j, j < ops.size → listed.getD j false = true → val j = val' j) → E w w' → (∀ D', (LW ops f0 val' i → D' = setD (doneD ops f0 n listed val) i) → (¬ LW ops f0 val' i → D' = doneD ops f0 n listed val) → ∀ k, k < n → listed.getD k false = true → LW ops f0 val' k → FactAt ops (Φ D') f0 val' k w') →
           (LW ops f0 val' i → FactAt ops (Φ (setD (doneD ops f0 n listed val) i)) f0 val' i w') → (¬ LW ops f0 val' i → w' = w) → (LW ops f0 val' i → AlcAt ops i → ∃ b, vblk (val' i) = some b ∧ w.heap.size ≤ b ∧ b < w'.heap.size) → (LW ops f0 val' i → St (setD (doneD ops f0 n listed val) i) w') → (¬ LW ops f0 val' i → St (doneD ops f0 n listed val) w') →
           Inv ds P pn ops E Φ G St w0 f0 n (listed.setIfInBounds i true) (a.put o.dst (val' i)) w' res' val' := by
         intro res' val' w' ht hok hsame hbw hf hfi hqi hal hst hst2
         have hLW : ∀ k, k < n → listed.getD k false = true → (LW ops f0 val k ↔ LW ops f0 val' k) := by
           intro k hk hl
           have : ∀ o, ops[k]? = some o → wnt ops (lk ops f0 val k) o = wnt ops (lk ops f0 val' k) o := fun o' ho' => wnt_congr fun t ht => lk_congr k t fun j hj hd => by
             obtain ⟨oj, hoj, hdj⟩ := dstAt_some hd
             exact hsame j (by omega) (inv.closed j k (fo.conf j k oj o' hoj ho' hj (confB_dst hdj (.inl ht))) hl)
           constructor
           · rintro ⟨o', ho', h1, h2⟩; exact ⟨o', ho', h1, by rw [← this o' ho']; exact h2⟩
           · rintro ⟨o', ho', h1, h2⟩; exact ⟨o', ho', h1, by rw [this o' ho']; exact h2⟩
         have hD : ∀ k, k ≠ i → doneD ops f0 n (listed.setIfInBounds i true) val' k = doneD ops f0 n listed val k := by
           intro k hki
           unfold doneD
           by_cases hk : k < n
           · rw [getD_set_ne false (fun e => hki e.symm)]
             cases hl : listed.getD k false with
             | false => simp
             | true => rw [lwB_congr (hLW k hk hl)]
           · simp [hk]
         have eD1 : LW ops f0 val' i → doneD ops f0 n (listed.setIfInBounds i true) val' = setD (doneD ops f0 n listed val) i := fun hlw => by
           funext k
           unfold setD
           by_cases hki : k = i
           · subst hki
             simp [doneD, hin, getD_set_self hisz, lwB_iff.2 hlw]
           · rw [hD k hki]; simp [hki]
         have eD2 : ¬ LW ops f0 val' i → doneD ops f0 n (listed.setIfInBounds i true) val' = doneD ops f0 n listed val := fun hlw => by
           funext k
           by_cases hki : k = i
           · subst hki
             have : lwB ops f0 val' k = false := by
               cases hb : lwB ops f0 val' k with
               | false => rfl
               | true => exact absurd (lwB_iff.1 hb) hlw
             simp [doneD, this, huf]
           · exact hD k hki
         refine ⟨by simp [inv.size], inv.closed.set hi, fun t ht' hlt => by rw [getD_set_ne true (by omega)]; exact inv.tl t ht' hlt, ht, hok, by rw [put_size]; exact inv.asize, by rw [put_defers]; exact inv.adef, fun t => ?_,
           hT _ _ _ inv.below hbw, fun hq => ?_, fun k hk hl hlw => ?_, ?_, fun hS k hk hl hlw ha => ?_, fun hS k l hk hl hkl hk1 hl1 wk wl ak al => ?_⟩
         · rw [put_getD hdlen, mlk_set hisz _ (fun j h1 _ hd hd' => hlater j t (by omega) hd (.inr (by rw [← hdi]; exact hd'))), hdi, inv.look t,
             mlk_congr (val := val) (val' := val') ops.size fun j hj hl => hsame j hj hl]
           by_cases hd : o.dst = some t <;> simp [hd, hilt]
         · have hni : ¬ LW ops f0 val' i := hq i hin (getD_set_self hisz)
           rw [hqi hni]
           refine inv.quiet fun k hk hl hlw => hq k hk (getD_set_true hl) ((hLW k hk hl).1 hlw)
         · by_cases hki : i = k
           · subst hki
             rw [eD1 hlw]; exact hfi hlw
           · rw [getD_set_ne false hki] at hl
             exact hf _ eD1 eD2 k hk hl hlw
         · by_cases hlw : LW ops f0 val' i
           · rw [eD1 hlw]; exact hst hlw
           · rw [eD2 hlw]; exact hst2 hlw
         · by_cases hki : i = k
           · subst hki
             obtain ⟨ad, q1, _, q3⟩ := hal hlw ha
             exact ⟨ad, q1, q3⟩
           · rw [getD_set_ne false hki] at hl
             obtain ⟨ad, q1, q2⟩ := inv.alc hS k hk hl ((hLW k hk hl).2 hlw) ha
             exact ⟨ad, by rw [← hsame k (by omega) hl]; exact q1, by have := hS _ _ hbw; omega⟩
         · by_cases hki : i = k
           · subst hki
             rw [getD_set_ne false hkl] at hl1
             obtain ⟨ad, q1, q2, _⟩ := hal wk ak
             obtain ⟨bd, q3, q4⟩ := inv.alc hS l hl hl1 ((hLW l hl hl1).2 wl) al
             rw [q1, ← hsame l (by omega) hl1, q3]
             intro e
             injection e with e
             omega
           · rw [getD_set_ne false hki] at hk1
             by_cases hli : i = l
             · subst hli
               obtain ⟨ad, q1, q2, _⟩ := hal wl al
               obtain ⟨bd, q3, q4⟩ := inv.alc hS k hk hk1 ((hLW k hk hk1).2 wk) ak
               rw [q1, ← hsame k (by omega) hk1, q3]
               intro e
               injection e with e
               omega
             · rw [getD_set_ne false hli] at hl1
               rw [← hsame k (by omega) hk1, ← hsame l (by omega) hl1]
               exact inv.dis hS k l hk hl hkl hk1 hl1 ((hLW k hk hk1).2 wk) ((hLW l hl hl1).2 wl) ak al
       have keepF : ∀ k, k < n → listed.getD k false = true → LW ops f0 val k → k ≠ i → ∀ w', E w w' → G i w w' → FactAt ops (Φ (setD (doneD ops f0 n listed val) i)) f0 val k w' := fun k hk hl hlw hki w' hb hg o' ho' =>
         hΦ _ i _ _ _ _ _ hki (by simp only [doneD, Bool.and_eq_true, decide_eq_true_eq]; exact ⟨⟨hk, hl⟩, lwB_iff.2 hlw⟩) (by simp [doneD, huf]) (inv.facts k hk hl hlw o' ho') hb hg
       have hV := inv.ok i hin o ho
       have nl1 : wnt ops (lk ops f0 val i) o = false → ¬ LW ops f0 val i := by rintro v1 ⟨o', ho', _, h4⟩; rw [ho] at ho'; cases ho'; rw [v1] at h4; cases h4
       have nl2 : isRd o = true → ¬ LW ops f0 val i := by rintro v2 ⟨o', ho', h4, _⟩; rw [ho] at ho'; cases ho'; rw [v2] at h4; cases h4
       have stay : ¬ LW ops f0 val i → wpAny P .any ops Q fuel (listed.setIfInBounds i true) (a.put o.dst (val i)) w := fun hnl =>
         ih _ _ _ res val (by omega) (inv' res val w inv.typed inv.ok (fun _ _ _ => rfl) (hE _) (fun D' _ h2 k hk hl hlw => by rw [h2 hnl]; exact inv.facts k hk hl hlw) (fun h => absurd h hnl) (fun _ => rfl) (fun h => absurd h hnl) (fun h => absurd h hnl) (fun _ => inv.cntS))
       have yl : ∀ v, isPv o = true → Yields P ops o v a → v = val i ∧ ¬ LW ops f0 val i := by
         intro v hp hy
         unfold Yields at hy
         rw [hw, he] at hy
         rcases hV with ⟨v1, v2⟩ | ⟨v1, v2, v3⟩ | ⟨v1, v2, v3, v4⟩
         · rcases hy with ⟨y1, _⟩ | ⟨_, y2⟩
           · rw [v1] at y1; cases y1
           · exact ⟨by rw [y2, v2], nl1 v1⟩
         · rcases hy with ⟨_, y2⟩ | ⟨y1, _⟩
           · refine ⟨?_, nl2 v2⟩
             have h3 := v3 w0 (.inr hp)
             rw [y2 w0] at h3
             injection h3 with h4 _
             injection h4 with h5
           · rw [v1] at y1; cases y1
         · rw [isPv_rd hp] at v2; cases v2
       refine ⟨fun v hp hy => ?_, fun hp => ?_, ?_⟩
       · obtain ⟨rfl, hnl⟩ := yl v hp hy
         exact stay hnl
       · rcases hV with ⟨v1, v2⟩ | ⟨v1, v2, v3⟩ | ⟨v1, v2, v3, v4⟩
         · exact ⟨_, .inr ⟨by rw [hw, v1], rfl⟩⟩
         · exact ⟨val i, .inl ⟨by rw [hw, v1], fun w' => by rw [he]; exact v3 w' (.inr hp)⟩⟩
         · rw [isPv_rd hp] at v2; cases v2
       · rcases hV with ⟨v1, v2⟩ | ⟨v1, v2, v3⟩ | ⟨v1, v2, v3, v4⟩
         · unfold wpOp
           simp only [ho]
           rw [if_neg (by rw [hw, v1]; simp), ← v2]
           exact stay (nl1 v1)
         · unfold wpOp
           simp only [ho]
           rw [if_pos (by rw [hw, v1])]
           refine .inl ?_
           unfold Oper.wp
           rw [he, v3 w (.inl ⟨inv.below, doneD ops f0 n listed val, (fun t hp => by
             cases hb : listed.getD t false with
             | false => simp [doneD, hb]
             | true => have := inv.closed i t hp hb; rw [huf] at this; cases this), inv.cntS⟩)]
           simp only [Oper.upon_value]
           exact stay (nl2 v2)
         · unfold wpOp
           simp only [ho]
           rw [if_pos (by rw [hw, v1])]
           refine .inl ?_
           have hob := v4 (doneD ops f0 n listed val) w (by simp [doneD, huf]) inv.below inv.cntS (fun k hk hp hlw => inv.facts k (by omega) (ready_pre inv.closed hi hp) hlw) (fun k hk hp hlw => by simp only [doneD, Bool.and_eq_true, decide_eq_true_eq]; exact ⟨⟨by omega, ready_pre inv.closed hi hp⟩, lwB_iff.2 hlw⟩)
           rw [← he] at hob
           refine hob.alc.wp (fun ch w' q => hP ch _ w' ⟨inv.adef, fun t ht => by rw [inv.look t, mlk_not fun j hj => ht (by obtain ⟨oj, h1, h2⟩ := dstAt_some hj; exact dst_mem h1 h2)]⟩ q) ?_
           rintro v w' ⟨⟨⟨x, hx⟩, hbw, hgw, hst', hphi⟩, hal⟩
           have htyped : ∀ k o', ops[k]? = some o' → ∃ x, (upd res i v) k = (rsOf P o').val x := by
             intro k o' ho'
             by_cases hk : k = i
             · subst hk; rw [ho] at ho'; cases ho'; exact ⟨x, by simp [upd, hx]⟩
             · obtain ⟨y, hy⟩ := inv.typed k o' ho'; exact ⟨y, by simp [upd, hk, hy]⟩
           obtain ⟨val', hv', _⟩ := hrun (upd res i v) htyped
           have hind := val_indep hE hS0 fo (L := fun j => listed.getD j false = true) inv.closed inv.ok hv' (fun j hj => by
             have hne : j ≠ i := by rintro rfl; rw [huf] at hj; cases hj
             simp [upd, hne])
           have hsame : ∀ j, j < ops.size → listed.getD j false = true → val j = val' j := by
             intro j hj hl
             have hjn : j < n := by
               rcases Nat.lt_or_ge j n with h | h
               · exact h
               · have := inv.tl j h hj; rw [getD_tf (by rw [inv.size]; exact hj), hl] at this; cases this
             exact hind j hjn hj hl
           have hlk' : ∀ t ∈ o.looksAt ops, lk ops f0 val i t = lk ops f0 val' i t := fun t ht => lk_congr i t fun j hj hd => by
             obtain ⟨oj, hoj, hdj⟩ := dstAt_some hd
             exact hsame j (by omega) (ready_pre inv.closed hi (fo.conf j i oj o hoj ho hj (confB_dst hdj (.inl ht))))
           have hvi : val' i = v := by
             rcases hv' i hin o ho with ⟨b1, _⟩ | ⟨_, b2, _⟩ | ⟨_, _, b3, _⟩
             · rw [← wnt_congr hlk', v1] at b1; cases b1
             · rw [v2] at b2; cases b2
             · rw [b3]; simp [upd]
           refine ih _ _ _ (upd res i v) val' (by omega) ?_
           have hI := inv' (upd res i v) val' w' htyped hv' hsame hbw ?_ ?_ ?_ ?_ (fun _ => hst') (fun hnl => absurd ⟨o, ho, v2, by rw [← wnt_congr hlk']; exact v1⟩ hnl)
           · rw [hvi] at hI; exact hI
           · intro D' h1' _ k hk hl hlw o' ho'
             rw [h1' ⟨o, ho, v2, by rw [← wnt_congr hlk']; exact v1⟩]
             have hlkk : ∀ t ∈ o'.looksAt ops, lk ops f0 val k t = lk ops f0 val' k t := fun t ht => lk_congr k t fun j hj hd => by
               obtain ⟨oj, hoj, hdj⟩ := dstAt_some hd
               exact hsame j (by omega) (inv.closed j k (fo.conf j k oj o' hoj ho' hj (confB_dst hdj (.inl ht))) hl)
             have hlw0 : LW ops f0 val k := by
               obtain ⟨o2, ho2, h5, h6⟩ := hlw
               rw [ho'] at ho2; cases ho2
               exact ⟨o', ho', h5, by rw [wnt_congr hlkk]; exact h6⟩
             have hki : k ≠ i := by rintro rfl; rw [huf] at hl; cases hl
             have := keepF k hk hl hlw0 hki w' hbw hgw o' ho'
             rw [argsV_congr hlkk, hsame k (by omega) hl] at this
             exact this
           · intro _ o' ho'
             rw [ho] at ho'; cases ho'
             rw [← argsV_congr hlk', hvi]; exact hphi
           · intro hnl
             exact absurd ⟨o, ho, v2, by rw [← wnt_congr hlk']; exact v1⟩ hnl
           · rintro _ ⟨o', ho', ha⟩
             rw [ho] at ho'; cases ho'
             obtain ⟨ad, q1, q2, q3⟩ := hal ha
             exact ⟨ad, by rw [hvi]; exact q1, by omega, by omega⟩
      by_cases hpv : ∃ i, i < n ∧ i ∈ Region.ready .any ops listed ∧ ∃ o, ops[i]? = some o ∧ isPv o = true
      · obtain ⟨i, hin, hi, o, ho, hp⟩ := hpv
        obtain ⟨m1, m2, _⟩ := main i hi hin o ho
        obtain ⟨v, hv⟩ := m2 hp
        exact eager fo hQ ho inv.size inv.closed hi hv (m1 v hp hv)
      · refine ⟨fun h => by rw [h] at hr0; simp at hr0, fun i hi => ?_⟩
        obtain ⟨_, o, ho, _⟩ := mem_ready.1 hi
        have hilt := (Array.getElem?_eq_some_iff.1 ho).1
        have hin : i < n := by
          rcases Nat.lt_or_ge i n with h | h
          · exact h
          · have hi0 : ops[i0]? = some ops[i0] := by simp
            have hnp : isPv ops[i0] = false := by
              cases hp : isPv ops[i0] with
              | false => rfl
              | true => exact absurd ⟨i0, h1, hr0, _, hi0, hp⟩ hpv
            exact absurd (ready_pre inv.closed hi (fo.tail i h hilt i0 _ (by omega) hi0 hnp)) h2
        exact (main i hi hin o ho).2.2
    · have hls : ∀ j, j < n → listed.getD j false = true := fun j hj => by
        cases hb : listed.getD j false with
        | true => rfl
        | false => exact absurd ⟨j, hj, by rw [hb]; simp⟩ hheads
      obtain ⟨val', hv', hfin⟩ := hrun res inv.typed
      have hind := val_indep hE hS0 fo (L := fun j => listed.getD j false = true) inv.closed inv.ok hv' (fun _ _ => rfl)
      have hvv : ∀ j, j < n → val j = val' j := fun j hj => hind j hj (by omega) (hls j (by omega))
      have hlw : ∀ i, i < n → LW ops f0 val' i → LW ops f0 val i := fun i hi h => LW_congr (fun k hk => (hvv k (by omega)).symm) h
      have hmn : ∀ t, mlk ops f0 listed val ops.size t = lk ops f0 val' n t := by
        intro t
        have h1 := mlk_up (ops := ops) (f0 := f0) (val := val) (t := t) (i := n) (ops.size - n) (listed := listed) fun j hij hd => by
          obtain ⟨oj, hoj, _⟩ := dstAt_some hd
          have hlt := (Array.getElem?_eq_some_iff.1 hoj).1
          rw [← getD_tf (by rw [inv.size]; exact hlt)]; exact inv.tl j hij hlt
        rw [show n + (ops.size - n) = ops.size by omega] at h1
        rw [h1, mlk_lk n fun j hj _ => hls j hj]
        exact lk_congr n t fun j hj _ => hvv j hj
      have hDD : doneD ops f0 n listed val = fun i => decide (i < n) && lwB ops f0 val' i := by
        funext i
        unfold doneD
        by_cases hi : i < n
        · rw [hls i hi, lwB_congr ⟨fun h => LW_congr (fun k hk => hvv k (by omega)) h, hlw i hi⟩, Bool.and_true]
        · simp [hi]
      have := hfin a w inv.asize inv.adef (fun t => by rw [inv.look t, hmn]) inv.below
        (fun h => inv.quiet fun i hi _ hl => h i hi (LW_congr (fun k hk => hvv k (by omega)) hl))
        (fun i hi hl => by rw [← hDD]; exact FactAt_congr (fun k hk => hvv k (by omega)) (inv.facts i hi (hls i (by omega)) (hlw i hi hl)))
        (fun hS i j hi hj hij hl hl' ai aj => by rw [← hvv i hi, ← hvv j hj]; exact inv.dis hS i j hi hj hij (hls i (by omega)) (hls j (by omega)) (hlw i hi hl) (hlw j hj hl') ai aj)
        (by
          have e : doneD ops f0 n listed val = fun i => decide (i < n) && lwB ops f0 val' i := by
            funext i
            unfold doneD
            by_cases hi : i < n
            · rw [hls i hi, lwB_congr ⟨fun h => LW_congr (fun k hk => hvv k (by omega)) h, hlw i hi⟩, Bool.and_true]
            · simp [hi]
          rw [← e]; exact inv.cntS)
      exact hTl _ listed a w inv.size inv.closed hls inv.tl hc this
end
end Go.V

/- The calculus, seventh part: the conditions of a function's code, and that they suffice. -/

namespace Go.V
open Go Go.RowKit
variable {ds : List Deferred} {pn : Pm}

/-! ### the same region in another order of its text -/
def renE (p : List Nat) (e : Edge) : Edge := { e with on := p.idxOf e.on }
def renO (p : List Nat) (o : Oper) : Oper := { o with after := o.after.map (renE p), guard := o.guard.map fun g => (p.idxOf g.1, g.2) }
def permOps (p : List Nat) (ops : Array Oper) : Array Oper := (p.filterMap fun i => (ops[i]?).map (renO p)).toArray
def permOk (p : List Nat) (ops : Array Oper) : Bool :=
  decide (p.length = ops.size) && ((List.range ops.size).all fun i => p.contains i) && ((List.range ops.size).all fun x => decide (p.getD x 0 < ops.size) && decide (p.idxOf (p.getD x 0) = x)) &&
  ops.toList.all fun o => (o.after.toList.all fun e => decide (e.on < ops.size)) && (match o.guard with
    | some g => decide (g.1 < ops.size) | none => true)
structure PermOk (p : List Nat) (ops : Array Oper) : Prop where
  len : p.length = ops.size
  to : ∀ i, i < ops.size → p.idxOf i < ops.size ∧ p[p.idxOf i]? = some i
  from' : ∀ x, x < ops.size → ∃ i, p[x]? = some i ∧ i < ops.size ∧ p.idxOf i = x
  edge : ∀ (i : Nat) (o : Oper), ops[i]? = some o → ∀ e ∈ o.after, e.on < ops.size
  guard : ∀ (i : Nat) (o : Oper) j b, ops[i]? = some o → o.guard = some (j, b) → j < ops.size
theorem idxOf_get {p : List Nat} {i : Nat} (h : i ∈ p) : p.idxOf i < p.length ∧ p[p.idxOf i]? = some i := by
  have h1 := List.idxOf_lt_length_of_mem h
  exact ⟨h1, by rw [List.getElem?_eq_getElem h1]; simp⟩
theorem permOk_spec {p : List Nat} {ops : Array Oper} (h : permOk p ops = true) : PermOk p ops := by
  simp only [permOk, Bool.and_eq_true, decide_eq_true_eq] at h
  obtain ⟨⟨⟨h1, h2⟩, h3⟩, h4⟩ := h
  refine ⟨h1, fun i hi => ?_, fun x hx => ?_, fun i o ho e he => ?_, fun i o j b ho hg => ?_⟩
  · have := List.all_eq_true.1 h2 i (List.mem_range.2 hi)
    have := idxOf_get (by simpa using this)
    exact ⟨by rw [← h1]; exact this.1, this.2⟩
  · have := List.all_eq_true.1 h3 x (List.mem_range.2 hx)
    simp only [Bool.and_eq_true, decide_eq_true_eq] at this
    refine ⟨p.getD x 0, ?_, this.1, this.2⟩
    rw [List.getElem?_eq_getElem (by omega), List.getD_eq_getElem?_getD, List.getElem?_eq_getElem (by omega)]; rfl
  · have h5 := List.all_eq_true.1 h4 o (by simpa using Array.mem_of_getElem? ho)
    simp only [Bool.and_eq_true] at h5
    simpa using List.all_eq_true.1 h5.1 e (by simpa using he)
  · have h5 := List.all_eq_true.1 h4 o (by simpa using Array.mem_of_getElem? ho)
    simp only [Bool.and_eq_true, hg] at h5
    simpa using h5.2
section
variable {P : Program} {ops : Array Oper} {p : List Nat}
theorem permOps_get (h : PermOk p ops) {x i : Nat} (hx : p[x]? = some i) (hi : i < ops.size) : (permOps p ops)[x]? = some (renO p ops[i]) := by
  have key : ∀ (l : List Nat), (∀ j ∈ l, j < ops.size) → ∀ (x : Nat), (l.filterMap fun i => (ops[i]?).map (renO p))[x]? = (l[x]?).bind fun i => (ops[i]?).map (renO p) := by
    intro l
    induction l with
    | nil => intro _ x; simp
    | cons j l ih =>
      intro hl x
      have hj := hl j (List.mem_cons_self ..)
      rw [List.filterMap_cons_some (b := renO p ops[j]) (by simp [hj])]
      cases x with
      | zero => simp [hj]
      | succ x => simpa using ih (fun k hk => hl k (List.mem_cons_of_mem _ hk)) x
  have hmem : ∀ j ∈ p, j < ops.size := by
    intro j hj
    obtain ⟨y, hy, he⟩ := List.mem_iff_getElem.1 hj
    obtain ⟨i, h1, h2, _⟩ := h.from' y (by rw [← h.len]; exact hy)
    rw [List.getElem?_eq_getElem hy, he] at h1
    cases h1; exact h2
  unfold permOps
  rw [List.getElem?_toArray, key p hmem x, hx]
  simp [hi]
theorem permOps_size (h : PermOk p ops) : (permOps p ops).size = ops.size := by
  have h1 : ∀ x, x < ops.size → (permOps p ops)[x]? ≠ none := by
    intro x hx
    obtain ⟨i, h1, h2, _⟩ := h.from' x hx
    rw [permOps_get h h1 h2]; simp
  have h2 : (permOps p ops)[ops.size]? = none := by
    unfold permOps
    rw [List.getElem?_toArray, List.getElem?_eq_none]
    refine Nat.le_trans (List.length_filterMap_le _ _) (by rw [h.len]; exact Nat.le_refl _)
  have h3 : (permOps p ops).size ≤ ops.size := by simpa using h2
  rcases Nat.lt_or_ge (permOps p ops).size ops.size with h4 | h4
  · exact absurd (by simp) (h1 _ h4)
  · omega
theorem dst_ren (h : PermOk p ops) {j : Nat} (hj : j < ops.size) : dstAt (permOps p ops) (p.idxOf j) = dstAt ops j := by
  obtain ⟨_, h2⟩ := h.to j hj
  unfold dstAt
  rw [permOps_get h h2 hj]
  simp [hj, renO]
theorem wanted_ren (h : PermOk p ops) {i : Nat} (hi : i < ops.size) (tm : Array Value) : Region.wanted (renO p ops[i]) (yielded (permOps p ops) tm) = Region.wanted ops[i] (yielded ops tm) := by
  unfold Region.wanted renO
  cases hg : ops[i].guard with
  | none => rfl
  | some g =>
    obtain ⟨j, b⟩ := g
    have hj := h.guard i ops[i] j b (by simp [hi]) hg
    have hd := dst_ren h hj
    unfold dstAt at hd
    simp only [Option.map_some, yielded, hd]
theorem wpOp_ren (h : PermOk p ops) {Q : Exit → Act → World → Prop} {i : Nat} (hi : i < ops.size) {K : Act → World → Prop} {a : Act} {w : World} (hw : wpOp P (permOps p ops) Q (p.idxOf i) K a w) : wpOp P ops Q i K a w := by
  obtain ⟨_, h2⟩ := h.to i hi
  unfold wpOp at *
  rw [permOps_get h h2 hi] at hw
  rw [show ops[i]? = some ops[i] by simp [hi]]
  dsimp only at *
  rw [wanted_ren h hi] at hw
  exact hw
theorem wpAny_ren (h : PermOk p ops) {Q : Exit → Act → World → Prop} : ∀ (fuel : Nat) (listed listed' : Array Bool) (a : Act) (w : World), listed.size = ops.size → listed'.size = ops.size →
    (∀ i, i < ops.size → ∀ d, listed'.getD (p.idxOf i) d = listed.getD i d) → wpAny P .any (permOps p ops) Q fuel listed' a w → wpAny P .any ops Q fuel listed a w := by
  have rdy : ∀ (listed listed' : Array Bool), (∀ i, i < ops.size → ∀ d, listed'.getD (p.idxOf i) d = listed.getD i d) → ∀ i, i < ops.size →
      (i ∈ Region.ready .any ops listed ↔ p.idxOf i ∈ Region.ready .any (permOps p ops) listed') := by
    intro listed listed' hl i hi
    obtain ⟨_, h2⟩ := h.to i hi
    rw [mem_ready, mem_ready, permOps_get h h2 hi, hl i hi]
    have hoi : ops[i]? = some ops[i] := by simp [hi]
    rw [hoi]
    constructor
    · rintro ⟨h0, o, ho, hall⟩
      cases ho
      refine ⟨h0, _, rfl, fun e he hb => ?_⟩
      simp only [renO, Array.mem_map] at he
      obtain ⟨e0, he0, rfl⟩ := he
      show listed'.getD (p.idxOf e0.on) false = true
      rw [hl e0.on (h.edge i _ hoi e0 he0)]
      exact hall e0 he0 hb
    · rintro ⟨h0, o, ho, hall⟩
      cases ho
      refine ⟨h0, _, rfl, fun e he hb => ?_⟩
      have := hall (renE p e) (by simp only [renO, Array.mem_map]; exact ⟨e, he, rfl⟩) hb
      rw [show (renE p e).on = p.idxOf e.on from rfl, hl e.on (h.edge i _ hoi e he)] at this
      exact this
  have empt : ∀ (listed listed' : Array Bool), (∀ i, i < ops.size → ∀ d, listed'.getD (p.idxOf i) d = listed.getD i d) → Region.ready .any ops listed = [] → Region.ready .any (permOps p ops) listed' = [] := by
    intro listed listed' hl hr
    rw [List.eq_nil_iff_forall_not_mem]
    intro x hx
    obtain ⟨_, o, ho, _⟩ := mem_ready.1 hx
    have hxs := (Array.getElem?_eq_some_iff.1 ho).1
    rw [permOps_size h] at hxs
    obtain ⟨i, h1, h2, rfl⟩ := h.from' x hxs
    have := (rdy listed listed' hl i h2).2 hx
    rw [hr] at this; simp at this
  intro fuel
  induction fuel with
  | zero =>
    intro listed listed' a w _ _ hl hw
    obtain ⟨h1, h2⟩ := hw
    refine ⟨?_, h2⟩
    rw [List.eq_nil_iff_forall_not_mem]
    intro i hi
    obtain ⟨_, o, ho, _⟩ := mem_ready.1 hi
    have := (rdy listed listed' hl i (Array.getElem?_eq_some_iff.1 ho).1).1 hi
    rw [h1] at this; simp at this
  | succ fuel ih =>
    intro listed listed' a w hs hs' hl hw
    obtain ⟨h1, h2⟩ := hw
    refine ⟨fun hr => h1 (empt listed listed' hl hr), fun i hi => ?_⟩
    obtain ⟨_, o, ho, _⟩ := mem_ready.1 hi
    have his := (Array.getElem?_eq_some_iff.1 ho).1
    refine wpOp_ren h his (wpOp_mono (fun a w hw => ih _ _ a w (by simp [hs]) (by simp [hs']) ?_ hw) (h2 _ ((rdy listed listed' hl i his).1 hi)))
    intro j hj d
    by_cases hij : i = j
    · subst hij
      have : p.idxOf i < listed'.size := by rw [hs']; exact (h.to i his).1
      simp [this, hs, his]
    · have hne : p.idxOf i ≠ p.idxOf j := by
        intro he
        have h3 := (h.to i his).2
        have h4 := (h.to j hj).2
        rw [he, h4] at h3
        cases h3; exact hij rfl
      rw [getD_set_ne d hne, getD_set_ne d hij]
      exact hl j hj d
end

def alcs (all : List Oper) : Ctx → List Value
  | [] => []
  | e :: c => match (all[e.1]?).any isAlc with
    | true => e.2.2 :: alcs all c
    | false => alcs all c
def apt (vs : List Value) (A : World → Prop) : World → Prop :=
  match vs with
  | v :: u :: r => fun w => A w ∧ List.Pairwise (fun a b => vblk a ≠ vblk b) (v :: u :: r)
  | _ => A
def vcFin (P : Program) (pn : Pm) (E : Rel) (Φ : (Nat → Bool) → Facts) (cm : Bool) (St : (Nat → Bool) → World → Prop) (d : Bool) (all tl : List Oper) (w0 : World) (k : Fr → World → Prop) (f : Fr) : Ctx → Prop
  | [] => vcOps P pn all tl f w0 k
  | e :: c => match cm with
    | false => flend E w0 (match d with
      | true => apt (alcs all (e :: c)) (factsAll (Φ fun _ => false) (e :: c))
      | false => factsAll (Φ fun _ => false) (e :: c)) fun w => vcOps P pn all tl f w k
    | true => flendC St ((e :: c).map fun x => x.1) E w0 (fun D => factsAll (Φ D) (e :: c)) fun w => vcOps P pn all tl f w k
def stT : (Nat → Bool) → World → Prop := fun _ _ => True
def gT : Nat → Rel := fun _ _ _ => True
def vcDraw0 (P : Program) (pn : Pm) (own cnt kb : Bool) (n : Nat) (ops : Array Oper) (f : Fr) (w : World) (k : Fr → World → Prop) : Prop :=
  match decide (n ≤ ops.size) && flowB ops (masks ops.toList []) f.length n ops.toList 0 with
  | false => False
  | true => drw w fun w0 => match (ops.toList.take n).any fun o => !isRd o with
    | false => flow P pn bel (fun _ _ _ _ _ => True) false false gT stT (masks ops.toList []) ops.toList w0 (ops.toList.take n) 0 f [] (vcFin P pn bel (fun _ _ _ _ _ => True) false stT true ops.toList (ops.toList.drop n) w0 k)
    | true => match own with
      | false => match cnt with
        | false => flEx fun Φ => flow P pn bel (fun _ => Φ) false false gT stT (masks ops.toList []) ops.toList w0 (ops.toList.take n) 0 f [] (vcFin P pn bel (fun _ => Φ) false stT true ops.toList (ops.toList.drop n) w0 k)
        | true => flExC w0 fun E G St Φ => flow P pn E Φ true kb G St (masks ops.toList []) ops.toList w0 (ops.toList.take n) 0 f [] (vcFin P pn E Φ true St false ops.toList (ops.toList.drop n) w0 k)
      | true => flExE fun E Φ => flow P pn E (fun _ => Φ) false false gT stT (masks ops.toList []) ops.toList w0 (ops.toList.take n) 0 f [] (vcFin P pn E (fun _ => Φ) false stT false ops.toList (ops.toList.drop n) w0 k)

section
variable {P : Program} {ops : Array Oper} {E : Rel} {Φ : Facts} {w0 : World} {f0 : Fr}
theorem cnt_replicate (N : Nat) : ∀ m, m ≤ N → cnt (Array.replicate N false) m = m
  | 0, _ => rfl
  | m + 1, h => by
    simp only [cnt]
    rw [cnt_replicate N m (by omega), if_pos (by simp [show m < N by omega])]
theorem lk_not {val : Nat → Value} {t : Nat} : ∀ i, (∀ j, dstAt ops j ≠ some t) → lk ops f0 val i t = (fget f0 t).den
  | 0, _ => rfl
  | i + 1, h => by simp only [lk]; rw [if_neg (h i), lk_not i h]
theorem eq_act {a : Act} {f : Fr} (h1 : a.tmps.size = f.length) (h2 : a.defers = ds) (h3 : ∀ t, a.tmps.getD t undef = (fget f t).den) : a = act ds f := by
  obtain ⟨tm, df⟩ := a
  dsimp only at h1 h2 h3
  subst h2
  have : tm = (act df f).tmps := by
    refine Array.ext (by rw [h1, size_act]) fun i hi hi2 => ?_
    have h4 := h3 i
    rw [← den_fget (ds := df)] at h4
    simpa [hi, hi2] using h4
  rw [this]; rfl

theorem apt_of {vs : List Value} {A : World → Prop} {w : World} (h : A w) (hp : List.Pairwise (fun a b => vblk a ≠ vblk b) vs) : apt vs A w := by
  unfold apt
  split
  · exact ⟨h, hp⟩
  · exact h
theorem alcs_mem {all : List Oper} : ∀ {ctx : Ctx} {v : Value}, v ∈ alcs all ctx → ∃ e ∈ ctx, e.2.2 = v ∧ (all[e.1]?).any isAlc = true
  | [], v, h => by simp [alcs] at h
  | e :: c, v, h => by
    unfold alcs at h
    split at h
    · rename_i ha
      rcases List.mem_cons.1 h with rfl | h
      · exact ⟨e, List.mem_cons_self .., rfl, ha⟩
      · obtain ⟨x, hx, q⟩ := alcs_mem h
        exact ⟨x, List.mem_cons_of_mem _ hx, q⟩
    · obtain ⟨x, hx, q⟩ := alcs_mem h
      exact ⟨x, List.mem_cons_of_mem _ hx, q⟩
theorem alcs_pair {all : List Oper} : ∀ {ctx : Ctx}, ctx.Pairwise (fun a b => a.1 ≠ b.1) → (∀ x ∈ ctx, ∀ y ∈ ctx, x.1 ≠ y.1 → (all[x.1]?).any isAlc = true → (all[y.1]?).any isAlc = true → vblk x.2.2 ≠ vblk y.2.2) → List.Pairwise (fun a b => vblk a ≠ vblk b) (alcs all ctx)
  | [], _, _ => by simp [alcs]
  | e :: c, hn, h => by
    have hn' := List.pairwise_cons.1 hn
    have ih := alcs_pair (all := all) hn'.2 fun x hx y hy => h x (List.mem_cons_of_mem _ hx) y (List.mem_cons_of_mem _ hy)
    unfold alcs
    split
    · rename_i ha
      refine List.Pairwise.cons (fun v hv => ?_) ih
      obtain ⟨x, hx, rfl, hxa⟩ := alcs_mem hv
      exact h e (List.mem_cons_self ..) x (List.mem_cons_of_mem _ hx) (hn'.1 x hx) ha hxa
    · exact ih
theorem vcDraw0_spec {own cnt kb : Bool} {n : Nat} {f : Fr} {w : World} {k : Fr → World → Prop} {Q : Exit → Act → World → Prop} (hQ : ∀ (i : Nat) o c a v w, ops[i]? = some o → Q (.panic c) (Act.put a o.dst v) w → Q (.panic c) a w) (hP : ∀ ch (a : Act) w, PanAt ds (dsts ops.toList) f a → PnOf pn ch w → Q (.panic ch) a w)
    (h : vcDraw0 P pn own cnt kb n ops f w k) (hk : ∀ f' w', k f' w' → Agree (dsts ops.toList) f f' → Q .normal (act ds f') w') : wpAny P .any ops Q ops.size (Array.replicate ops.size false) (act ds f) { w with drawn := w.drawn + 1 } := by
  unfold vcDraw0 at h
  split at h
  · exact h.elim
  · rename_i hB
    simp only [Bool.and_eq_true, decide_eq_true_eq] at hB
    obtain ⟨hn, hB⟩ := hB
    have fo := flowOk hB
    have hms := masks_spec (ops := ops) ops.toList [] (fun j => by simp) (fun k i hi => by simp at hi)
    unfold drw at h
    generalize hw0 : ({ w with drawn := w.drawn + 1 } : World) = w0 at h
    have main : ∀ (E : Rel) (Φ : (Nat → Bool) → Facts) (cm kb : Bool) (G : Nat → Rel) (St : (Nat → Bool) → World → Prop) (d : Bool), (cm = true ∨ (cm = false ∧ (∀ j w w', G j w w') ∧ (∀ D w, St D w) ∧ ∀ D D', Φ D = Φ D')) → St (fun _ => false) w0 → (d = true → ∀ a b, E a b → a.heap.size ≤ b.heap.size) → (∀ w, E w w) → (∀ a b c, E a b → E b c → E a c) → (∀ i j D ags v w w', i ≠ j → D i = true → D j = false → Φ D i ags v w → E w w' → G j w w' → Φ (setD D j) i ags v w') →
        flow P pn E Φ cm kb G St (masks ops.toList []) ops.toList w0 (ops.toList.take n) 0 f [] (vcFin P pn E Φ cm St d ops.toList (ops.toList.drop n) w0 k) →
        wpAny P .any ops Q ops.size (Array.replicate ops.size false) (act ds f) w0 := by
      intro E Φ cm kb G St d hcm hS0 hd hE hT hΦ hf
      have hsub : ∀ t ∈ dsts (ops.toList.drop n), t ∈ dsts ops.toList := fun t ht => by
        obtain ⟨o, ho, hd⟩ := List.mem_filterMap.1 ht
        exact List.mem_filterMap.2 ⟨o, List.mem_of_mem_drop ho, hd⟩
      have hrun : ∀ res : Nat → Value, (∀ i o, ops[i]? = some o → ∃ x, res i = (rsOf P o).val x) → ∃ val, (∀ j, j < n → Vok P pn ops E Φ G St w0 f res val j) ∧
          ∀ (a : Act) (w : World), a.tmps.size = f.length → a.defers = ds → (∀ t, a.tmps.getD t undef = lk ops f val n t) → E w0 w →
            ((∀ i, i < n → ¬ LW ops f val i) → w = w0) → (∀ i, i < n → LW ops f val i → FactAt ops (Φ fun i => decide (i < n) && lwB ops f val i) f val i w) → ((∀ a b, E a b → a.heap.size ≤ b.heap.size) → ∀ i j, i < n → j < n → i ≠ j → LW ops f val i → LW ops f val j → AlcAt ops i → AlcAt ops j → vblk (val i) ≠ vblk (val j)) → St (fun i => decide (i < n) && lwB ops f val i) w →
            (∃ f', a = act ds f' ∧ Agree (dsts ops.toList) f f' ∧ vcOps P pn ops.toList (ops.toList.drop n) f' w k) := by
        intro res hres
        have hlen : (ops.toList.take n).length = n := by simp; omega
        obtain ⟨val, f', ctx, h1, h2, h3, h4, h5⟩ := flow_run hcm (f0 := f) (ms := masks ops.toList []) (all := ops.toList) (res := res) hres hms fo.len (fun j => by simp) (ops.toList.take n) 0 f [] (fun _ => undef)
          (fun j hj => by rw [hlen] at hj; rw [List.getElem?_take]; simp [hj]) rfl (fun t => rfl) (fun j hj => by omega) ⟨fun e he => (by simp at he), fun i hi => (by omega), List.Pairwise.nil⟩ hf
        rw [hlen, Nat.zero_add] at h1 h3 h4
        refine ⟨val, h1, fun a w' a1 a2 a3 a4 a5 a6 a7 a8 => ?_⟩
        have ha : a = act ds f' := eq_act (by rw [a1, h2]) a2 fun t => by rw [a3, h3]
        have hag : Agree (dsts ops.toList) f f' := ⟨h2, fun t ht => by
          rw [h3]; refine lk_not n fun j hj => ht ?_
          obtain ⟨o, ho, hd⟩ := dstAt_some hj
          exact List.mem_filterMap.2 ⟨o, List.mem_of_getElem? (by simpa using ho), hd⟩⟩
        refine ⟨f', ha, hag, ?_⟩
        cases ctx with
        | nil =>
          rw [a5 fun i hi hl => by obtain ⟨e, he, _⟩ := h4.has i hi hl; simp at he]
          exact h5
        | cons e c =>
          have hA : factsAll (Φ fun i => decide (i < n) && lwB ops f val i) (e :: c) w' := factsAll_of _ fun x hx => by
            obtain ⟨b1, b2, ⟨o, ho, b3⟩, b4⟩ := h4.of x hx
            rw [b3, b4]
            exact a6 x.1 b1 b2 o ho
          rcases hcm with rfl | ⟨rfl, _, _, hΨ⟩
          · have e' : (fun i => decide (i < n) && lwB ops f val i) = fun i => ((e :: c).map fun x => x.1).contains i := by
              funext i
              rw [Bool.eq_iff_iff]
              simp only [Bool.and_eq_true, decide_eq_true_eq, lwB_iff, List.contains_iff_mem, List.mem_map]
              constructor
              · rintro ⟨q1, q2⟩
                obtain ⟨x, hx, hxi⟩ := h4.has i q1 q2
                exact ⟨x, hx, hxi⟩
              · rintro ⟨x, hx, rfl⟩
                obtain ⟨q1, q2, _⟩ := h4.of x hx
                exact ⟨q1, q2⟩
            exact h5 w' a4 (by rw [← e']; exact a8) (by rw [← e']; exact hA)
          · refine h5 w' a4 ?_
            rw [hΨ _ fun _ => false] at hA
            cases hdd : d with
            | false => exact hA
            | true =>
              refine apt_of hA (alcs_pair (ctx := e :: c) (all := ops.toList) h4.nod fun x hx y hy hxy ax ay => ?_)
              obtain ⟨b1, b2, _, b4⟩ := h4.of x hx
              obtain ⟨c1, c2, _, c4⟩ := h4.of y hy
              rw [b4, c4]
              refine a7 (hd hdd) x.1 y.1 b1 c1 hxy b2 c2 ?_ ?_
              · cases ho : ops.toList[x.1]? with
                | none => rw [ho] at ax; cases ax
                | some o => rw [ho] at ax; exact ⟨o, by simpa using ho, by simpa using ax⟩
              · cases ho : ops.toList[y.1]? with
                | none => rw [ho] at ay; cases ay
                | some o => rw [ho] at ay; exact ⟨o, by simpa using ho, by simpa using ay⟩
      obtain ⟨val0, hv0, _⟩ := hrun (fun i => match ops[i]? with
        | some o => (rsOf P o).val (rsOf P o).dflt
        | none => undef) (fun i o ho => ⟨_, by simp only [ho]; rfl⟩)
      refine head_run hE hS0 hT fo hn hQ hP (T := fun a w => ∃ f', a = act ds f' ∧ Agree (dsts ops.toList) f f' ∧ vcOps P pn ops.toList (ops.toList.drop n) f' w k)
        (fun fuel listed a w' s1 s2 s3 s4 s5 ⟨f', ha, hag, hv⟩ => by
          subst ha
          exact tail_run fo hQ (fun j => by simp) (ops.toList.drop n) n fuel listed f' w' k (fun j => by simp) (Nat.le_refl _) s1 s2 s3 s4 s5 hv (fun ch a w q => hP ch a w (PanAt.back hag hsub q)) fun f'' w'' hk' hag' => hk f'' w'' hk' (hag.trans (hag'.mono hsub))) hΦ hrun ops.size _ (act ds f) w0 _ val0 (cnt_replicate _ _ (Nat.le_refl _)) ⟨by simp, ?_, ?_, fun i o ho => ⟨_, by simp only [ho]; rfl⟩, hv0, size_act f, rfl, ?_, hE _, fun _ => rfl, ?_, (by
          have e : doneD ops f n (Array.replicate ops.size false) val0 = fun _ => false := by
            funext i; unfold doneD; rw [getD_replicate_false]; simp
          rw [e]; exact hS0), fun _ i _ hl => (by rw [getD_replicate_false] at hl; cases hl), fun _ i j _ _ _ hl => (by rw [getD_replicate_false] at hl; cases hl)⟩
      · intro i j _ hl; rw [getD_replicate_false] at hl; cases hl
      · intro t _ ht; simp [ht]
      · intro t
        rw [mlk_lk_none (fun j => getD_replicate_false _ _)]
        exact den_fget f t
      · intro i _ hl; rw [getD_replicate_false] at hl; cases hl
    split at h
    · exact main bel _ false false gT stT true (.inr ⟨rfl, fun _ _ _ => trivial, fun _ _ => trivial, fun _ _ => rfl⟩) trivial (fun _ _ _ h => h.size) bel.refl (fun _ _ _ => bel.trans) (fun _ _ _ _ _ _ _ _ _ _ _ _ _ => trivial) h
    · split at h
      · split at h
        · obtain ⟨Φ, hΦ, h⟩ := h
          exact main bel (fun _ => Φ) false false gT stT true (.inr ⟨rfl, fun _ _ _ => trivial, fun _ _ => trivial, fun _ _ => rfl⟩) trivial (fun _ _ _ h => h.size) bel.refl (fun _ _ _ => bel.trans) (fun i _ _ ags v w w' _ _ _ a b _ => hΦ i ags v w w' a b) h
        · obtain ⟨E, G, St, Φ, hE, hT, hΦ, hS0, h⟩ := h
          exact main E Φ _ kb G St false (.inl rfl) hS0 (fun h => by cases h) hE hT hΦ h
      · obtain ⟨E, Φ, hE, hT, hΦ, h⟩ := h
        exact main E (fun _ => Φ) false false gT stT false (.inr ⟨rfl, fun _ _ _ => trivial, fun _ _ => trivial, fun _ _ => rfl⟩) trivial (fun h => by cases h) hE hT (fun i _ _ ags v w w' _ _ _ a b _ => hΦ i ags v w w' a b) h
def vcDraw (P : Program) (pn : Pm) (own cnt kb : Bool) (p : Option (List Nat)) (n : Nat) (ops : Array Oper) (f : Fr) (w : World) (k : Fr → World → Prop) : Prop :=
  match p with
  | none => vcDraw0 P pn own cnt kb n ops f w k
  | some p => match permOk p ops with
    | true => vcDraw0 P pn own cnt kb n (permOps p ops) f w k
    | false => False
theorem vcDraw_spec {own cnt kb : Bool} {id n : Nat} {p : Option (List Nat)} {f : Fr} {w : World} {k : Fr → World → Prop} {Q : Exit → Act → World → Prop} (hm : P.follows .mixedOrders = true) (hQ : ∀ (i : Nat) o c a v w, ops[i]? = some o → Q (.panic c) (Act.put a o.dst v) w → Q (.panic c) a w) (hP : ∀ ch (a : Act) w, PanAt ds (dsts ops.toList) f a → PnOf pn ch w → Q (.panic ch) a w)
    (h : vcDraw P pn own cnt kb p n ops f w k) (hk : ∀ f' w', k f' w' → Agree (dsts ops.toList) f f' → Q .normal (act ds f') w') : (Code.region id ops true).wp P Q (act ds f) w := by
  refine wp_region_any hm ?_
  unfold vcDraw at h
  split at h
  · exact vcDraw0_spec hQ hP h hk
  · rename_i p
    split at h
    · rename_i hp
      have hp := permOk_spec hp
      have hsub : ∀ t ∈ dsts (permOps p ops).toList, t ∈ dsts ops.toList := fun t ht => by
        obtain ⟨o, ho, hd⟩ := List.mem_filterMap.1 ht
        obtain ⟨x, hx, he⟩ := List.mem_iff_getElem.1 ho
        have hx' : x < ops.size := by rw [← permOps_size hp]; simpa using hx
        obtain ⟨i, h1, h2, _⟩ := hp.from' x hx'
        have h3 := permOps_get hp h1 h2
        have h4 : (permOps p ops)[x]? = some o := by rw [← he]; simp
        rw [h4] at h3
        cases h3
        exact List.mem_filterMap.2 ⟨ops[i], by simp, hd⟩
      have hsub' : ∀ t ∈ dsts ops.toList, t ∈ dsts (permOps p ops).toList := fun t ht => by
        obtain ⟨o, ho, hd⟩ := List.mem_filterMap.1 ht
        obtain ⟨i, hi, he⟩ := List.mem_iff_getElem.1 ho
        have hi' : i < ops.size := by simpa using hi
        have h4 : ops[i] = o := by rw [← he]; simp
        exact dst_mem (permOps_get hp (hp.to i hi').2 hi') (by rw [h4]; exact hd)
      have hQ' : ∀ (i : Nat) o c a v w, (permOps p ops)[i]? = some o → Q (.panic c) (Act.put a o.dst v) w → Q (.panic c) a w := by
        intro x o c a v w ho q
        have hx : x < ops.size := by rw [← permOps_size hp]; exact (Array.getElem?_eq_some_iff.1 ho).1
        obtain ⟨i, h1, h2, _⟩ := hp.from' x hx
        rw [permOps_get hp h1 h2] at ho
        cases ho
        exact hQ i ops[i] c a v w (by simp [h2]) q
      have := vcDraw0_spec hQ' (fun ch a w q => hP ch a w (PanAt.back (.refl _ _) hsub q)) h fun f' w' hk' hag => hk f' w' hk' (hag.mono hsub)
      rw [permOps_size hp] at this
      exact wpAny_ren hp _ _ _ _ _ (by simp) (by simp) (fun i hi d => by simp [hi, (hp.to i hi).1]) this
    · exact h.elim
end

/-! ### hints: which slots live at a place where ways meet, and at the head of a loop -/
structure Hints where
  /-- (0, slot): behind a test of that slot; (1, id): behind a block; (2, id): at the head of the loop in that block; (3, id): behind a region -/
  at' : List (Nat × Nat × List (Nat × VS))
  /-- region that draws: how many operations stand ahead of its tail -/
  heads : List (Nat × Nat)
  /-- region that draws: another order of its text -/
  perms : List (Nat × List Nat)
  /-- region that draws: with a relation of its own -/
  owns : List Nat
def hfind : List (Nat × Nat × List (Nat × VS)) → Nat → Nat → Option (List (Nat × VS))
  | [], _, _ => none
  | (a, b, l) :: t, x, y => match a == x && b == y with
    | true => some l | false => hfind t x y
def hhead : List (Nat × Nat) → Nat → Nat → Nat
  | [], _, d => d
  | (a, n) :: t, x, d => match a == x with
    | true => n | false => hhead t x d
def hperm : List (Nat × List Nat) → Nat → Option (List Nat)
  | [], _ => none
  | (a, n) :: t, x => match a == x with
    | true => some n | false => hperm t x
def joinOf (H : Hints) : Code → Option (List (Nat × VS))
  | .cond (.tmp s) _ _ => hfind H.at' 0 s
  | .block id _ => hfind H.at' 1 id
  | .region id _ _ => hfind H.at' 3 id
  | .seq _ b => joinOf H b
  | _ => none
def LVT : List (Nat × VS) → Type
  | [] => Unit | s :: l => s.2.T × LVT l
def LVun : (l : List (Nat × VS)) → Fr → (LVT l → Prop) → Prop
  | [], _, p => p ()
  | s :: l, f, p => s.2.un (fget f s.1).den fun x => LVun l f fun y => p (x, y)
def LVset : (l : List (Nat × VS)) → LVT l → Fr → (Fr → Prop) → Prop
  | [], _, f, k => k f
  | s :: l, x, f, k => kv (fun y => LVset l x.2 (fset f s.1 y) k) (s.2.val x.1)
def havoc : List Nat → (Nat → Value) → Fr → Fr
  | [], _, f => f
  | s :: l, d, f => havoc l d (fset f s (.val (d s)))
def asg : Code → List Nat
  | .region _ ops _ => dsts ops.toList
  | .seq a b => asg a ++ asg b
  | .cond _ a b => asg a ++ asg b
  | .block _ c => asg c
  | .loop c => asg c
  | _ => []
def has (l : List (Nat × VS)) (s : Nat) : Bool := l.any fun p => p.1 == s
def dead (l : List (Nat × VS)) (a : List Nat) : List Nat := a.filter fun s => !has l s
def liveOk (l : List (Nat × VS)) (a : List Nat) : Bool := l.all fun p => a.contains p.1
structure Ks where
  nx : Fr → World → Prop
  ex : Nat → Fr → World → Prop
  rt : Fr → World → Prop
def vc (P : Program) (pn : Pm) (H : Hints) : Code → Nat → Ks → Fr → World → Prop
  | .skip, _, Q, f, w => Q.nx f w
  | .region id ops draw, _, Q, f, w => match draw with
    | false => vcOps P pn ops.toList ops.toList f w Q.nx
    | true => vcDraw P pn (H.owns.contains id) (H.owns.contains (id + 1000000)) (H.owns.contains (id + 2000000)) (hperm H.perms id) (hhead H.heads id ops.size) ops f w Q.nx
  | .seq a b, bid, Q, f, w => match joinOf H a with
    | some live => match liveOk live (asg a) with
      | true => join (T := LVT live) (fun x w => ∀ d, LVset live x (havoc (dead live (asg a)) d f) fun f' => force f' fun f' => vc P pn H b bid Q f' w)
        (fun K => vc P pn H a bid { Q with nx := fun f' w' => LVun live f' fun x => K x w' } f w)
      | false => False
    | none => vc P pn H a bid { Q with nx := fun f w => vc P pn H b bid Q f w } f w
  | .cond c x y, bid, Q, f, w => match fop f c with
    | .lit true => vc P pn H x bid Q f w
    | .lit false => vc P pn H y bid Q f w
    | .val (.bool b) => br b (force (learn f c true) fun f' => vc P pn H x bid Q f' w) (force (learn f c false) fun f' => vc P pn H y bid Q f' w)
    | _ => False
  | .block id c, _, Q, f, w => vc P pn H c id { Q with ex := fun i f w => match i == id with
      | true => Q.nx f w
      | false => Q.ex i f w } f w
  | .loop c, bid, Q, f, w => match hfind H.at' 2 bid with
    | some live => match liveOk live (asg c) with
      | true => LVun live f fun x0 => loop x0 w fun again x w => ∀ d, LVset live x (havoc (dead live (asg c)) d f) fun f' => force f' fun f' =>
          vc P pn H c bid { Q with nx := fun f' w' => LVun live f' fun x' => again x' w' } f' w
      | false => False
    | none => False
  | .exit id, _, Q, f, w => Q.ex id f w
  | .ret, _, Q, f, w => Q.rt f w
  | _, _, _, _, _ => False

theorem length_havoc (d : Nat → Value) : ∀ (l : List Nat) (f : Fr), (havoc l d f).length = f.length
  | [], _ => rfl
  | s :: l, f => by simp only [havoc]; rw [length_havoc d l, length_fset]
theorem havoc_den (d : Nat → Value) : ∀ (l : List Nat) (f : Fr) (t : Nat), (fget (havoc l d f) t).den = if t ∈ l ∧ t < f.length then d t else (fget f t).den
  | [], _, _ => by simp [havoc]
  | s :: l, f, t => by
    simp only [havoc]
    rw [havoc_den d l, length_fset, fget_fset]
    by_cases h1 : t ∈ l ∧ t < f.length
    · rw [if_pos h1, if_pos ⟨List.mem_cons_of_mem _ h1.1, h1.2⟩]
    · rw [if_neg h1]
      by_cases h2 : s = t ∧ s < f.length
      · obtain ⟨rfl, h3⟩ := h2
        rw [if_pos ⟨rfl, h3⟩, if_pos ⟨List.mem_cons_self .., h3⟩]; rfl
      · rw [if_neg h2, if_neg]
        rintro ⟨h3, h4⟩
        rcases List.mem_cons.1 h3 with rfl | h3
        · exact h2 ⟨rfl, h4⟩
        · exact h1 ⟨h3, h4⟩
end Go.V

/- The calculus, eighth part: the conditions suffice. -/

namespace Go.V
open Go Go.RowKit
variable {ds : List Deferred} {pn : Pm}

def lval : (l : List (Nat × VS)) → LVT l → (Nat → Value) → Nat → Value
  | [], _, base, t => base t
  | s :: l, x, base, t => lval l x.2 (fun t => if s.1 = t then s.2.val x.1 else base t) t
theorem LVset_spec : ∀ {l : List (Nat × VS)} {x : LVT l} {f : Fr} {k : Fr → Prop}, LVset l x f k →
    ∃ g, k g ∧ g.length = f.length ∧ ∀ t, t < f.length → (fget g t).den = lval l x (fun t => (fget f t).den) t
  | [], _, f, _, h => ⟨f, h, rfl, fun _ _ => rfl⟩
  | s :: l, x, f, k, h => by
    obtain ⟨y, hy, h1⟩ := kv_spec (show kv (fun y => LVset l x.2 (fset f s.1 y) k) (s.2.val x.1) from h)
    obtain ⟨g, h2, h3, h4⟩ := LVset_spec h1
    refine ⟨g, h2, by rw [h3, length_fset], fun t ht => ?_⟩
    rw [h4 t (by rw [length_fset]; exact ht)]
    simp only [lval]
    have key : ∀ (l : List (Nat × VS)) (x : LVT l) (b b' : Nat → Value), (∀ t, t < f.length → b t = b' t) → ∀ t, t < f.length → lval l x b t = lval l x b' t := by
      intro l
      induction l with
      | nil => intro x b b' hb t ht; exact hb t ht
      | cons s l ih =>
        intro x b b' hb t ht
        simp only [lval]
        refine ih x.2 _ _ (fun t ht => ?_) t ht
        split
        · rfl
        · exact hb t ht
    refine key l x.2 _ _ (fun t ht => ?_) t ht
    rw [fget_fset]
    by_cases hs : s.1 = t
    · subst hs; rw [if_pos ⟨rfl, ht⟩, if_pos rfl, hy]
    · rw [if_neg (fun h => hs h.1), if_neg hs]
theorem LVun_val : ∀ {l : List (Nat × VS)} {f : Fr} {p : LVT l → Prop}, LVun l f p → ∃ x, p x ∧ ∀ base t, lval l x base t = if has l t = true then (fget f t).den else base t
  | [], f, p, h => ⟨(), h, fun base t => by simp [lval, has]⟩
  | s :: l, f, p, h => by
    obtain ⟨x, hx, h1⟩ := VS.un_spec (show s.2.un (fget f s.1).den (fun x => LVun l f fun y => p (x, y)) from h)
    obtain ⟨y, h2, h3⟩ := LVun_val h1
    refine ⟨(x, y), h2, fun base t => ?_⟩
    simp only [lval]
    rw [h3]
    by_cases h4 : has l t = true
    · rw [if_pos h4, if_pos (by simp only [has, List.any_cons] at *; simp [h4])]
    · rw [if_neg h4]
      by_cases h5 : s.1 = t
      · subst h5
        rw [if_pos rfl, if_pos (by simp [has]), hx]
      · rw [if_neg h5, if_neg]
        simp only [has, List.any_cons, Bool.or_eq_true, beq_iff_eq] at *
        rintro (h6 | h6)
        · exact h5 h6
        · exact h4 h6
theorem mem_dead {l : List (Nat × VS)} {a : List Nat} {t : Nat} : t ∈ dead l a ↔ t ∈ a ∧ has l t = false := by
  simp [dead, List.mem_filter]
theorem hand_on {live : List (Nat × VS)} {a : List Nat} (_hl : liveOk live a = true) {f f' : Fr} (hag : Agree a f f') {p : LVT live → Prop} (h : LVun live f' p) :
    ∃ x, p x ∧ ∀ k : Fr → Prop, LVset live x (havoc (dead live a) (fun s => (fget f' s).den) f) k → ∃ g, k g ∧ act ds g = act ds f' := by
  obtain ⟨x, hx, hv⟩ := LVun_val h
  refine ⟨x, hx, fun k hk => ?_⟩
  obtain ⟨g, h1, h2, h3⟩ := LVset_spec hk
  rw [length_havoc] at h2 h3
  refine ⟨g, h1, act_ext (h2.trans hag.1.symm) fun t => ?_⟩
  by_cases ht : t < f.length
  · rw [h3 t ht, hv]
    by_cases hb : has live t = true
    · rw [if_pos hb]
    · rw [if_neg hb, havoc_den]
      by_cases hd : t ∈ dead live a
      · rw [if_pos ⟨hd, ht⟩]
      · rw [if_neg (fun h => hd h.1)]
        refine (hag.2 t fun hm => hd (mem_dead.2 ⟨hm, by simpa using hb⟩)).symm
  · rw [fget_out (f := g) (by omega), fget_out (f := f') (by rw [hag.1]; omega)]
def Qd (ds : List Deferred) (pn : Pm) (Q : Ks) (S : List Nat) (f0 : Fr) : Exit → Act → World → Prop
  | .normal, a, w => ∃ f, a = act ds f ∧ Agree S f0 f ∧ Q.nx f w
  | .exit i, a, w => ∃ f, a = act ds f ∧ Agree S f0 f ∧ Q.ex i f w
  | .ret, a, w => ∃ f, a = act ds f ∧ Agree S f0 f ∧ Q.rt f w
  | .panic ch, a, w => PanAt ds S f0 a ∧ PnOf pn ch w
  | _, _, _ => False

theorem least {p : Nat → Prop} (h : ∃ n, p n) : ∃ n, p n ∧ ∀ m, p m → n ≤ m := by
  obtain ⟨n, hn⟩ := h
  induction n using Nat.strongRecOn with
  | _ n ih =>
    by_cases h : ∃ m, m < n ∧ p m
    · obtain ⟨m, h1, h2⟩ := h; exact ih m h1 h2
    · exact ⟨n, hn, fun m hm => Nat.le_of_not_lt fun h' => h ⟨m, h', hm⟩⟩
open Classical in
theorem wp_loop_of {P : Program} {Q : Exit → Act → World → Prop} {T : Type} {c : Code} (I : T → Act → World → Prop) (μ : T → World → Nat) {x0 : T} {a : Act} {w : World} (h0 : I x0 a w)
    (round : ∀ x a w, I x a w → c.wp P (Exit.then (fun a' w' => ∃ x', I x' a' w' ∧ μ x' w' < μ x w) Q) a w) : (Code.loop c).wp P Q a w := by
  let p : Act → World → Nat → Prop := fun a w n => ∃ x, I x a w ∧ μ x w = n
  let ν : Act → World → Nat := fun a w => if h : ∃ n, p a w n then Classical.choose (least h) else 0
  have hν : ∀ a w, (∃ n, p a w n) → p a w (ν a w) ∧ ∀ m, p a w m → ν a w ≤ m := by
    intro a w h
    simp only [ν, dif_pos h]
    exact Classical.choose_spec (least h)
  refine wp_loop (fun a w => ∃ x, I x a w) ν ⟨x0, h0⟩ fun a w ⟨x, hx⟩ => ?_
  obtain ⟨⟨y, hy, hy2⟩, _⟩ := hν a w ⟨_, x, hx, rfl⟩
  refine Go.wp_mono (round y a w hy) ?_
  intro e a' w' hq
  cases e with
  | normal =>
    obtain ⟨x', h1, h2⟩ := hq
    refine ⟨⟨x', h1⟩, ?_⟩
    have := (hν a' w' ⟨_, x', h1, rfl⟩).2 _ ⟨x', h1, rfl⟩
    omega
  | _ => exact hq

theorem Qd_mono {Q : Ks} {S S' : List Nat} {f0 f1 : Fr} (hag : Agree S' f0 f1) (hs : ∀ t ∈ S, t ∈ S') {e : Exit} {a : Act} {w : World} (h : Qd ds pn Q S f1 e a w) : Qd ds pn Q S' f0 e a w := by
  cases e <;> simp only [Qd] at h ⊢ <;> try exact h
  · obtain ⟨f, h1, h2, h3⟩ := h; exact ⟨f, h1, hag.trans (h2.mono hs), h3⟩
  · obtain ⟨f, h1, h2, h3⟩ := h; exact ⟨f, h1, hag.trans (h2.mono hs), h3⟩
  · obtain ⟨f, h1, h2, h3⟩ := h; exact ⟨f, h1, hag.trans (h2.mono hs), h3⟩
  · exact ⟨PanAt.back hag hs h.1, h.2⟩
theorem Agree.of_same {S : List Nat} {f g g' : Fr} (h : Agree S f g) (e : act ds g' = act ds g) : Agree S f g' := by
  have hl : g'.length = g.length := by rw [← size_act, e, size_act]
  refine ⟨hl.trans h.1, fun t ht => ?_⟩
  rw [← h.2 t ht, ← den_fget, ← den_fget, e]

theorem vc_sound {P : Program} {H : Hints} (hm : P.follows .mixedOrders = true) : ∀ (c : Code) (bid : Nat) (Q : Ks) (f : Fr) (w : World), vc P pn H c bid Q f w → c.wp P (Qd ds pn Q (asg c) f) (act ds f) w := by
  intro c
  induction c with
  | skip => intro bid Q f w h; exact wp_skip ⟨f, rfl, .refl _ _, h⟩
  | region id ops draw =>
    intro bid Q f w h
    cases draw with
    | false => exact wp_region_list (vcOps_spec (fun j => by simp) _ f w Q.nx h (fun ch a w q1 q2 => ⟨q1, q2⟩) fun f' w' hk hag => ⟨f', rfl, hag, hk⟩)
    | true => exact vcDraw_spec hm (fun i o c a v w ho q => ⟨PanAt.put (fun t ht => dst_mem ho ht) q.1, q.2⟩) (fun ch a w q1 q2 => ⟨q1, q2⟩) h fun f' w' hk hag => ⟨f', rfl, hag, hk⟩
  | seq a b iha ihb =>
    intro bid Q f w h
    unfold vc at h
    split at h
    · rename_i live _
      split at h
      · rename_i hl
        refine wp_seq (Go.wp_mono (iha bid _ f w h) ?_)
        intro e a' w' hq
        have out : ∀ {e}, e ≠ .normal → Qd ds pn { Q with nx := fun f' w' => LVun live f' fun x => (∀ d, LVset live x (havoc (dead live (asg a)) d f) fun f' => force f' fun f' => vc P pn H b bid Q f' w') } (asg a) f e a' w' →
            Qd ds pn Q (asg (.seq a b)) f e a' w' := by
          intro e hne hq
          cases e <;> simp only [Qd] at hq ⊢ <;> first
            | exact absurd rfl hne
            | exact hq
            | exact ⟨PanAt.back (.refl _ _) (fun t ht => List.mem_append_left _ ht) hq.1, hq.2⟩
            | (obtain ⟨g, h1, h2, h3⟩ := hq; exact ⟨g, h1, h2.mono fun t ht => List.mem_append_left _ ht, h3⟩)
        cases e with
        | normal =>
          obtain ⟨f', rfl, hag, hk⟩ := hq
          obtain ⟨x, hx, hon⟩ := hand_on hl hag hk
          obtain ⟨g, hg, hge⟩ := hon _ (hx _)
          rw [force_eq] at hg
          rw [Exit.then, ← hge]
          refine Go.wp_mono (ihb bid Q g w' hg) fun e a w hq => ?_
          exact Qd_mono ((hag.of_same hge).mono fun t ht => List.mem_append_left _ ht) (fun t ht => List.mem_append_right _ ht) hq
        | exit i => exact out (by simp) hq
        | ret => exact out (by simp) hq
        | goto l => exact hq
        | panic ch => exact out (by simp) hq
        | outgrown => exact hq
      · exact h.elim
    · refine wp_seq (Go.wp_mono (iha bid _ f w h) ?_)
      intro e a' w' hq
      cases e with
      | normal =>
        obtain ⟨f', rfl, hag, hk⟩ := hq
        refine Go.wp_mono (ihb bid Q f' w' hk) fun e a w hq => ?_
        exact Qd_mono (hag.mono fun t ht => List.mem_append_left _ ht) (fun t ht => List.mem_append_right _ ht) hq
      | exit i => obtain ⟨g, h1, h2, h3⟩ := hq; exact ⟨g, h1, h2.mono fun t ht => List.mem_append_left _ ht, h3⟩
      | ret => obtain ⟨g, h1, h2, h3⟩ := hq; exact ⟨g, h1, h2.mono fun t ht => List.mem_append_left _ ht, h3⟩
      | goto l => exact hq
      | panic ch => exact ⟨PanAt.back (.refl _ _) (fun t ht => List.mem_append_left _ ht) hq.1, hq.2⟩
      | outgrown => exact hq
  | cond c x y ihx ihy =>
    intro bid Q f w h
    unfold vc at h
    have hev : (act ds f).eval c = (fop f c).den := by rw [act_eval]; rfl
    split at h
    · rename_i hc
      refine wp_cond_true (by rw [hev, hc]; rfl) (Go.wp_mono (ihx bid Q f w h) fun e a w hq => ?_)
      exact Qd_mono (.refl _ _) (fun t ht => List.mem_append_left _ ht) hq
    · rename_i hc
      refine wp_cond_false (by rw [hev, hc]; rfl) (Go.wp_mono (ihy bid Q f w h) fun e a w hq => ?_)
      exact Qd_mono (.refl _ _) (fun t ht => List.mem_append_right _ ht) hq
    · rename_i b hc
      cases b with
      | true =>
        have h1 := h.1 rfl
        rw [force_eq] at h1
        have he := act_learn (ds := ds) (b := true) hc
        have := ihx bid Q _ w h1
        rw [he] at this
        refine wp_cond_true (by rw [hev, hc]; rfl) (Go.wp_mono this fun e a w hq => ?_)
        exact Qd_mono (Agree.of_same (.refl _ _) he) (fun t ht => List.mem_append_left _ ht) hq
      | false =>
        have h1 := h.2 rfl
        rw [force_eq] at h1
        have he := act_learn (ds := ds) (b := false) hc
        have := ihy bid Q _ w h1
        rw [he] at this
        refine wp_cond_false (by rw [hev, hc]; rfl) (Go.wp_mono this fun e a w hq => ?_)
        exact Qd_mono (Agree.of_same (.refl _ _) he) (fun t ht => List.mem_append_right _ ht) hq
    · exact h.elim
  | block id c ih =>
    intro bid Q f w h
    refine wp_block (Go.wp_mono (ih id _ f w h) ?_)
    intro e a w hq
    cases e with
    | exit i =>
      obtain ⟨g, h1, h2, h3⟩ := hq
      dsimp only at h3
      by_cases hi : i = id
      · subst hi
        simp only [beq_self_eq_true] at h3
        simp only [Exit.inBlock, if_true]
        exact ⟨g, h1, h2, h3⟩
      · have : (i == id) = false := by simpa using hi
        simp only [this] at h3
        simp only [Exit.inBlock, if_neg hi]
        exact ⟨g, h1, h2, h3⟩
    | _ => exact hq
  | loop c ih =>
    intro bid Q f w h
    unfold vc at h
    split at h
    · rename_i live _
      split at h
      · rename_i hl
        obtain ⟨x0, hx0, hon0⟩ := hand_on hl (Agree.refl (asg c) f) h
        obtain ⟨I, μ, hI0, hround⟩ := hx0
        refine wp_loop_of (T := LVT live) (fun x a w => I x w ∧ ∃ g, a = act ds g ∧ Agree (asg c) f g ∧ (force g fun f' => vc P pn H c bid { Q with nx := fun f' w' => LVun live f' fun x' => I x' w' ∧ μ x' w' < μ x w } f' w)) μ (x0 := x0) ?_ ?_
        · obtain ⟨g, hg, hge⟩ := hon0 _ (hround x0 w hI0 _)
          exact ⟨hI0, g, hge.symm, Agree.of_same (.refl _ _) hge, hg⟩
        · rintro x a w ⟨hI, g, rfl, hag, hg⟩
          rw [force_eq] at hg
          refine Go.wp_mono (ih bid _ g w hg) ?_
          intro e a' w' hq
          cases e with
          | normal =>
            obtain ⟨f', rfl, hag', hk⟩ := hq
            obtain ⟨x', ⟨hI', hlt⟩, hon⟩ := hand_on hl (hag.trans hag') hk
            obtain ⟨g', hg', hge'⟩ := hon _ (hround x' w' hI' _)
            exact ⟨x', ⟨hI', g', hge'.symm, Agree.of_same (hag.trans hag') hge', hg'⟩, hlt⟩
          | exit i => obtain ⟨g2, h1, h2, h3⟩ := hq; exact ⟨g2, h1, hag.trans h2, h3⟩
          | ret => obtain ⟨g2, h1, h2, h3⟩ := hq; exact ⟨g2, h1, hag.trans h2, h3⟩
          | goto l => exact hq
          | panic ch => exact ⟨PanAt.back hag (fun t ht => ht) hq.1, hq.2⟩
          | outgrown => exact hq
      · exact h.elim
    · exact h.elim
  | exit id => intro bid Q f w h; exact wp_exit ⟨f, rfl, .refl _ _, h⟩
  | ret => intro bid Q f w h; exact wp_ret ⟨f, rfl, .refl _ _, h⟩
  | _ => intro bid Q f w h; exact h.elim

/-! ### a function -/
def vcRes (P : Program) (f : Fr) (w : World) (R : Value → World → Prop) : List ResultVar → List TypeId → List Value → Prop
  | [], _, [v] => kv (fun v => R v.den w) v
  | [], _, vs => R (.tuple vs.reverse.toArray) w
  | .tmp t :: rs, _ :: ts, vs => kf (fun v => vcRes P f w R rs ts (v.den :: vs)) (fget f t)
  | .cell a t :: rs, _ :: ts, vs => match fget f a with
    | .val (.pointer (some ad)) => rd P (loadVar t ad) (tyVS P t) w fun x => kv (fun v => vcRes P f w R rs ts (v.den :: vs)) ((tyVS P t).val x)
    | _ => False
  | _, _, _ => False
def putArgs : List Value → Nat → Tr → Tr
  | [], _, t => t
  | v :: l, i, t => putArgs l (i + 1) (tset 16 t i (.val v))
def vcFnP (P : Program) (pn : Pm) (H : Hints) (fn : Func) (args : List Value) (w : World) (R : Value → World → Prop) : Prop :=
  match fn.body with
  | some c => match decEq (Nat.ble fn.ntmps 65534 && Nat.ble args.length fn.ntmps) true with
    | .isTrue h => vc P pn H c 0 ⟨fun f w => vcRes P f w R fn.results.toList fn.resultTypes.toList [], fun _ _ _ => False, fun f w => vcRes P f w R fn.results.toList fn.resultTypes.toList []⟩
        ⟨fn.ntmps, by simp only [Bool.and_eq_true, Nat.ble_eq] at h; exact h.1, putArgs args 0 .leaf⟩ w
    | .isFalse _ => False
  | none => False
theorem tget_leaf : ∀ (k i : Nat), tget k .leaf i = .un
  | 0, _ => rfl
  | k + 1, i => by
    cases i with
    | zero => rfl
    | succ i =>
      simp only [tget, Tr.left, Tr.right]
      split <;> exact tget_leaf k _
theorem putArgs_get : ∀ (l : List Value) (i : Nat) (t : Tr) (j : Nat), i + l.length ≤ 65534 → tget 16 (putArgs l i t) j = if i ≤ j ∧ j < i + l.length then .val (l.getD (j - i) undef) else tget 16 t j
  | [], i, t, j, _ => by
    simp only [putArgs, List.length_nil, Nat.add_zero]
    rw [if_neg (by omega)]
  | v :: l, i, t, j, h => by
    simp only [List.length_cons] at h
    simp only [putArgs, List.length_cons]
    rw [putArgs_get l (i + 1) _ j (by omega), tget_tset 16 t i j _ (by show i + 1 < 65536; omega)]
    by_cases h1 : i + 1 ≤ j ∧ j < i + 1 + l.length
    · rw [if_pos h1, if_pos (by omega)]
      obtain ⟨k, hk⟩ : ∃ k, j - i = k + 1 := ⟨j - i - 1, by omega⟩
      rw [hk, show j - (i + 1) = k by omega]; rfl
    · rw [if_neg h1]
      by_cases h2 : i = j
      · subst h2; rw [if_pos rfl, if_pos (by omega)]; simp
      · rw [if_neg h2, if_neg (by omega)]
theorem act_pad {args : List Value} {n : Nat} (h : n ≤ 65534) (ha : args.length ≤ n) : act [] ⟨n, h, putArgs args 0 .leaf⟩ = { tmps := args.toArray ++ Array.replicate (n - args.toArray.size) undef, defers := [] } := by
  refine (eq_act (ds := []) (f := ⟨n, h, putArgs args 0 .leaf⟩) (by simp; omega) rfl fun t => ?_).symm
  by_cases ht : t < n
  · rw [fget_in (f := ⟨n, h, putArgs args 0 .leaf⟩) ht, putArgs_get args 0 .leaf t (by omega), tget_leaf]
    by_cases h1 : t < args.length
    · rw [if_pos ⟨Nat.zero_le _, by omega⟩]
      simp [FV.den, Array.getElem?_append, h1]
    · rw [if_neg (by omega)]
      simp [FV.den, Array.getElem?_append, h1]
      have h2 : t - args.length < n - args.length := by omega
      simp [h2]
  · rw [fget_out (f := ⟨n, h, putArgs args 0 .leaf⟩) (by show n ≤ t; omega)]
    have h2 : ¬ t < args.length := by omega
    have h3 : ¬ t - args.length < n - args.length := by omega
    simp [FV.den, Array.getElem?_append, h2, h3]
def resSem (a : Act) : ResultVar → Sem Value
  | .tmp t => pure (a.tmps.getD t undef)
  | .cell c t => do loadVar t (← asAddr (a.tmps.getD c undef))
theorem vcRes_spec {P : Program} {f : Fr} {w : World} {R : Value → World → Prop} : ∀ (rs : List ResultVar) (ts : List TypeId) (vs : List Value), vcRes P f w R rs ts vs →
    ∃ us, (rs.mapM (resSem (act ds f))).run P w = .ok us w ∧ R (if (vs.reverse ++ us).length = 1 then (vs.reverse ++ us).getD 0 undef else .tuple (vs.reverse ++ us).toArray) w
  | [], ts, [v], h => by
    obtain ⟨x, rfl, hx⟩ := kv_spec (show kv (fun v => R v.den w) v from h)
    exact ⟨[], rfl, by simpa using hx⟩
  | [], ts, [], h => ⟨[], rfl, by simpa [vcRes] using h⟩
  | [], ts, u :: v :: vs, h => ⟨[], rfl, by
      have h' : R (.tuple (u :: v :: vs).reverse.toArray) w := h
      simpa using h'⟩
  | .tmp t :: rs, [], vs, h => by simp [vcRes] at h
  | .cell a t :: rs, [], vs, h => by simp [vcRes] at h
  | .tmp t :: rs, ty :: ts, vs, h => by
    obtain ⟨x, hx, h1⟩ := kf_spec (show kf (fun v => vcRes P f w R rs ts (v.den :: vs)) (fget f t) from h)
    obtain ⟨us, h2, h3⟩ := vcRes_spec rs ts _ h1
    refine ⟨x.den :: us, ?_, by simpa using h3⟩
    have hr : (resSem (act ds f) (.tmp t)).run P w = .ok x.den w := by
      rw [hx, ← den_fget]; rfl
    simp only [List.mapM_cons, Sem.run_bind, hr, Result.andThen_ok, h2, Sem.run_pure]
  | .cell a t :: rs, ty :: ts, vs, h => by
    unfold vcRes at h
    split at h
    · rename_i ad had
      obtain ⟨x, hx, h1⟩ := h
      obtain ⟨y, hy, h1⟩ := kv_spec h1
      obtain ⟨us, h2, h3⟩ := vcRes_spec rs ts _ h1
      refine ⟨y.den :: us, ?_, by simpa using h3⟩
      have hp : (act ds f).tmps.getD a undef = .pointer (some ad) := by
        have := den_fget (ds := ds) f a
        rw [had] at this; exact this
      have hr : (resSem (act ds f) (.cell a t)).run P w = .ok y.den w := by
        have h4 := hx w (bel.refl _)
        rw [hy, ← h4]
        show (asAddr ((act ds f).tmps.getD a undef) >>= loadVar t).run P w = _
        rw [hp]
        rfl
      simp only [List.mapM_cons, Sem.run_bind, hr, Result.andThen_ok, h2, Sem.run_pure]
    · exact h.elim
theorem results_eq (fn : Func) (a : Act) : results fn a.tmps = (do let vs ← fn.results.mapM (resSem a); pure (if h : vs.size = 1 then vs[0] else .tuple vs)) := by
  unfold results
  congr 2

def ret (R : Value → World → Prop) : Ending → World → Prop := fun e w' => ∃ v, e = .returned v ∧ R v w'
def retP (R : Value → World → Prop) (pn : Pm) : Ending → World → Prop := fun e w' => (∃ v, e = .returned v ∧ R v w') ∨ ∃ ch, e = .panicked ch ∧ PnOf pn ch w'
theorem vcFnP_sound {P : Program} {pn : Pm} {H : Hints} {fi : FuncId} {fn : Func} {args : List Value} {w : World} {R : Value → World → Prop} (hm : P.follows .mixedOrders = true) (hf : P.funcs[fi]? = some fn)
    (h : vcFnP P pn H fn args w R) : Calls P fi args.toArray w (retP R pn) := by
  unfold vcFnP at h
  split at h
  · rename_i c hc
    split at h
    case h_2 => exact h.elim
    rename_i hb _
    have hb' := hb
    simp only [Bool.and_eq_true, Nat.ble_eq] at hb'
    refine calls_of_wp hf hc ?_
    rw [← act_pad hb'.1 hb'.2]
    refine Go.wp_mono (vc_sound (ds := []) hm c 0 _ _ w h) ?_
    have ret : ∀ f w, vcRes P f w R fn.results.toList fn.resultTypes.toList [] → (act [] f).defers = [] ∧ ∃ v, (results fn (act [] f).tmps).run P w = .ok v w ∧ retP R pn (.returned v) w := by
      intro f w h
      obtain ⟨us, h1, h2⟩ := vcRes_spec (ds := []) _ _ _ h
      refine ⟨rfl, _, ?_, .inl ⟨_, rfl, h2⟩⟩
      rw [results_eq, ← Array.toArray_toList (xs := fn.results), List.mapM_toArray]
      simp only [Sem.run_bind, Sem.run_map, h1, Result.andThen_ok, Sem.run_pure, List.reverse_nil, List.nil_append, List.size_toArray]
      by_cases hl : us.length = 1
      · match us, hl with
        | [u], _ => rfl
      · simp [hl]
    intro e a w' hq
    cases e with
    | normal => obtain ⟨g, rfl, _, hk⟩ := hq; exact ret g w' hk
    | ret => obtain ⟨g, rfl, _, hk⟩ := hq; exact ret g w' hk
    | exit i => obtain ⟨g, _, _, hk⟩ := hq; exact hk.elim
    | goto l => exact hq
    | panic ch => exact ⟨hq.1.1, .inr ⟨ch, rfl, hq.2⟩⟩
    | outgrown => exact hq.elim
  · exact h.elim
def vcFn (P : Program) (H : Hints) (fn : Func) (args : List Value) (w : World) (R : Value → World → Prop) : Prop := vcFnP P none H fn args w R
theorem vcFn_sound {P : Program} {H : Hints} {fi : FuncId} {fn : Func} {args : List Value} {w : World} {R : Value → World → Prop} (hm : P.follows .mixedOrders = true) (hf : P.funcs[fi]? = some fn)
    (h : vcFn P H fn args w R) : Calls P fi args.toArray w (ret R) :=
  (vcFnP_sound (pn := none) hm hf h).mono fun _ _ q => q.elim id fun ⟨_, _, q⟩ => q.elim
end Go.V

/- What the seat's program may turn (asked by every condition). -/



namespace Go.Proofs
open Go Go.RowKit
theorem follows_ : Tryz.prog.follows .mixedOrders = true := by kernel_rfl
end Go.Proofs
