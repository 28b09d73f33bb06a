/- A calculus of verification conditions over the walk's predicates: 'vc' computes, for the code of a function, a proposition without a frame; 'vc_sound': it implies the walk's Code.wp. No program's text is in sight. -/
import Derived.WalkKit
import Derived.WalkSpells
import Derived.WalkLawsBesides
import Derived.Lib.Hide
import Derived.StillTailTactics
import Derived.Deep.RegionHeld3
namespace Go.V
open Go Go.RowKit

/-! ### shapes -/
inductive Sh where
  | int (k : IntKind) | bool | str | slice | ptr | addr | map | any
def Sh.T : Sh → Type
  | .int _ => Int | .bool => Bool | .str => ByteArray | .slice => Option Addr × Nat × Nat | .ptr => Option Addr | .addr => Addr | .map => Option Nat | .any => Value
def Sh.val : (s : Sh) → s.T → Value
  | .int k, n => .int k n | .bool, b => .bool b | .str, s => .string s | .slice, x => .slice x.1 x.2.1 x.2.2
  | .ptr, a => .pointer a | .addr, a => .pointer (some a) | .map, r => .map r | .any, v => v
def LT : List Sh → Type
  | [] => Unit | s :: l => s.T × LT l
def Lval : (l : List Sh) → LT l → List Value
  | [], _ => [] | s :: l, x => s.val x.1 :: Lval l x.2
inductive VS where
  | one (s : Sh) | agg (l : List Sh)
def VS.T : VS → Type
  | .one s => s.T | .agg l => LT l
def VS.val : (v : VS) → v.T → Value
  | .one s, x => s.val x | .agg l, x => .agg (Lval l x).toArray
def VT : List VS → Type
  | [] => Unit | s :: l => s.T × VT l
def Vval : (l : List VS) → VT l → List Value
  | [], _ => [] | s :: l, x => s.val x.1 :: Vval l x.2
inductive RS where
  | one (v : VS) | many (l : List VS)
def RS.T : RS → Type
  | .one v => v.T | .many l => VT l
def RS.val : (r : RS) → r.T → Value
  | .one v, x => v.val x | .many l, x => .tuple (Vval l x).toArray

def Sh.dflt : (s : Sh) → s.T
  | .int _ => (0 : Int) | .bool => false | .str => ByteArray.empty | .slice => (none, 0, 0) | .ptr => none | .addr => ⟨0, 0, none⟩ | .map => none | .any => undef
def Ldflt : (l : List Sh) → LT l
  | [] => () | s :: l => (s.dflt, Ldflt l)
def VS.dflt : (v : VS) → v.T
  | .one s => s.dflt | .agg l => Ldflt l
def Vdflt : (l : List VS) → VT l
  | [] => () | s :: l => (s.dflt, Vdflt l)
def RS.dflt : (r : RS) → r.T
  | .one v => v.dflt | .many l => Vdflt l

def shOf : Value → Sh
  | .int k _ => .int k | .bool _ => .bool | .string _ => .str | .slice .. => .slice | .pointer _ => .ptr | .map _ => .map | _ => .any
def vsOf : Value → VS
  | .agg cs => .agg (cs.toList.map shOf) | v => .one (shOf v)
def rsOfV : Value → RS
  | .tuple vs => .many (vs.toList.map vsOf) | v => .one (vsOf v)
def zeroOf (P : Program) (t : TypeId) : Option Value := (P.info? t).bind (·.zero)
def tyVS (P : Program) (t : TypeId) : VS :=
  match zeroOf P t with
  | some z => vsOf z | none => .one .any
def tyRS (P : Program) (t : TypeId) : RS :=
  match zeroOf P t with
  | some z => rsOfV z | none => .one (.one .any)

/-- the value has the shape -/
def Sh.un : (s : Sh) → Value → (s.T → Prop) → Prop
  | .int k, .int k' n, p => match decEq k' k with
    | .isTrue _ => p n | .isFalse _ => False
  | .bool, .bool b, p => p b
  | .str, .string s, p => p s
  | .slice, .slice a n c, p => p (a, n, c)
  | .ptr, .pointer a, p => p a
  | .addr, .pointer (some a), p => p a
  | .map, .map r, p => p r
  | .any, v, p => p v
  | _, _, _ => False
def Lun : (l : List Sh) → List Value → (LT l → Prop) → Prop
  | [], [], p => p ()
  | s :: l, v :: vs, p => s.un v fun x => Lun l vs fun y => p (x, y)
  | _, _, _ => False
def VS.un : (v : VS) → Value → (v.T → Prop) → Prop
  | .one s, v, p => s.un v p
  | .agg l, .agg cs, p => Lun l cs.toList p
  | _, _, _ => False
def Vun : (l : List VS) → List Value → (VT l → Prop) → Prop
  | [], [], p => p ()
  | s :: l, v :: vs, p => s.un v fun x => Vun l vs fun y => p (x, y)
  | _, _, _ => False
def RS.un : (r : RS) → Value → (r.T → Prop) → Prop
  | .one v, x, p => v.un x p
  | .many l, .tuple cs, p => Vun l cs.toList p
  | _, _, _ => False

theorem Sh.un_spec {s : Sh} {v : Value} {p : s.T → Prop} (h : s.un v p) : ∃ x, v = s.val x ∧ p x := by
  cases s <;> cases v <;> simp only [Sh.un] at h <;> first
    | exact h.elim
    | exact ⟨_, rfl, h⟩
    | skip
  · rename_i k k' n
    cases hd : decEq k' k with
    | isTrue e => rw [hd] at h; subst e; exact ⟨_, rfl, h⟩
    | isFalse e => rw [hd] at h; exact h.elim
  · rename_i a
    cases a with
    | none => exact h.elim
    | some a => exact ⟨_, rfl, h⟩
theorem Lun_spec : ∀ {l : List Sh} {vs : List Value} {p : LT l → Prop}, Lun l vs p → ∃ x, vs = Lval l x ∧ p x
  | [], [], p, h => ⟨(), rfl, h⟩
  | [], _ :: _, p, h => by simp [Lun] at h
  | _ :: _, [], p, h => by simp [Lun] at h
  | s :: l, v :: vs, p, h => by
    obtain ⟨x, hx, h1⟩ := Sh.un_spec (show s.un v (fun x => Lun l vs fun y => p (x, y)) from h)
    obtain ⟨y, hy, h2⟩ := Lun_spec h1
    exact ⟨(x, y), by rw [hx, hy]; rfl, h2⟩
theorem VS.un_spec {s : VS} {v : Value} {p : s.T → Prop} (h : s.un v p) : ∃ x, v = s.val x ∧ p x := by
  cases s with
  | one s => exact Sh.un_spec h
  | agg l =>
    cases v <;> simp only [VS.un] at h <;> try exact h.elim
    obtain ⟨x, hx, h⟩ := Lun_spec h
    exact ⟨x, by simp only [VS.val]; rw [← hx], h⟩
theorem Vun_spec : ∀ {l : List VS} {vs : List Value} {p : VT l → Prop}, Vun l vs p → ∃ x, vs = Vval l x ∧ p x
  | [], [], p, h => ⟨(), rfl, h⟩
  | [], _ :: _, p, h => by simp [Vun] at h
  | _ :: _, [], p, h => by simp [Vun] at h
  | s :: l, v :: vs, p, h => by
    obtain ⟨x, hx, h1⟩ := VS.un_spec (show s.un v (fun x => Vun l vs fun y => p (x, y)) from h)
    obtain ⟨y, hy, h2⟩ := Vun_spec h1
    exact ⟨(x, y), by rw [hx, hy]; rfl, h2⟩
theorem RS.un_spec {s : RS} {v : Value} {p : s.T → Prop} (h : s.un v p) : ∃ x, v = s.val x ∧ p x := by
  cases s with
  | one s => exact VS.un_spec h
  | many l =>
    cases v <;> simp only [RS.un] at h <;> try exact h.elim
    obtain ⟨x, hx, h⟩ := Vun_spec h
    exact ⟨x, by simp only [RS.val]; rw [← hx], h⟩

/-! ### frames -/
inductive FV where
  | val (v : Value) | lit (b : Bool) | un
def FV.den : FV → Value
  | .val v => v | .lit b => .bool b | .un => undef
inductive Tr where
  | leaf | node (v : FV) (l r : Tr)
def Tr.root : Tr → FV
  | .leaf => .un | .node v _ _ => v
def Tr.left : Tr → Tr
  | .leaf => .leaf | .node _ l _ => l
def Tr.right : Tr → Tr
  | .leaf => .leaf | .node _ _ r => r
def tget : Nat → Tr → Nat → FV
  | 0, _, _ => .un
  | k + 1, t, i => match i with
    | 0 => t.root
    | j + 1 => match j % 2 with
      | 0 => tget k t.left (j / 2)
      | _ => tget k t.right (j / 2)
def tset : Nat → Tr → Nat → FV → Tr
  | 0, t, _, _ => t
  | k + 1, t, i, v => match i with
    | 0 => .node v t.left t.right
    | j + 1 => match j % 2 with
      | 0 => .node t.root (tset k t.left (j / 2) v) t.right
      | _ => .node t.root t.left (tset k t.right (j / 2) v)
theorem tget_tset : ∀ (k : Nat) (t : Tr) (i j : Nat) (v : FV), i + 1 < 2 ^ k → tget k (tset k t i v) j = if i = j then v else tget k t j
  | 0, t, i, j, v, h => by simp at h
  | k + 1, t, i, j, v, h => by
    have hk : 2 ^ (k + 1) = 2 * 2 ^ k := by rw [Nat.pow_succ, Nat.mul_comm]
    cases i with
    | zero => cases j with
      | zero => simp [tset, tget, Tr.root]
      | succ j => simp [tset, tget, Tr.left, Tr.right]
    | succ i =>
      have ih := tget_tset k
      have hb : i / 2 + 1 < 2 ^ k := by omega
      cases j with
      | zero =>
        simp only [tset, tget]
        rcases Nat.mod_two_eq_zero_or_one i with h2 | h2 <;> simp [h2, Tr.root]
      | succ j =>
        simp only [tset, tget]
        rcases Nat.mod_two_eq_zero_or_one i with h2 | h2 <;> rcases Nat.mod_two_eq_zero_or_one j with h3 | h3 <;> simp only [h2, h3, Tr.left, Tr.right]
        · rw [ih _ _ _ _ hb]
          by_cases h4 : i = j
          · subst h4; simp
          · rw [if_neg (by omega), if_neg (by omega)]
        · rw [if_neg (by omega)]
        · rw [if_neg (by omega)]
        · rw [ih _ _ _ _ hb]
          by_cases h4 : i = j
          · subst h4; simp
          · rw [if_neg (by omega), if_neg (by omega)]
structure Fr where
  length : Nat
  le : length ≤ 65534
  t : Tr
def fget (f : Fr) (i : Nat) : FV :=
  match Nat.ble (i + 1) f.length with
  | true => tget 16 f.t i
  | false => .un
def fset (f : Fr) (i : Nat) (v : FV) : Fr := ⟨f.length, f.le, tset 16 f.t i v⟩
def fput (f : Fr) (d : Option Nat) (v : FV) : Fr :=
  match d with
  | some d => fset f d v | none => f
def force (l : Fr) (k : Fr → Prop) : Prop := k l
theorem force_eq (l : Fr) (k : Fr → Prop) : force l k = k l := rfl
def fop (f : Fr) : Operand → FV
  | .tmp t => fget f t
  | .const (.bool b) => .lit b
  | .const v => .val v
  | .global g => .val (.pointer (some ⟨g, 0, none⟩))
  | .func g => .val (.func (.func g) #[] #[])
def fev (f : Fr) (x : Operand) : Value := (fop f x).den
def learn (f : Fr) (c : Operand) (b : Bool) : Fr :=
  match c with
  | .tmp s => fset f s (.lit b) | _ => f
def act (f : Fr) : Act := { tmps := ((List.range f.length).map fun i => (fget f i).den).toArray, defers := [] }

theorem fget_out {f : Fr} {t : Nat} (h : f.length ≤ t) : fget f t = .un := by
  unfold fget
  rw [show Nat.ble (t + 1) f.length = false by rw [← Bool.not_eq_true, Nat.ble_eq]; omega]
theorem fget_in {f : Fr} {t : Nat} (h : t < f.length) : fget f t = tget 16 f.t t := by
  unfold fget
  rw [show Nat.ble (t + 1) f.length = true by rw [Nat.ble_eq]; omega]
theorem size_act (f : Fr) : (act f).tmps.size = f.length := by simp [act]
theorem get_act (f : Fr) (t : Nat) (h : t < f.length) : (act f).tmps[t]? = some (fget f t).den := by simp [act, h]
theorem den_fget (f : Fr) (t : Nat) : (act f).tmps.getD t undef = (fget f t).den := by
  by_cases h : t < f.length
  · rw [Array.getD_eq_getD_getElem?, get_act f t h]; rfl
  · rw [Array.getD_eq_getD_getElem?, Array.getElem?_eq_none (by rw [size_act]; omega), fget_out (by omega)]; rfl
theorem act_eval (f : Fr) : (act f).eval = fev f := by
  funext x
  cases x with
  | tmp t => exact den_fget f t
  | const v => cases v <;> rfl
  | global g => rfl
  | func g => rfl
theorem length_fset (f : Fr) (t : Nat) (v : FV) : (fset f t v).length = f.length := rfl
theorem fget_fset (f : Fr) (t s : Nat) (v : FV) : fget (fset f t v) s = if t = s ∧ t < f.length then v else fget f s := by
  by_cases h : s < f.length
  · rw [fget_in (f := fset f t v) h, fget_in h]
    have hl := f.le
    by_cases ht : t + 1 < 65536
    · rw [show (fset f t v).t = tset 16 f.t t v from rfl, tget_tset 16 f.t t s v ht]
      by_cases e : t = s
      · subst e; simp [h]
      · simp [e]
    · rw [if_neg (by omega)]
      have key : ∀ (k : Nat) (tr : Tr) (t s : Nat), s + 1 < 2 ^ k → 2 ^ k ≤ t + 1 → tget k (tset k tr t v) s = tget k tr s := by
        intro k
        induction k with
        | zero => intro tr t s h; simp at h
        | succ k ih =>
          intro tr t s hs ht
          have hk : 2 ^ (k + 1) = 2 * 2 ^ k := by rw [Nat.pow_succ, Nat.mul_comm]
          have hp : 0 < 2 ^ k := Nat.two_pow_pos k
          cases t with
          | zero => omega
          | succ t =>
            cases s with
            | zero =>
              simp only [tset, tget]
              rcases Nat.mod_two_eq_zero_or_one t with h2 | h2 <;> simp [h2, Tr.root]
            | succ s =>
              simp only [tset, tget]
              rcases Nat.mod_two_eq_zero_or_one t with h2 | h2 <;> rcases Nat.mod_two_eq_zero_or_one s with h3 | h3 <;> simp only [h2, h3, Tr.left, Tr.right]
              · exact ih _ _ _ (by omega) (by omega)
              · exact ih _ _ _ (by omega) (by omega)
      exact key 16 f.t t s (by show s + 1 < 65536; omega) (by show 65536 ≤ t + 1; omega)
  · rw [fget_out (f := fset f t v) (by rw [length_fset]; omega), fget_out (by omega), if_neg (by omega)]
theorem act_ext {f g : Fr} (hl : f.length = g.length) (h : ∀ t, (fget f t).den = (fget g t).den) : act f = act g := by
  unfold act
  rw [hl]
  congr 2
  exact List.map_congr_left fun t _ => h t
theorem act_fput (f : Fr) (d : Option Nat) (v : FV) : act (fput f d v) = (act f).put d v.den := by
  cases d with
  | none => rfl
  | some d =>
    show act (fset f d v) = { (act f) with tmps := (act f).tmps.setIfInBounds d v.den }
    unfold act
    congr 1
    refine Array.ext (by simp [length_fset]) fun i hi _ => ?_
    have hi' : i < f.length := by simpa [length_fset] using hi
    simp only [List.getElem_toArray, List.getElem_map, List.getElem_range, fget_fset]
    by_cases hd : d = i
    · subst hd; simp [hi']
    · simp [hd]
theorem act_learn {f : Fr} {c : Operand} {b : Bool} (h : fop f c = .val (.bool b)) : act (learn f c b) = act f := by
  cases c with
  | tmp s =>
    refine act_ext (length_fset _ _ _) fun t => ?_
    simp only [learn, fget_fset]
    split
    · rename_i hs; obtain ⟨rfl, _⟩ := hs
      have h' : fget f s = .val (.bool b) := h
      rw [h']; rfl
    · rfl
  | _ => rfl

/-! ### the conditions' words -/
def br (c : Bool) (A B : Prop) : Prop := (c = true → A) ∧ (c = false → B)
def z (n : Int) (k : Int → Prop) : Prop := k n
def nn (a : Option Addr) (k : Addr → Prop) : Prop := ∃ ad, a = some ad ∧ k ad
abbrev Rel := World → World → Prop
/-- nothing that was there has turned -/
def bel : Rel := fun w w' => Below w.heap.size w w'
theorem bel.refl (w : World) : bel w w := Below.refl _ _
theorem bel.trans {a b c : World} (h : bel a b) (h' : bel b c) : bel a c := Below.trans h (Below.mono h' h.size)
/-- a value that is read, the same in every world that E leads to -/
def rdE (P : Program) (E : Rel) (s : Sem Value) (v : VS) (w : World) (k : v.T → Prop) : Prop :=
  ∃ x, (∀ w', E w w' → s.run P w' = .ok (v.val x) w') ∧ k x
def rd (P : Program) (s : Sem Value) (v : VS) (w : World) (k : v.T → Prop) : Prop := rdE P bel s v w k
/-- a value that hangs on no memory -/
def rdp (P : Program) (s : Sem Value) (v : VS) (k : v.T → Prop) : Prop :=
  ∃ x, (∀ w', s.run P w' = .ok (v.val x) w') ∧ k x
def wr (P : Program) (s : Sem Value) (v : VS) (w : World) (k : v.T → World → Prop) : Prop :=
  ∃ x w', s.run P w = .ok (v.val x) w' ∧ k x w'
def wu (P : Program) (s : Sem Unit) (w : World) (k : World → Prop) : Prop :=
  ∃ w', s.run P w = .ok () w' ∧ k w'
def call (P : Program) (f : FuncId) (args : List Value) (r : RS) (w : World) (k : r.T → World → Prop) : Prop :=
  Calls P f args.toArray w fun e w' => ∃ x, e = .returned (r.val x) ∧ k x w'
def loop {T : Type} (x0 : T) (w0 : World) (body : (T → World → Prop) → T → World → Prop) : Prop :=
  ∃ (I : T → World → Prop) (μ : T → World → Nat), I x0 w0 ∧ ∀ x w, I x w → body (fun x' w' => I x' w' ∧ μ x' w' < μ x w) x w
def join {T : Type} (K : T → World → Prop) (B : (T → World → Prop) → Prop) : Prop := B K
def drw (w : World) (k : World → Prop) : Prop := k { w with drawn := w.drawn + 1 }

/-! ### the value of an operation that looks at no memory -/
def pv (P : Program) {α : Type} : Sem α → Option α
  | .pure a => some a
  | .program k => pv P (k P)
  | .mark _ k => pv P k
  | _ => none
theorem pv_spec {P : Program} {α : Type} : ∀ {s : Sem α} {a : α}, pv P s = some a → ∀ w, s.run P w = .ok a w
  | .pure a, b, h, w => by simp only [pv] at h; cases h; rfl
  | .program k, b, h, w => by simp only [pv] at h; simp only [Sem.run]; exact pv_spec h w
  | .mark _ k, b, h, w => by simp only [pv] at h; simp only [Sem.run]; exact pv_spec h w
  | .load .., b, h, w | .store .., b, h, w | .new .., b, h, w | .shape .., b, h, w | .freeze .., b, h, w | .frozen .., b, h, w
  | .getObj .., b, h, w | .setObj .., b, h, w | .choose .., b, h, w | .sys .., b, h, w | .halt .., b, h, w => by simp [pv] at h

/-- hands a value on, its head in sight -/
def kv (k : FV → Prop) : Value → Prop
  | .bool b => k (.val (.bool b))
  | .int i n => k (.val (.int i n))
  | .slice a n c => k (.val (.slice a n c))
  | .pointer a => k (.val (.pointer a))
  | .agg cs => k (.val (.agg cs))
  | .tuple cs => k (.val (.tuple cs))
  | .func f a b => k (.val (.func f a b))
  | .string s => k (.val (.string s))
  | .map r => k (.val (.map r))
  | v => k (.val v)
def kz (k : FV → Prop) : Value → Prop
  | .int i n => z n fun n => k (.val (.int i n))
  | v => kv k v
theorem kv_spec {k : FV → Prop} {v : Value} (h : kv k v) : ∃ x : FV, x.den = v ∧ k x := by
  cases v <;> exact ⟨_, rfl, h⟩
theorem kz_spec {k : FV → Prop} {v : Value} (h : kz k v) : ∃ x : FV, x.den = v ∧ k x := by
  cases v <;> first | exact kv_spec h | exact ⟨_, rfl, h⟩
def kf (k : FV → Prop) : FV → Prop
  | .val v => kv k v
  | .lit b => k (.lit b)
  | .un => k .un
theorem kf_spec {k : FV → Prop} {v : FV} (h : kf k v) : ∃ x : FV, x.den = v.den ∧ k x := by
  cases v <;> first | exact kv_spec h | exact ⟨_, rfl, h⟩
def pure1 (P : Program) (s : Sem Next) (k : FV → Prop) : Prop :=
  match pv P s with
  | some (.value v) => kv k v
  | _ => False
def pureZ (P : Program) (s : Sem Next) (k : FV → Prop) : Prop :=
  match pv P s with
  | some (.value v) => kz k v
  | _ => False

/-- an operation that only looks -/
def isRd (o : Oper) : Bool :=
  match o.op with
  | .move _ | .assign _ | .pick .. | .load .. | .nilCheck _ | .binOp .. | .unOp .. | .convert .. | .makeFunc .. | .slice .. | .fieldAddr .. | .field ..
  | .indexAddr .. | .index .. | .lookup .. | .extract .. | .build .. => true
  | .call { callee := .builtin .len, .. } | .call { callee := .builtin .cap, .. } | .call { callee := .builtin .max, .. } | .call { callee := .builtin .min, .. } => true
  | _ => false
/-- bits -/
def iand (k : IntKind) (a b : Int) : Int := k.wrap (BitVec.ofInt k.bits a &&& BitVec.ofInt k.bits b).toNat
def ior (k : IntKind) (a b : Int) : Int := k.wrap (BitVec.ofInt k.bits a ||| BitVec.ofInt k.bits b).toNat
def ixor (k : IntKind) (a b : Int) : Int := k.wrap (BitVec.ofInt k.bits a ^^^ BitVec.ofInt k.bits b).toNat
def iandNot (k : IntKind) (a b : Int) : Int := k.wrap (BitVec.ofInt k.bits a &&& ~~~ BitVec.ofInt k.bits b).toNat
/-- an operation whose value hangs on no memory -/
def isPv (o : Oper) : Bool :=
  match o.op with
  | .move _ | .assign _ | .pick .. | .nilCheck _ | .unOp .. | .convert .. | .makeFunc .. | .slice .. | .fieldAddr .. | .field .. | .indexAddr .. | .extract .. | .build .. => true
  | .binOp op _ _ _ _ => match op with
    | .eql | .neq => false | _ => true
  | _ => false
def cmpS (op : BinOp) (t : TypeId) (x y : Operand) (a b : Value) : Sem Value := do eqGuard op t x y a b; Go.binOp op t a b
def vcRd (P : Program) (E : Rel) (o : Oper) (f : Fr) (w : World) (k : FV → Prop) : Prop :=
  match o.op with
  | .move x | .assign x => kf k (fop f x)
  | .pick c a b => match fop f c with
    | .lit true => kf k (fop f a)
    | .lit false => kf k (fop f b)
    | .val (.bool c) => br c (kf k (fop f a)) (kf k (fop f b))
    | _ => False
  | .load t a => rdE P E (Instr.loadAt t (fev f a)) (tyVS P t) w fun x => kv k ((tyVS P t).val x)
  | .nilCheck x => match fop f x with
    | .val (.pointer a) => nn a fun ad => k (.val (.pointer (some ad)))
    | .val (.func _ _ _) => pure1 P (execOp (fev f) o) k
    | _ => False
  | .binOp op t x y _ => match op with
    | .quo | .rem | .shl | .shr => rdp P (cmpS op t x y (fev f x) (fev f y)) (tyVS P o.type) fun v => kv k ((tyVS P o.type).val v)
    | .eql | .neq => match fev f x, fev f y with
      | .int _ _, .int _ _ => pure1 P (execOp (fev f) o) k
      | .bool _, .bool _ => pure1 P (execOp (fev f) o) k
      | _, _ => rdE P E (cmpS op t x y (fev f x) (fev f y)) (tyVS P o.type) w fun v => kv k ((tyVS P o.type).val v)
    | _ => match fev f x with
      | .string _ => rdp P (cmpS op t x y (fev f x) (fev f y)) (tyVS P o.type) fun v => kv k ((tyVS P o.type).val v)
      | _ => pureZ P (execOp (fev f) o) k
  | .unOp .. => pureZ P (execOp (fev f) o) k
  | .convert src dst x => match fev f x with
    | .int _ _ => pureZ P (execOp (fev f) o) k
    | v => rdp P (Go.convert src dst v) (tyVS P o.type) fun v => kv k ((tyVS P o.type).val v)
  | .slice t x lo hi mx => rdp P (Instr.sliceAt t (fev f x) (lo.map (fev f)) (hi.map (fev f)) (mx.map (fev f))) (tyVS P o.type) fun v => kv k ((tyVS P o.type).val v)
  | .indexAddr t x i => rdp P (Instr.indexAt t (fev f x) (fev f i)) (.one .addr) fun v => k (.val (.pointer (some v)))
  | .index t x i => rdE P E (Instr.index t (fev f x) (fev f i)) (tyVS P o.type) w fun v => kv k ((tyVS P o.type).val v)
  | .lookup t x i c => match tyRS P o.type with
    | .one v => rdE P E (Instr.lookup t (fev f x) (fev f i) c) v w fun x => kv k (v.val x)
    | .many _ => False
  | .fieldAddr .. | .field .. | .extract .. | .makeFunc .. | .build .. => pure1 P (execOp (fev f) o) k
  | .call c => match c.callee, (c.args.map (fev f)).toList with
    | .builtin .len, [.map r] => rdE P E (Builtin.len_ c.argTypes o.type #[.map r]) (.one (.int .i64)) w fun v => k (.val (.int .i64 v))
    | .builtin .len, _ => pure1 P (execOp (fev f) o) k
    | .builtin .cap, _ => pure1 P (execOp (fev f) o) k
    | .builtin .max, _ => pureZ P (execOp (fev f) o) k
    | .builtin .min, _ => pureZ P (execOp (fev f) o) k
    | _, _ => False
  | _ => False

theorem pure1_spec {P : Program} {s : Sem Next} {k : FV → Prop} (h : pure1 P s k) : ∃ x : FV, (∀ w, s.run P w = .ok (.value x.den) w) ∧ k x := by
  unfold pure1 at h
  split at h
  · rename_i v hv
    obtain ⟨x, rfl, hk⟩ := kv_spec h
    exact ⟨x, fun w => pv_spec hv w, hk⟩
  · exact h.elim
theorem pureZ_spec {P : Program} {s : Sem Next} {k : FV → Prop} (h : pureZ P s k) : ∃ x : FV, (∀ w, s.run P w = .ok (.value x.den) w) ∧ k x := by
  unfold pureZ at h
  split at h
  · rename_i v hv
    obtain ⟨x, rfl, hk⟩ := kz_spec h
    exact ⟨x, fun w => pv_spec hv w, hk⟩
  · exact h.elim

theorem run_v {P : Program} {s : Sem Value} {w w' : World} {v : Value} (h : s.run P w = .ok v w') :
    (do pure (Next.value (← s)) : Sem Next).run P w = .ok (.value v) w' := by
  simp only [Sem.run_bind, h]; rfl
theorem run_u {P : Program} {s : Sem Unit} {w w' : World} (h : s.run P w = .ok () w') :
    (do s; pure Next.skip : Sem Next).run P w = .ok .skip w' := by
  simp only [Sem.run_bind, h]; rfl
end Go.V
