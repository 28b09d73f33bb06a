import Derived.Laws.CopyRow
import Derived.Test.YtalagcggmbeddaaProg
import Derived.KernelRfl
import Derived.Laws.Strings
import Derived.Laws.Cover1
import Derived.Test.YtalagcggmbeddaaPackBagExact1

/- Loops in the calculus: counting loops, the search of slices.IndexFunc. -/

namespace Go.V
open Go Go.RowKit Go.Q

theorem _root_.Go.Q.Sl.up {w w' : World} {a : Option Addr} {n c sz : Nat} {xs : List Value} (h : Sl w a n c sz xs) (hb : bel w w') : Sl w' a n c sz xs := h.kept hb
/-- a loop that counts from 0 to n -/
theorem loop_up {w0 : World} {body : ((Int × Unit) → World → Prop) → (Int × Unit) → World → Prop} (n : Nat) (I : Nat → World → Prop) (h0 : I 0 w0)
    (h : ∀ i w, i ≤ n → I i w → ∀ again : (Int × Unit) → World → Prop, (∀ w', i < n → I (i + 1) w' → again ((i : Int) + 1, ()) w') → body again ((i : Int), ()) w) : loop (0, ()) w0 body := by
  refine loop_gh (G := Nat) (fun i s w' => s = ((i : Int), ()) ∧ i ≤ n ∧ I i w') (fun i => n - i) 0 ⟨rfl, Nat.zero_le _, h0⟩ ?_
  rintro i s w ⟨rfl, hi, hI⟩ again hag
  exact h i w hi hI again fun w' hlt hI' => hag (i + 1) _ _ ⟨rfl, hlt, hI'⟩ (by omega)
/-- the same with a value that is built; the counter stands behind it -/
theorem loop_upA {A : Type} {a0 : A} {w0 : World} {body : ((A × Int × Unit) → World → Prop) → (A × Int × Unit) → World → Prop} (n : Nat) (I : Nat → A → World → Prop) (h0 : I 0 a0 w0)
    (h : ∀ i a w, i ≤ n → I i a w → ∀ again : (A × Int × Unit) → World → Prop, (∀ a' w', i < n → I (i + 1) a' w' → again (a', (i : Int) + 1, ()) w') → body again (a, (i : Int), ()) w) : loop (a0, 0, ()) w0 body := by
  refine loop_gh (G := Nat) (fun i s w' => s.2 = ((i : Int), ()) ∧ i ≤ n ∧ I i s.1 w') (fun i => n - i) 0 ⟨rfl, Nat.zero_le _, h0⟩ ?_
  rintro i ⟨a, s⟩ w ⟨rfl, hi, hI⟩ again hag
  exact h i a w hi hI again fun a' w' hlt hI' => hag (i + 1) _ _ ⟨rfl, hlt, hI'⟩ (by omega)
/-- the counter stands ahead -/
theorem loop_upB {A : Type} {a0 : A} {w0 : World} {body : ((Int × A × Unit) → World → Prop) → (Int × A × Unit) → World → Prop} (n : Nat) (I : Nat → A → World → Prop) (h0 : I 0 a0 w0)
    (h : ∀ i a w, i ≤ n → I i a w → ∀ again : (Int × A × Unit) → World → Prop, (∀ a' w', i < n → I (i + 1) a' w' → again ((i : Int) + 1, a', ()) w') → body again ((i : Int), a, ()) w) : loop (0, a0, ()) w0 body := by
  refine loop_gh (G := Nat) (fun i s w' => s.1 = (i : Int) ∧ i ≤ n ∧ I i s.2.1 w') (fun i => n - i) 0 ⟨rfl, Nat.zero_le _, h0⟩ ?_
  rintro i ⟨_, a, _⟩ w ⟨rfl, hi, hI⟩ again hag
  exact h i a w hi hI again fun a' w' hlt hI' => hag (i + 1) _ _ ⟨rfl, hlt, hI'⟩ (by omega)

/-- what holds of the first elements -/
theorem pre_step {α : Type} {p : α → Prop} {l : List α} {i : Nat} {y : α} (h : ∀ j, j < i → ∀ x, l[j]? = some x → p x) (hy : l[i]? = some y) (hp : p y) : ∀ j, j < i + 1 → ∀ x, l[j]? = some x → p x := by
  intro j hj x hx
  rcases Nat.lt_or_ge j i with q | q
  · exact h j q x hx
  · have : j = i := by omega
    subst this
    rw [hy] at hx; cases hx; exact hp
theorem pre_zero {α : Type} {p : α → Prop} {l : List α} : ∀ j, j < 0 → ∀ x, l[j]? = some x → p x := fun j h => by omega
theorem pre_all {α : Type} {p : α → Prop} {l : List α} {n : Nat} (h : ∀ j, j < n → ∀ x, l[j]? = some x → p x) (hn : l.length ≤ n) : ∀ x ∈ l, p x := by
  intro x hx
  obtain ⟨j, hj, rfl⟩ := List.mem_iff_getElem.1 hx
  exact h j (by omega) _ (List.getElem?_eq_getElem hj)
theorem mem_at {α : Type} {l : List α} {i : Nat} {y : α} (h : l[i]? = some y) : y ∈ l := List.mem_of_getElem? h

/-- a function is read from memory, and called -/
theorem rdF_box0 {P : Program} {t : TypeId} {w : World} {a : Addr} {cs : List Value} {h : Nat} {fi ca : Array Value} {k : Nat → Array Value → Array Value → Prop} (ht : scal P t = true) (hb : Box w a cs) (hi : cs[0]? = some (.func (.func h) fi ca)) (hk : k h fi ca) :
    rdF P bel (Instr.loadAt t (.pointer (some a))) w k := ⟨h, fi, ca, fun w' hw => by rw [run_loadAt, run_loadVar1 ht (hw.cell (hb.cell0 hi))], hk⟩
theorem callX_of {P : Program} {h : Nat} {args args' : List Value} {r : RS} {w : World} {k : r.T → World → Prop} {fn : Func} (hf : P.funcs[h]? = some fn) (hp : plainF fn = true) (ha : args = args') (hc : call P h args' r w k) : callX P h args r w k := by
  unfold callX; rw [hf]; dsimp only; rw [hp]; subst ha; exact hc

/-- a variable is made and written at once -/
theorem var_mk {P : Program} {e : TypeId} {z v : Value} {w : World} {k : Addr → World → Prop} (hz : zeroOf P e = some z) (hs : sizeIs P e v.cells.size = true) (hl : v.cells.size = z.cells.size) (hp : plainV v.cells.toList = true)
    (hk : ∀ a w', Box w' a v.cells.toList → bel w w' → a.block = w.heap.size → k a w') :
    wr P (Instr.alloc e true (.tuple #[])) (.one .addr) w fun x w1 => wu P (Instr.storeAt e (.pointer (some x)) v) w1 fun w2 => k x w2 := by
  refine wr_alloc hz fun a w1 Z h ha _ => ?_
  refine wu_box Z hs (by rw [hl]; simp) hp fun w2 Z hg _ => ?_
  have e2 : putAt z.cells.toList 0 v.cells.toList = v.cells.toList := by
    have key : ∀ (vs pre cs : List Value), cs.length = vs.length → putAt (pre ++ cs) pre.length vs = pre ++ vs := by
      intro vs
      induction vs with
      | nil => intro pre cs h; rw [List.eq_nil_of_length_eq_zero h]; rfl
      | cons x vs ih =>
        intro pre cs h
        cases cs with
        | nil => simp at h
        | cons c cs =>
          simp only [putAt]
          have h1 : (pre ++ c :: cs).set pre.length x = (pre ++ [x]) ++ cs := by simp
          rw [h1]
          have := ih (pre ++ [x]) cs (by simpa using h)
          simp only [List.length_append, List.length_cons, List.length_nil, Nat.zero_add] at this
          rw [this]; simp
    have := key v.cells.toList [] z.cells.toList (by simp [hl])
    simpa using this
  rw [e2] at Z
  exact hk _ _ Z (h.grownAt hg (by omega)) ha

/-- where a test first holds; -1: nowhere -/
def idxI {β : Type} (q : β → Bool) (ys : List β) : Int :=
  match ys.findIdx? q with
  | some i => (i : Int) | none => -1
theorem idxI_any {β : Type} (q : β → Bool) (ys : List β) : decide (idxI q ys ≥ 0) = ys.any q := by
  unfold idxI
  rw [← List.findIdx?_isSome]
  cases ys.findIdx? q with
  | none => rfl
  | some i => simp
/-- the loop of slices.IndexFunc -/
theorem idx_loop {P : Program} {t e : TypeId} {vs : VS} {f : FuncId} {fargs : vs.T → List Value} {a : Option Addr} {n c : Nat} {R : Value → World → Prop} {w0 : World} {β : Type} (xs : List vs.T) (ys : List β) (q : β → Bool) (hn : xs.length = n) (hy : ys.length = n) (hm : n ≤ 9223372036854775807)
    (RD : ∀ (j : Nat) (x : vs.T), xs[j]? = some x → ∀ w', bel w0 w' → ∀ K : vs.T → Prop, K x → rdp P (Instr.indexAt t (.slice a n c) (.int .i64 (j : Int))) (.one .addr) fun ad => rd P (Instr.loadAt e (.pointer (some ad))) vs w' K)
    (CALL : ∀ (j : Nat) (x : vs.T) (y : β), xs[j]? = some x → ys[j]? = some y → ∀ w', bel w0 w' → call P f (fargs x) (.one (.one .bool)) w' fun b w'' => b = q y ∧ bel w' w'')
    (hk : ∀ w', bel w0 w' → R (.int .i64 (idxI q ys)) w') :
    loop (T := (Int × Unit)) (0, ()) w0 fun (again1 : (Int × Unit) → World → Prop) (s2 : (Int × Unit)) w3 => ∀ _ : Nat → Value,
      br (decide (s2.1 < ((n : Nat) : Int))) (rdp P (Instr.indexAt t (.slice a n c) (.int .i64 s2.1)) (.one .addr) fun (x4 : Addr) =>
      rd P (Instr.loadAt e (.pointer (some x4))) vs w3 fun x5 =>
      call P f (fargs x5) (.one (.one .bool)) w3 fun (x6 : Bool) (w7 : World) =>
      br x6 (R (.int .i64 s2.1) w7)
      (z (IntKind.wrap .i64 (s2.1 + 1)) fun (z8 : Int) =>
      again1 (z8, ()) w7))
      (R (.int .i64 (-1)) w3) := by
  refine loop_up n (fun i w' => bel w0 w' ∧ ∀ j, j < i → ∀ y, ys[j]? = some y → q y = false) ⟨bel.refl _, fun j h => by omega⟩ ?_
  rintro i w hi ⟨hb, hq⟩ again hag _
  refine br_dec (fun e => ?_) (fun e => ?_)
  · dsimp only at e
    have hi' : i < n := by omega
    have hx : xs[i]? = some (xs[i]'(by omega)) := List.getElem?_eq_getElem (by omega)
    have hy' : ys[i]? = some (ys[i]'(by omega)) := List.getElem?_eq_getElem (by omega)
    refine RD i _ hx w hb _ ?_
    refine call_mono (CALL i _ _ hx hy' w hb) ?_
    rintro b w2 ⟨rfl, hb2⟩
    refine br_mk (fun hq' => ?_) (fun hq' => ?_)
    · have : idxI q ys = (i : Int) := by
        unfold idxI
        rw [List.findIdx?_eq_some_iff_getElem.2 ⟨by omega, hq', fun j hj => by
          have := hq j hj _ (List.getElem?_eq_getElem (by omega))
          simp [this]⟩]
      rw [← this]
      exact hk _ (hb.trans hb2)
    · refine z_i64 (by dsimp only; omega) ?_
      refine hag _ hi' ⟨hb.trans hb2, fun j hj y hy2 => ?_⟩
      rcases Nat.lt_or_ge j i with h | h
      · exact hq j h y hy2
      · have : j = i := by omega
        subst this
        rw [hy'] at hy2; cases hy2; exact hq'
  · dsimp only at e
    have hi' : i = n := by omega
    have : idxI q ys = -1 := by
      unfold idxI
      rw [List.findIdx?_eq_none_iff.2 fun y hy' => by
        obtain ⟨j, hj, rfl⟩ := List.mem_iff_getElem.1 hy'
        exact hq j (by omega) _ (List.getElem?_eq_getElem hj)]
    rw [← this]
    exact hk _ hb
/-- .. over numbers -/
theorem idx_ints {P : Program} {t e : TypeId} {z0 : Value} {bytes : Nat} (TS : TyS P t e z0 1 bytes) (he : scal P e = true) {kk : IntKind} {f : FuncId} {fargs : Int → List Value} {a : Option Addr} {n c : Nat} {w0 : World} {xs : List Int} (H : Sl w0 a n c 1 (ints kk xs)) (q : Int → Bool)
    (CALL : ∀ (j : Nat) (x : Int), xs[j]? = some x → ∀ w', bel w0 w' → call P f (fargs x) (.one (.one .bool)) w' fun b w'' => b = q x ∧ bel w' w'') :
    loop (T := (Int × Unit)) (0, ()) w0 fun (again1 : (Int × Unit) → World → Prop) (s2 : (Int × Unit)) w3 => ∀ _ : Nat → Value,
      br (decide (s2.1 < ((n : Nat) : Int))) (rdp P (Instr.indexAt t (.slice a n c) (.int .i64 s2.1)) (.one .addr) fun (x4 : Addr) =>
      rd P (Instr.loadAt e (.pointer (some x4))) (.one (.int kk)) w3 fun (x5 : Int) =>
      call P f (fargs x5) (.one (.one .bool)) w3 fun (x6 : Bool) (w7 : World) =>
      br x6 ((fun (v : Value) (w' : World) => ∃ x : Int, v = (RS.one (.one (.int .i64))).val x ∧ x = idxI q xs ∧ bel w0 w') (.int .i64 s2.1) w7)
      (z (IntKind.wrap .i64 (s2.1 + 1)) fun (z8 : Int) =>
      again1 (z8, ()) w7))
      ((fun (v : Value) (w' : World) => ∃ x : Int, v = (RS.one (.one (.int .i64))).val x ∧ x = idxI q xs ∧ bel w0 w') (.int .i64 (-1)) w3) := by
  have hl := H.int
  refine idx_loop (R := (fun (v : Value) (w' : World) => ∃ x : Int, v = (RS.one (.one (.int .i64))).val x ∧ x = idxI q xs ∧ bel w0 w')) (vs := .one (.int kk)) (fargs := fargs) xs xs q hl hl H.le (fun j x hx w' hb K hk => ?_) (fun j x y hx hy w' hb => ?_) (fun w' hb => ⟨_, rfl, rfl, hb⟩)
  · have hx' : (xs : List Int)[j]? = some (x : Int) := hx
    exact at_int TS he (H.kept hb) rfl (by have := (List.getElem?_eq_some_iff.1 hx').1; omega) (fun y hy => by rw [hx'] at hy; cases hy; exact hk)
  · have hx' : (xs : List Int)[j]? = some (x : Int) := hx
    rw [hx'] at hy; cases hy
    exact CALL j x hx' w' hb
/-- .. over the rows of a table -/
theorem idx_tab {P : Program} {t e : TypeId} {z0 : Value} {bytes : Nat} (TS : TyS P t e z0 1 bytes) (he : scal P e = true) {α : Type} {g : α → Value} {f : FuncId} {fargs : Hdr → List Value} {r : Hdr} {w0 : World} {T : List (List α)} (H : Tab g w0 r T) (q : List α → Bool)
    (CALL : ∀ (j : Nat) (x : Hdr) (y : List α), T[j]? = some y → Sl w0 x.1 x.2.1 x.2.2 1 (y.map g) → ∀ w', bel w0 w' → call P f (fargs x) (.one (.one .bool)) w' fun b w'' => b = q y ∧ bel w' w'') :
    loop (T := (Int × Unit)) (0, ()) w0 fun (again1 : (Int × Unit) → World → Prop) (s2 : (Int × Unit)) w3 => ∀ _ : Nat → Value,
      br (decide (s2.1 < ((r.2.1 : Nat) : Int))) (rdp P (Instr.indexAt t (.slice r.1 r.2.1 r.2.2) (.int .i64 s2.1)) (.one .addr) fun (x4 : Addr) =>
      rd P (Instr.loadAt e (.pointer (some x4))) (.one .slice) w3 fun (x5 : Option Addr × Nat × Nat) =>
      call P f (fargs x5) (.one (.one .bool)) w3 fun (x6 : Bool) (w7 : World) =>
      br x6 ((fun (v : Value) (w' : World) => ∃ x : Int, v = (RS.one (.one (.int .i64))).val x ∧ x = idxI q T ∧ bel w0 w') (.int .i64 s2.1) w7)
      (z (IntKind.wrap .i64 (s2.1 + 1)) fun (z8 : Int) =>
      again1 (z8, ()) w7))
      ((fun (v : Value) (w' : World) => ∃ x : Int, v = (RS.one (.one (.int .i64))).val x ∧ x = idxI q T ∧ bel w0 w') (.int .i64 (-1)) w3) := by
  obtain ⟨hs, h1, h2, h3⟩ := H.ex
  have hl : hs.length = r.2.1 := by have := h1.len; simpa using this
  refine idx_loop (R := (fun (v : Value) (w' : World) => ∃ x : Int, v = (RS.one (.one (.int .i64))).val x ∧ x = idxI q T ∧ bel w0 w')) (vs := .one .slice) (fargs := fargs) hs T q hl (by omega) h1.le (fun j x hx w' hb K hk => ?_) (fun j x y hx hy w' hb => ?_) (fun w' hb => ⟨_, rfl, rfl, hb⟩)
  · have hx' : (hs : List Hdr)[j]? = some (x : Hdr) := hx
    exact at_hdr TS he (h1.kept hb) rfl (by have := (List.getElem?_eq_some_iff.1 hx').1; omega) (fun y hy => by rw [hx'] at hy; cases hy; exact hk)
  · have hx' : (hs : List Hdr)[j]? = some (x : Hdr) := hx
    exact CALL j x y hy (h3 j x y hx' hy) w' hb
/-- .. over records -/
theorem idx_aggs {P : Program} {t e : TypeId} {z0 : Value} {sz bytes : Nat} (TS : TyS P t e z0 sz bytes) (ht : aggOf P e sz = true) {α : Type} {enc : α → List Value} (he : ∀ a, (enc a).length = sz) (h0 : 0 < sz) {l : List Sh} {dec : α → LT l} (hd : ∀ a, Lget l (enc a) = some (dec a)) {f : FuncId} {fargs : LT l → List Value} {a : Option Addr} {n c : Nat} {w0 : World} {L : List α} (H : Sl w0 a n c sz (L.flatMap enc)) (q : α → Bool)
    (CALL : ∀ (j : Nat) (x : α), L[j]? = some x → ∀ w', bel w0 w' → call P f (fargs (dec x)) (.one (.one .bool)) w' fun b w'' => b = q x ∧ bel w' w'') :
    loop (T := (Int × Unit)) (0, ()) w0 fun (again1 : (Int × Unit) → World → Prop) (s2 : (Int × Unit)) w3 => ∀ _ : Nat → Value,
      br (decide (s2.1 < ((n : Nat) : Int))) (rdp P (Instr.indexAt t (.slice a n c) (.int .i64 s2.1)) (.one .addr) fun (x4 : Addr) =>
      rd P (Instr.loadAt e (.pointer (some x4))) (.agg l) w3 fun (x5 : LT l) =>
      call P f (fargs x5) (.one (.one .bool)) w3 fun (x6 : Bool) (w7 : World) =>
      br x6 ((fun (v : Value) (w' : World) => ∃ x : Int, v = (RS.one (.one (.int .i64))).val x ∧ x = idxI q L ∧ bel w0 w') (.int .i64 s2.1) w7)
      (z (IntKind.wrap .i64 (s2.1 + 1)) fun (z8 : Int) =>
      again1 (z8, ()) w7))
      ((fun (v : Value) (w' : World) => ∃ x : Int, v = (RS.one (.one (.int .i64))).val x ∧ x = idxI q L ∧ bel w0 w') (.int .i64 (-1)) w3) := by
  have hl : L.length = n := by
    have := H.len
    rw [flat_len he] at this
    exact Nat.eq_of_mul_eq_mul_right h0 this
  refine idx_loop (R := (fun (v : Value) (w' : World) => ∃ x : Int, v = (RS.one (.one (.int .i64))).val x ∧ x = idxI q L ∧ bel w0 w')) (vs := .agg l) (fargs := fargs) (L.map dec) L q ((List.length_map ..).trans hl) hl H.le (fun j x hx w' hb K hk => ?_) (fun j x y hx hy w' hb => ?_) (fun w' hb => ⟨_, rfl, rfl, hb⟩)
  · have hx' : (L.map dec)[j]? = some x := hx
    rw [List.getElem?_map] at hx'
    cases hp : L[j]? with
    | none => rw [hp] at hx'; cases hx'
    | some p =>
      rw [hp] at hx'
      cases hx'
      exact at_agg TS ht he h0 (H.kept hb) rfl hp (hd p) hk
  · have hx' : (L.map dec)[j]? = some x := hx
    rw [List.getElem?_map, hy] at hx'
    cases hx'
    exact CALL j y hy w' hb
end Go.V

/- A block of one's own that others may write: relations for regions that tell their states. -/

namespace Go.V
open Go Go.RowKit Go.Q

/-- only one block that was there may have turned -/
abbrev Xg (b : Nat) : Rel := fun w w' => w.grownBy w' (some b)
theorem bel.xg {w w' : World} (h : bel w w') (b : Nat) : Xg b w w' := grown_of_bel h _
theorem Box.xg {w w' : World} {a : Addr} {cs : List Value} {b : Nat} (X : Box w a cs) (h : Xg b w w') (hne : a.block ≠ b) : Box w' a cs := X.grown h (by intro e; injection e; omega)
theorem _root_.Go.Q.Sl.xg {w w' : World} {a : Option Addr} {n c sz : Nat} {xs : List Value} {b : Nat} (S : Sl w a n c sz xs) (h : Xg b w w') (hne : ∀ ad, a = some ad → xs ≠ [] → ad.block ≠ b) : Sl w' a n c sz xs :=
  S.grown h fun ad ha hx e => hne ad ha hx (by injection e)
theorem Own.xg {w w' : World} {B : Nat} {e : TypeId} {sz : Nat} {a : Option Addr} {n c : Nat} {xs : List Value} {b : Nat} (O : Own w B e sz a n c xs) (h : Xg b w w') (hb : b < B) : Own w' B e sz a n c xs := by
  refine O.keptBy h ?_
  cases hk : blk a with
  | none => exact .inl rfl
  | some k => exact .inr fun q => by have := (O.lt k hk).1; injection q; omega
theorem rdE_box0 {P : Program} {E : Rel} {t : TypeId} {s : Sh} {w : World} {a : Addr} {cs : List Value} {v : Value} {x : s.T} {k : s.T → Prop} (ht : scal P t = true) (h : ∀ w', E w w' → Box w' a cs) (hi : cs[0]? = some v) (hx : s.get v = some x) (hk : k x) :
    rdE P E (Instr.loadAt t (.pointer (some a))) (.one s) w k := ⟨x, fun w' hw => by rw [run_loadAt, run_loadVar1 ht ((h w' hw).cell0 hi), Sh.get_spec hx]; rfl, hk⟩
theorem rdE_box {P : Program} {E : Rel} {t : TypeId} {s : Sh} {w : World} {a : Addr} {cs : List Value} {i : Nat} {v : Value} {x : s.T} {k : s.T → Prop} (ht : scal P t = true) (h : ∀ w', E w w' → Box w' a cs) (hi : cs[i]? = some v) (hx : s.get v = some x) (hk : k x) :
    rdE P E (Instr.loadAt t (.pointer (some (a.add i)))) (.one s) w k := ⟨x, fun w' hw => by rw [run_loadAt, run_loadVar1 ht ((h w' hw).cell hi), Sh.get_spec hx]; rfl, hk⟩
theorem flExC_mk {w0 : World} {B : Rel → (Nat → Rel) → ((Nat → Bool) → World → Prop) → Facts → Prop} (E : Rel) (G : Nat → Rel) (St : (Nat → Bool) → World → Prop) (Φ : Facts) (h1 : ∀ w, E w w) (h2 : ∀ a b c, E a b → E b c → E a c)
    (h3 : ∀ i j ags v w w', i ≠ j → Φ i ags v w → E w w' → G j w w' → Φ i ags v w') (h4 : St (fun _ => false) w0) (h5 : B E G St Φ) : flExC w0 B := ⟨E, G, St, Φ, h1, h2, h3, h4, h5⟩
theorem flcC_mk {St : (Nat → Bool) → World → Prop} {j : Nat} {E : Rel} {w0 : World} {pre : World → Prop} {ob : (Nat → Bool) → World → Prop} {T : Type} {nxt : T → Prop} (h1 : ∀ D w, D j = false → E w0 w → St D w → pre w → ob D w) (h2 : ∀ x, nxt x) : flcC St j E w0 pre ob nxt := ⟨h1, h2⟩
theorem flendC_mk {St : (Nat → Bool) → World → Prop} {L : List Nat} {E : Rel} {w0 : World} {pre k : World → Prop} (h : ∀ w, E w0 w → St (fun i => L.contains i) w → pre w → k w) : flendC St L E w0 pre k := h
theorem setD_self (D : Nat → Bool) (j : Nat) : setD D j j = true := by simp [setD]
theorem setD_ne {D : Nat → Bool} {i j : Nat} (h : i ≠ j) : setD D j i = D i := by simp [setD, h]
/-- frames over several blocks -/
structure Xb (S : Nat → Prop) (w w' : World) : Prop where
  os : w'.os = w.os
  tape : w'.tape = w.tape
  output : w'.output = w.output
  size : w.heap.size ≤ w'.heap.size
  block : ∀ k, k < w.heap.size → ¬ S k → w'.heap[k]? = w.heap[k]?
theorem Xb.refl (S : Nat → Prop) (w : World) : Xb S w w := ⟨rfl, rfl, rfl, Nat.le_refl _, fun _ _ _ => rfl⟩
theorem Xb.trans {S : Nat → Prop} {a b c : World} (h : Xb S a b) (h' : Xb S b c) : Xb S a c :=
  ⟨h'.os.trans h.os, h'.tape.trans h.tape, h'.output.trans h.output, Nat.le_trans h.size h'.size, fun k hk hs => by rw [h'.block k (by have := h.size; omega) hs, h.block k hk hs]⟩
theorem Xb.of {S : Nat → Prop} {w w' : World} {o : Option Nat} (h : w.grownBy w' o) (ho : ∀ k, o = some k → S k) : Xb S w w' :=
  ⟨h.os, h.tape, h.output, h.size, fun k hk hs => h.block k hk (fun e => hs (ho k e.symm))⟩
theorem Xb.bel {S : Nat → Prop} {a w w' : World} (h : bel a w) (h' : Xb S w w') (hs : ∀ k, S k → a.heap.size ≤ k) : bel a w' :=
  ⟨h'.os.trans h.os, h'.tape.trans h.tape, h'.output.trans h.output, Nat.le_trans h.size h'.size, fun k hk => by rw [h'.block k (by have := h.size; omega) (fun q => by have := hs k q; omega), h.block k hk]⟩
theorem Xb.grown {S : Nat → Prop} {w w' : World} (h : Xb S w w') {o : Option Nat} (hs : ∀ k, S k → k < w.heap.size → o = some k) : w.grownBy w' o :=
  ⟨h.os, h.tape, h.output, h.size, fun k hk hne => h.block k hk fun q => hne (hs k q hk).symm⟩
theorem Xb.more {S S' : Nat → Prop} {a w w' : World} (h : Xb S a w) (h' : Xb S' w w') (hs : ∀ k, S' k → S k ∨ a.heap.size ≤ k) : Xb S a w' :=
  ⟨h'.os.trans h.os, h'.tape.trans h.tape, h'.output.trans h.output, Nat.le_trans h.size h'.size, fun k hk hn => by
    rw [h'.block k (by have := h.size; omega) (fun q => by
      rcases hs k q with q | q
      · exact hn q
      · omega), h.block k hk hn]⟩
theorem _root_.Go.Q.Sl.xb {S : Nat → Prop} {w w' : World} {a : Option Addr} {n c sz : Nat} {xs : List Value} (H : Sl w a n c sz xs) (hX : Xb S w w') (hne : ∀ ad, a = some ad → xs ≠ [] → ¬ S ad.block) : Sl w' a n c sz xs := by
  refine ⟨H.len, H.cap, H.most, H.nil', fun k u hu => ?_⟩
  obtain ⟨ad, q1, q2, q3⟩ := H.at' k u hu
  have hx : xs ≠ [] := by rintro rfl; simp at hu
  refine ⟨ad, q1, ?_, by have := hX.size; omega⟩
  have := hX.block ad.block q3 (hne ad q1 hx)
  unfold World.cell? at q2 ⊢
  rw [add_block] at q2 ⊢
  rw [this]; exact q2
theorem Box.xb {S : Nat → Prop} {w w' : World} {a : Addr} {cs : List Value} (X : Box w a cs) (hX : Xb S w w') (hne : ¬ S a.block) : Box w' a cs :=
  ⟨X.off, X.spot, by obtain ⟨T, hT⟩ := X.blk; exact ⟨T, by rw [hX.block _ X.lt hne]; exact hT⟩⟩
/-- slices of different kinds of elements do not lie in one block -/
theorem Own.apart {w : World} {B B' : Nat} {e e' : TypeId} {sz sz' : Nat} {a a' : Option Addr} {n c n' c' : Nat} {xs ys : List Value} (h : Own w B e sz a n c xs) (h' : Own w B' e' sz' a' n' c' ys) (hne : e ≠ e') : ∀ k, blk a = some k → blk a' = some k → False := by
  intro k hk hk'
  obtain ⟨_, h2⟩ := h
  obtain ⟨_, h2'⟩ := h'
  rcases h2 with ⟨hv, _⟩ | ⟨g, cap, cur, hv, _, hh, _⟩
  · injection hv with ha; rw [ha] at hk; cases hk
  · rcases h2' with ⟨hv', _⟩ | ⟨g', cap', cur', hv', _, hh', _⟩
    · injection hv' with ha'; rw [ha'] at hk'; cases hk'
    · injection hv with ha
      injection hv' with ha'
      subst ha ha'
      have q1 : g = k := by simpa [blk] using hk
      have q2 : g' = k := by simpa [blk] using hk'
      subst q1
      subst q2
      rw [hh] at hh'
      injection hh' with hh'
      injection hh' with _ he _
      exact hne he
theorem xg_put {w w' w'' : World} {t : Nat} {o : Option Nat} (h : w.grownBy w' (some t)) (hg : w'.grownBy w'' o) (ho : ∀ k, o = some k → w.heap.size ≤ k ∨ k = t) : w.grownBy w'' (some t) :=
  ⟨hg.os.trans h.os, hg.tape.trans h.tape, hg.output.trans h.output, Nat.le_trans h.size hg.size, fun k hk hne => by
    rw [hg.block k (by have := h.size; omega) (fun e => by
      rcases ho k e.symm with q | q
      · omega
      · exact hne (by rw [q])), h.block k hk hne]⟩
end Go.V

/- copy, and regions with a relation. -/


namespace Go.V
open Go Go.RowKit Go.Q

theorem putAt_at : ∀ (vs pre cs : List Value), vs.length ≤ cs.length → putAt (pre ++ cs) pre.length vs = pre ++ vs ++ cs.drop vs.length
  | [], pre, cs, _ => by simp [putAt]
  | v :: vs, pre, [], h => by simp at h
  | v :: vs, pre, c :: cs, h => by
    simp only [putAt]
    have h1 : (pre ++ c :: cs).set pre.length v = (pre ++ [v]) ++ cs := by simp
    rw [h1]
    have := putAt_at vs (pre ++ [v]) cs (by simpa using h)
    simp only [List.length_append, List.length_cons, List.length_nil, Nat.zero_add] at this
    rw [this]; simp
theorem run_storeOwn {P : Program} {B : Nat} {e : TypeId} {ad : Addr} {n c : Nat} : ∀ (vs : List Value) (i : Nat) (w : World) (xs : List Value), Own w B e 1 (some ad) n c xs → i + vs.length ≤ xs.length → plainV vs = true →
    ∃ w', (storeCells ad vs i).run P w = .ok () w' ∧ Own w' B e 1 (some ad) n c (putAt xs i vs) ∧ w.grownBy w' (some ad.block) ∧ w'.heap.size = w.heap.size
  | [], i, w, xs, hb, _, _ => ⟨w, rfl, hb, grown_refl _ _, rfl⟩
  | v :: vs, i, w, xs, hb, hl, hp => by
    simp only [plainV, List.all_cons, Bool.and_eq_true] at hp
    simp only [List.length_cons] at hl
    obtain ⟨u, hu⟩ : ∃ u, xs[i]? = some u := ⟨_, List.getElem?_eq_getElem (by omega)⟩
    obtain ⟨ad', h1, hc, hfz, _⟩ := hb.cell (j := i) hu
    cases h1
    obtain ⟨w', h1, h2, h3, h4⟩ := run_storeOwn (P := P) vs (i + 1) (w.setCell (ad.add i) v) (xs.set i v) (hb.set i v) (by simp; omega) hp.2
    refine ⟨w', ?_, h2, ?_, by rw [h4, setCell_size]⟩
    · simp only [storeCells, Sem.run_bind]
      rw [run_store P w (ad.add i) v .plain hp.1, hc]
      simp only [hfz, Bool.false_eq_true, if_false, Result.andThen_ok, h1]
    · refine World.grownBy.trans ?_ h3
      have := setCell_grown w (ad.add i) v
      rwa [add_block] at this
/-- copy into a slice of one's own -/
theorem wr_copy {P : Program} {t e : TypeId} {z : Value} {bytes : Nat} (T : TyS P t e z 1 bytes) {w : World} {B : Nat} {a b : Option Addr} {n c m c' : Nat} {xs ys : List Value} {ty : TypeId} {k : Int → World → Prop}
    (O : Own w B e 1 a n c xs) (S : Sl w b m c' 1 ys) (hp : plainV ys = true)
    (hk : ∀ w', Own w' B e 1 a n c (ys.take n ++ xs.drop m) → w.grownBy w' (blk a) → w'.heap.size = w.heap.size → k ((Nat.min m n : Nat) : Int) w') :
    wr P (Builtin.copy_ #[t, t] ty #[.slice a n c, .slice b m c']) (.one (.int .i64)) w k := by
  obtain ⟨i, h1, _, h2, _⟩ := info_parts T.hi
  have hxs : xs.length = n := by have := O.1; omega
  have hys : ys.length = m := by have := S.len; omega
  have hi : i.size = 1 := h2
  have hmin : (Nat.min m n) = min m n := rfl
  have hcl : (ys.take n).length = Nat.min m n := by rw [List.length_take, hys, hmin]; omega
  have key : putAt xs 0 (ys.take n) = ys.take n ++ xs.drop m := by
    have := putAt_at (ys.take n) [] xs (by rw [hcl, hmin]; omega)
    simp only [List.nil_append, List.length_nil] at this
    rw [this, hcl, hmin]
    rcases Nat.le_total m n with q | q
    · rw [show min m n = m by omega]
    · rw [show min m n = n by omega, List.drop_of_length_le (by omega), List.drop_of_length_le (by omega)]
  have hpl : plainV (ys.take n) = true := by
    unfold plainV at hp ⊢
    rw [List.all_eq_true] at hp ⊢
    exact fun x hx => hp x (List.mem_of_mem_take hx)
  cases a with
  | none =>
    have hn0 : n = 0 := by
      rcases O.2 with ⟨hv, _⟩ | ⟨g, cap, cur, hv, _⟩
      · injection hv
      · cases hv
    subst hn0
    have hx0 : xs = [] := List.eq_nil_of_length_eq_zero hxs
    subst hx0
    refine ⟨(0 : Int), w, ?_, ?_⟩
    · cases b with
      | none => simp [Builtin.copy_, run_underlying T.ht, Builtin.lenOf, Builtin.firstCells, sizeOf, typeInfo, h1, goInt]; rfl
      | some b =>
        have hl := run_loadCells_list (P := P) w b [] (fun j v h => by simp at h)
        simp [Builtin.copy_, run_underlying T.ht, Builtin.lenOf, Builtin.firstCells, sizeOf, typeInfo, h1] at hl ⊢
        simp [hl, goInt]; rfl
    · have := hk w (by simpa using O) (grown_refl _ _) rfl
      simpa [hmin] using this
  | some ad =>
    obtain ⟨w', r1, r2, r3, r4⟩ := run_storeOwn (P := P) (ys.take n) 0 w xs O (by rw [hcl, hmin]; omega) hpl
    rw [key] at r2
    refine ⟨((Nat.min m n : Nat) : Int), w', ?_, hk w' r2 r3 r4⟩
    cases b with
    | none =>
      have hm0 : m = 0 := (S.nil' rfl).1
      subst hm0
      have hy0 : ys = [] := List.eq_nil_of_length_eq_zero hys
      subst hy0
      simp at r1
      simp [Builtin.copy_, run_underlying T.ht, Builtin.lenOf, Builtin.firstCells, sizeOf, typeInfo, h1, goInt, r1]; rfl
    | some b =>
      have hl := run_loadCells_list (P := P) w b (ys.take n) (fun j v h => by
        have hj : ys[j]? = some v := by
          rw [List.getElem?_take] at h
          split at h
          · exact h
          · cases h
        obtain ⟨ad', q1, q2, _⟩ := S.at' j v hj
        cases q1; exact q2)
      rw [hcl] at hl
      simp [Builtin.copy_, run_underlying T.ht, Builtin.lenOf, Builtin.firstCells, sizeOf, typeInfo, h1, hi, hl, r1, goInt]; rfl
theorem Own.putNew {w w' : World} {B : Nat} {e : TypeId} {sz : Nat} {a : Option Addr} {n c : Nat} {xs : List Value} {k : Nat} (O : Own w B e sz a n c xs) (h : w.grownBy w' (some k)) (hk : ∀ j, blk a = some j → j ≠ k) : Own w' B e sz a n c xs := by
  refine O.keptBy h ?_
  cases hj : blk a with
  | none => exact .inl rfl
  | some j => exact .inr fun q => hk j hj (by injection q)
theorem flExE_mk {B : Rel → Facts → Prop} (E : Rel) (Φ : Facts) (h1 : ∀ w, E w w) (h2 : ∀ a b c, E a b → E b c → E a c) (h3 : ∀ i ags v w w', Φ i ags v w → E w w' → Φ i ags v w') (h4 : B E Φ) : flExE B := ⟨E, Φ, h1, h2, h3, h4⟩
end Go.V

/- Queues: the tail of a block of one's own; two stores in one region. -/

namespace Go.V
open Go Go.RowKit Go.Q

/-- a queue: the cells from some place on -/
structure QAt (w : World) (B : Nat) (e : TypeId) (q : Option Addr × Nat × Nat) (xs : List Value) : Prop where
  len : xs.length = q.2.1
  cap : q.2.1 ≤ q.2.2
  most : q.2.2 ≤ maxLen
  nil' : q.1 = none → q.2.1 = 0 ∧ q.2.2 = 0
  mem : 0 < q.2.2 → ∃ g p cur, q.1 = some ⟨g, p, none⟩ ∧ B ≤ g ∧ w.heap[g]? = some (.cells cur e (0, 0)) ∧ p + q.2.2 = cur.size ∧ (cur.toList.drop p).take q.2.1 = xs
theorem QAt.nil (w : World) (B : Nat) (e : TypeId) : QAt w B e (none, 0, 0) [] := ⟨rfl, Nat.le_refl _, Nat.zero_le _, fun _ => ⟨rfl, rfl⟩, fun h => absurd h (by simp)⟩
theorem QAt.xg {w w' : World} {B : Nat} {e : TypeId} {q : Option Addr × Nat × Nat} {xs : List Value} {b : Nat} (h : QAt w B e q xs) (hg : w.grownBy w' (some b)) (hb : b < B) : QAt w' B e q xs :=
  ⟨h.len, h.cap, h.most, h.nil', fun hc => by
    obtain ⟨g, p, cur, h1, h2, h3, h4, h5⟩ := h.mem hc
    exact ⟨g, p, cur, h1, h2, (hg.block g (Array.getElem?_eq_some_iff.1 h3).1 (by intro e; injection e; omega)).trans h3, h4, h5⟩⟩
theorem QAt.up {w w' : World} {B : Nat} {e : TypeId} {q : Option Addr × Nat × Nat} {xs : List Value} (h : QAt w B e q xs) (hg : bel w w') : QAt w' B e q xs :=
  ⟨h.len, h.cap, h.most, h.nil', fun hc => by
    obtain ⟨g, p, cur, h1, h2, h3, h4, h5⟩ := h.mem hc
    exact ⟨g, p, cur, h1, h2, (Below.block hg g (Array.getElem?_eq_some_iff.1 h3).1).trans h3, h4, h5⟩⟩
theorem QAt.sl {w : World} {B : Nat} {e : TypeId} {q : Option Addr × Nat × Nat} {xs : List Value} (h : QAt w B e q xs) : Sl w q.1 q.2.1 q.2.2 1 xs := by
  have := h.most
  refine ⟨by rw [h.len, Nat.mul_one], h.cap, by unfold maxLen at this; omega, h.nil', fun j u hu => ?_⟩
  have hj : j < xs.length := (List.getElem?_eq_some_iff.1 hu).1
  obtain ⟨g, p, cur, h1, h2, h3, h4, h5⟩ := h.mem (by have := h.len; have := h.cap; omega)
  refine ⟨⟨g, p, none⟩, h1, ?_, (Array.getElem?_eq_some_iff.1 h3).1⟩
  rw [Addr.add_lit]
  unfold World.cell?
  simp only [h3, Option.isSome_none, Bool.false_eq_true, if_false]
  rw [← h5, List.getElem?_take] at hu
  split at hu
  · rw [List.getElem?_drop] at hu
    simpa using hu
  · cases hu
/-- the head falls off -/
theorem QAt.tail {w : World} {B : Nat} {e : TypeId} {q : Option Addr × Nat × Nat} {x : Value} {xs : List Value} (h : QAt w B e q (x :: xs)) : ∃ q' : Option Addr × Nat × Nat, (sliced q.1 1 q.2.1 q.2.2 1 = .slice q'.1 q'.2.1 q'.2.2) ∧ QAt w B e q' xs := by
  have hl := h.len
  have hc := h.cap
  have hm := h.most
  simp only [List.length_cons] at hl
  obtain ⟨g, p, cur, h1, h2, h3, h4, h5⟩ := h.mem (by omega)
  refine ⟨((if q.2.2 = 1 then q.1 else q.1.map (·.add (1 * 1))), q.2.1 - 1, q.2.2 - 1), rfl, by dsimp only; omega, by dsimp only; omega, by dsimp only; omega, fun e => ?_, fun hc' => ?_⟩
  · dsimp only at e
    rw [h1] at e
    split at e <;> cases e
  · dsimp only at hc' ⊢
    refine ⟨g, p + 1, cur, ?_, h2, h3, by omega, ?_⟩
    · rw [if_neg (by omega), h1]; simp [Addr.add_lit]
    · have e1 : q.2.1 = (q.2.1 - 1) + 1 := by omega
      rw [e1] at h5
      have hp : p < cur.toList.length := by rw [Array.length_toList]; omega
      rw [List.drop_eq_getElem_cons hp, List.take_succ_cons] at h5
      injection h5
theorem q_tail {P : Program} {t e : TypeId} {z : Value} {bytes : Nat} (T : TyS P t e z 1 bytes) {w : World} {B : Nat} {q : Option Addr × Nat × Nat} {x : Value} {xs : List Value} {K : (Option Addr × Nat × Nat) → Prop} (h : QAt w B e q (x :: xs)) (hk : ∀ q', QAt w B e q' xs → K q') :
    rdp P (Instr.sliceAt t (.slice q.1 q.2.1 q.2.2) (some (.int .i64 1)) none none) (.one .slice) K := by
  obtain ⟨q', h1, h2⟩ := h.tail
  refine ⟨q', fun w => ?_, hk q' h2⟩
  have hl := h.len
  simp only [List.length_cons] at hl
  have ht : P.underlying t = some (.slice (P.elem t)) := by rw [T.elem]; exact T.ht
  rw [run_sliceAt_slice _ _ _ _ _ _ ht, run_slice_l _ _ _ _ _ ht _ _ (by omega) (by omega), T.elem, T.size]
  simp only [Result.andThen_ok]
  rw [show (1 : Int).toNat = 1 from rfl, h1]; rfl
/-- an element is laid behind -/
theorem wr_appQ {P : Program} {t e : TypeId} {z : Value} {bytes : Nat} (T : TyS P t e z 1 bytes) {w : World} {B : Nat} {q : Option Addr × Nat × Nat} {xs : List Value} (O : QAt w B e q xs) {ty : TypeId} {v : Value} {k : (Option Addr × Nat × Nat) → World → Prop}
    (hB : B ≤ w.heap.size) (hz : z.cells.size = 1) (hv : v.cells.size = 1) (hp : plainV v.cells.toList = true) (hb : (q.2.1 + 1) * bytes ≤ 140737488355328) (hn : q.2.1 + 1 ≤ maxLen)
    (hk : ∀ q' w', QAt w' B e q' (xs ++ v.cells.toList) → Below B w w' → k q' w') :
    wr P (Instr.buildSlice t 1 #[(0, v)]) (.one .slice) w fun x w1 => wr P (Builtin.append_ #[t, t] ty #[.slice q.1 q.2.1 q.2.2, .slice x.1 x.2.1 x.2.2]) (.one .slice) w1 k := by
  refine wr_lit T v.cells (fill_one 1 v _ hv (by simp)) (by omega) (by omega) (by omega) (by unfold maxLen; omega) fun ad w1 L h1 h2 h3 => ?_
  have L1 := L B hB
  replace O := O.up h1
  have hl : v.cells.toList.length = 1 := by simpa using hv
  have hne : ∀ j u, v.cells.toList[j]? = some u → w1.cell? (ad.add j) = some u := fun j u hj => by
    obtain ⟨ad', q1, q2, _⟩ := L1.cell (j := j) hj
    cases q1; exact q2
  have h1c : ∀ u ∈ v.cells.toList, u.oneCell' = true := fun u hu => by unfold plainV at hp; rw [List.all_eq_true] at hp; exact hp u hu
  obtain ⟨i, hi0, hz0, hz1, hz2⟩ := info_parts T.hi
  have hx := O.len
  have hcm := O.most
  have b1 : Below B w w1 := ⟨h1.os, h1.tape, h1.output, h1.size, fun k hk => h1.block k (by omega)⟩
  by_cases hroom : q.2.1 + 1 ≤ q.2.2
  · obtain ⟨g, p, cur, g1, g2, g3, g4, g5⟩ := O.mem (by omega)
    have hst := run_storeCells_at P g (p + q.2.1) e v.cells.toList 0 cur w1 g3 (by rw [hl]; omega) h1c
    simp only [Nat.add_zero] at hst
    have hf := run_firstCells_some (P := P) w1 1 1 ad 1 1 v.cells.toList (by rw [hl]) hne
    refine ⟨((q.1, q.2.1 + 1, q.2.2) : Option Addr × Nat × Nat), w1.setRow g (cur.toList.take (p + q.2.1) ++ v.cells.toList ++ cur.toList.drop (p + q.2.1 + v.cells.toList.length)).toArray, ?_, hk _ _ ?_ ?_⟩
    · rw [g1]
      simp [Builtin.append_, run_underlying T.ht, sizeOf, typeInfo, hi0, hz1, Builtin.lenOf, hroom, hf, Addr.add_lit, hst]
      rfl
    · have hcs : cur.toList.length = cur.size := Array.length_toList
      refine ⟨by simp [hx, hv], by dsimp only; omega, hcm, (fun e => by rw [g1] at e; cases e), fun _ => ⟨g, p, _, g1, g2, setRow_heap w1 g cur _ e _ g3, ?_, ?_⟩⟩
      · simp only [List.size_toArray, List.length_append, List.length_take, List.length_drop, hl]
        omega
      · dsimp only
        rw [hl]
        have e1 : List.drop p (List.take (p + q.2.1) cur.toList) = xs := by
          rw [← g5, List.drop_take, show p + q.2.1 - p = q.2.1 by omega]
        rw [List.append_assoc, List.drop_append_of_le_length (by rw [List.length_take]; omega), e1, ← List.append_assoc]
        have e2 : q.2.1 + 1 = (xs ++ v.cells.toList).length := by rw [List.length_append, hx, hl]
        rw [e2]; exact List.take_left
    · exact ⟨b1.os, b1.tape, b1.output, by simpa using b1.size, fun k hk => (setRow_other w1 g k _ (by omega)).trans (b1.block k hk)⟩
  · have hcm' : grownCap w1 (q.2.1 + 1) q.2.2 e ≤ maxLen := grownCap_le_maxLen w1 _ _ e hn
    have hge := grownCap_ge w1 (q.2.1 + 1) q.2.2 e
    have hA : ∀ cs, Below B w (w1.drew.alloc (.cells cs e)) := fun cs => ⟨b1.os, b1.tape, b1.output, by have := b1.size; simp; omega, fun k hk => (Go.RowKit.Below.heap_alloc w1.drew _ k (by have := b1.size; show k < w1.heap.size; omega)).trans (b1.block k hk)⟩
    have hQ : ∀ olds : List Value, olds = xs → QAt (w1.drew.alloc (.cells (olds.toArray ++ v.cells.toList.toArray ++ Builtin.zeroCells z.cells (grownCap w1 (q.2.1 + 1) q.2.2 e - (q.2.1 + 1))) e)) B e (some ⟨w1.heap.size, 0, none⟩, q.2.1 + 1, grownCap w1 (q.2.1 + 1) q.2.2 e) (xs ++ v.cells.toList) := by
      intro olds ho
      subst ho
      refine ⟨by rw [List.length_append, hl, hx], hge, hcm', (fun e => by cases e), fun _ => ⟨w1.heap.size, 0, _, rfl, by have := b1.size; omega, heap_alloc_new w1.drew _, ?_, ?_⟩⟩
      · simp only [Array.size_append, List.size_toArray, size_zeroCells, hz, hl, hx]
        omega
      · simp only [Array.toList_append, List.append_assoc, List.drop_zero]
        have e2 : q.2.1 + 1 = (olds ++ v.cells.toList).length := by rw [List.length_append, hx, hl]
        rw [← List.append_assoc, e2]; exact List.take_left
    cases hq : q.1 with
    | none =>
      obtain ⟨n1, n2⟩ := O.nil' hq
      have hx0 : xs = [] := List.eq_nil_of_length_eq_zero (by omega)
      have hr := run_append_nil (P := P) w1 t ty e i z T.ht hi0 hz0 ad 1 1 v.cells.toList (by rw [hl, hz1]) hne (by omega) (by omega) (by rw [hz2]; rw [n1] at hb; omega)
      have hQ' := hQ [] hx0.symm
      rw [n1, n2] at hQ' ⊢
      simp only [Array.empty_append, Nat.zero_add] at hQ'
      exact ⟨(some ⟨w1.heap.size, 0, none⟩, 1, grownCap w1 1 0 e), _, hr, hk _ _ hQ' (hA _)⟩
    | some b =>
      have holds : ∀ j u, xs[j]? = some u → w1.cell? (b.add j) = some u := fun j u hu => by
        obtain ⟨ad', q1, q2, _⟩ := O.sl.at' j u hu
        rw [hq] at q1; cases q1; exact q2
      have hr := run_append_grow (P := P) w1 t ty e i z T.ht hi0 hz0 b q.2.1 q.2.2 xs (by rw [hx, hz1, Nat.mul_one]) holds ad 1 1 v.cells.toList (by rw [hl, hz1]) hne (by omega) (by unfold maxLen at hn; omega) (growslice_fits (by omega) (by rw [hz2]; exact hb))
      exact ⟨(some ⟨w1.heap.size, 0, none⟩, q.2.1 + 1, grownCap w1 (q.2.1 + 1) q.2.2 e), _, hr, hk _ _ (hQ xs rfl) (hA _)⟩
theorem rdE_boxN {P : Program} {E : Rel} {t : TypeId} {l : List Sh} {w : World} {a : Addr} {cs : List Value} {x : LT l} {k : LT l → Prop} (h : ∀ w', E w w' → Box w' a cs) (ht : aggOf P t cs.length = true) (hx : Lget l cs = some x) (hk : k x) :
    rdE P E (Instr.loadAt t (.pointer (some a))) (.agg l) w k := ⟨x, fun w' hw => by rw [run_loadAt, run_loadVarN ht (fun _ _ hj => (h w' hw).cell hj), Lget_spec hx]; rfl, hk⟩
/-- an append beyond the room: the new row is the next block -/
theorem wr_appG {P : Program} {t e : TypeId} {z : Value} {bytes : Nat} (T : TyS P t e z 1 bytes) {w : World} {B : Nat} {sa : Addr} {n c : Nat} {xs : List Value} (O : Own w B e 1 (some sa) n c xs) {ty : TypeId} {ad : Addr} {m mc : Nat} {ys : List Value} (H : Sl w (some ad) m mc 1 ys) {k : (Option Addr × Nat × Nat) → World → Prop}
    (hB : B ≤ w.heap.size) (hz : z.cells.size = 1) (hp : plainV ys = true) (hb : (n + m) * bytes ≤ 140737488355328) (hn : n + m ≤ maxLen) (hc : c < n + m)
    (hk : ∀ c' w', Own w' B e 1 (some ⟨w.heap.size, 0, none⟩) (n + m) c' (xs ++ ys) → w.grownBy w' (some sa.block) → k (some ⟨w.heap.size, 0, none⟩, n + m, c') w') :
    wr P (Builtin.append_ #[t, t] ty #[.slice (some sa) n c, .slice (some ad) m mc]) (.one .slice) w k := by
  have hy : ∀ j u, ys[j]? = some u → w.cell? (ad.add j) = some u := fun j u hj => by
    obtain ⟨ad', q1, q2, _⟩ := H.at' j u hj
    cases q1; exact q2
  have hx : ∀ j u, xs[j]? = some u → w.cell? (sa.add j) = some u := fun j u hj => by
    obtain ⟨ad', q1, q2, _⟩ := O.sl.at' j u hj
    cases q1; exact q2
  obtain ⟨a', c', w2, hr, hA⟩ := run_app (P := P) w t ty B e z 1 bytes T.ht T.hi hz (by omega) (some sa) n c xs O ad m mc ys H.len hy (fun u hu => by
      unfold plainV at hp; rw [List.all_eq_true] at hp; exact hp u hu) hb hn hB
  obtain ⟨i, hi0, hz0, hz1, hz2⟩ := info_parts T.hi
  have hr2 := run_append_grow (P := P) w t ty e i z T.ht hi0 hz0 sa n c xs (by rw [hz1]; exact O.1) hx ad m mc ys (by rw [hz1]; exact H.len) hy hc (by unfold maxLen at hn; omega) (growslice_fits hc (by rw [hz2]; exact hb))
  have e := hr.symm.trans hr2
  injection e with e1 e2
  injection e1 with e1 e3 e4
  have O' := hA.own
  rw [e1] at O' hr
  exact ⟨(some ⟨w.heap.size, 0, none⟩, n + m, c'), w2, hr, hk c' w2 O' hA.grown⟩
theorem idxQ {P : Program} {t e : TypeId} {z : Value} {bytes : Nat} (T : TyS P t e z 1 bytes) {a : Option Addr} {ad : Addr} {n c j : Nat} {k : IntKind} {i : Int} {K : Addr → Prop} (hj : i = (j : Int)) (h : j < n) (ha : a = some ad) (hk : K (ad.add j)) :
    rdp P (Instr.indexAt t (.slice a n c) (.int k i)) (.one .addr) K := by
  refine idx_mk T hj h ha ?_
  rw [Nat.mul_one]; exact hk
/-- 'a[i], b[k] = v, ..': the first store of a region that tells its states -/
theorem fl2 {P : Program} {w : World} {j j2 : Nat} {p1 p2 : Addr} {tA tB e : TypeId} {z : Value} {bytes : Nat} (T : TyS P tA e z 1 bytes) {B0 : Nat} {a : Addr} {n c : Nat} {xs : List Value} (O : Own w B0 e 1 (some a) n c xs) {h2 : Option Addr × Nat × Nat} {i : Int} {k : Nat} {v : Value}
    (hs : sizeIs P e 1 = true) (hr1 : scal P tA = true) (hr2 : scal P tB = true)
    (q1 : ∀ w', Xg a.block w w' → w'.cell? p1 = some (.slice (some a) n c)) (q2 : ∀ w', Xg a.block w w' → w'.cell? p2 = some (.slice h2.1 h2.2.1 h2.2.2))
    (hi : i = (k : Int)) (hk : k < n) (hv : v.oneCell' = true) {K : (Option Addr × Nat × Nat) → World → Prop}
    (hK : ∀ w', Own w' B0 e 1 (some a) n c (xs.set k v) → Xg a.block w w' → K h2 w') :
    flExC w fun E G Y F => rdE P (ER Y [j, j2] E) (Instr.loadAt tA (.pointer (some p1))) (.one .slice) w fun x57 => rdE P (ER Y [j2] E) (Instr.loadAt tB (.pointer (some p2))) (.one .slice) w fun x58 =>
      rdp P (Instr.indexAt tA (.slice x57.1 x57.2.1 x57.2.2) (.int .i64 i)) (.one .addr) fun x59 =>
      flcC Y j E w (fun _ => True) (fun D w60 => wu P (Instr.storeAt e (.pointer (some x59)) v) w60 fun w63 => (E w60 w63 ∧ G j w60 w63 ∧ Y (setD D j) w63 ∧ F j [] undef w63)) fun (_ : Unit) =>
      flendC Y [j] E w (fun w66 => F j [] (.tuple #[]) w66 ∧ True) fun w65 => K x58 w65 := by
  refine flExC_mk (Xg a.block) (fun _ _ _ => True) (fun D w' => (D j = false → Own w' B0 e 1 (some a) n c xs) ∧ (D j = true → Own w' B0 e 1 (some a) n c (xs.set k v))) (fun _ _ _ _ => True)
    (fun w => grown_refl w _) (fun _ _ _ a b => grown_trans a b) (fun _ _ _ _ _ _ _ _ _ _ => trivial) ⟨fun _ => O, fun q => by cases q⟩ ?_
  refine ⟨((some a, n, c) : Option Addr × Nat × Nat), fun w' hE => by rw [run_loadAt, run_loadVar1 hr1 (q1 w' hE.1)]; rfl, ?_⟩
  refine ⟨h2, fun w' hE => by rw [run_loadAt, run_loadVar1 hr2 (q2 w' hE.1)]; rfl, ?_⟩
  refine idxQ T hi (by dsimp only; omega) rfl ?_
  refine flcC_mk (fun D w47 hD hE hS _ => ?_) (fun _ => ?_)
  · refine wu_own hs (hS.1 hD) hk hv fun w50 O' hg _ => ?_
    exact ⟨hg, trivial, ⟨(fun q => by rw [setD_self] at q; cases q), fun _ => O'⟩, trivial⟩
  · refine flendC_mk fun w52 hE hS _ => ?_
    exact hK w52 (hS.2 (by simp)) hE
end Go.V

/- Stable sorting, as a function of places: no program in sight. -/

namespace Go.Srt

/-- a strict weak order of tags -/
structure SWO (k : Nat → Nat → Prop) : Prop where
  irr : ∀ a, ¬ k a a
  tr : ∀ a b c, k a b → k b c → k a c
  neg : ∀ a b c, k a c → k a b ∨ k b c
/-- ties are broken by the tags -/
def Lt (k : Nat → Nat → Prop) (s t : Nat) : Prop := k s t ∨ (¬ k t s ∧ s < t)
section
variable {k : Nat → Nat → Prop}
theorem Lt.tr (K : SWO k) {a b c : Nat} (h : Lt k a b) (h' : Lt k b c) : Lt k a c := by
  rcases h with h | ⟨h1, h2⟩ <;> rcases h' with h' | ⟨h1', h2'⟩
  · exact .inl (K.tr _ _ _ h h')
  · rcases K.neg a c b h with q | q
    · exact .inl q
    · exact absurd q h1'
  · rcases K.neg b a c h' with q | q
    · exact absurd q h1
    · exact .inl q
  · refine .inr ⟨fun q => ?_, by omega⟩
    rcases K.neg c b a q with r | r
    · exact h1' r
    · exact h1 r
theorem Lt.tot (a b : Nat) (h : a ≠ b) : Lt k a b ∨ Lt k b a := by
  by_cases h1 : k a b
  · exact .inl (.inl h1)
  · by_cases h2 : k b a
    · exact .inr (.inl h2)
    · rcases Nat.lt_or_gt_of_ne h with q | q
      · exact .inl (.inr ⟨h2, q⟩)
      · exact .inr (.inr ⟨h1, q⟩)
theorem Lt.asym (K : SWO k) {a b : Nat} (h : Lt k a b) : ¬ Lt k b a := fun h' => by
  rcases Lt.tr K h h' with q | ⟨_, q⟩
  · exact K.irr a q
  · omega
/-- a later tag is less only by its key -/
theorem Lt.late {s t : Nat} (h : s < t) : Lt k t s ↔ k t s := ⟨fun q => q.elim id fun q => absurd q.2 (by omega), .inl⟩
theorem Lt.early (K : SWO k) {s t : Nat} (h : s < t) : ¬ k t s ↔ Lt k s t := by
  constructor
  · intro q
    rcases Lt.tot (k := k) s t (by omega) with r | r
    · exact r
    · exact absurd ((Lt.late h).1 r) q
  · intro q r
    exact Lt.asym K q (.inl r)
end
/-- places a to b ascend -/
def Srtd (k : Nat → Nat → Prop) (f : Nat → Nat) (a b : Nat) : Prop := ∀ x y, a ≤ x → x < y → y < b → Lt k (f x) (f y)
/-- the same tags, in another order -/
structure RP (a b : Nat) (f g : Nat → Nat) : Prop where
  at' : ∀ x, a ≤ x → x < b → ∃ y, a ≤ y ∧ y < b ∧ g x = f y
  on' : ∀ y, a ≤ y → y < b → ∃ x, a ≤ x ∧ x < b ∧ g x = f y
  off' : ∀ x, ¬ (a ≤ x ∧ x < b) → g x = f x
theorem RP.refl (a b : Nat) (f : Nat → Nat) : RP a b f f := ⟨fun x h1 h2 => ⟨x, h1, h2, rfl⟩, fun x h1 h2 => ⟨x, h1, h2, rfl⟩, fun _ _ => rfl⟩
theorem RP.trans {a b : Nat} {f g h : Nat → Nat} (h1 : RP a b f g) (h2 : RP a b g h) : RP a b f h := by
  refine ⟨fun x p q => ?_, fun x p q => ?_, fun x hx => by rw [h2.off' x hx, h1.off' x hx]⟩
  · obtain ⟨y, y1, y2, y3⟩ := h2.at' x p q
    obtain ⟨z, z1, z2, z3⟩ := h1.at' y y1 y2
    exact ⟨z, z1, z2, y3.trans z3⟩
  · obtain ⟨y, y1, y2, y3⟩ := h1.on' x p q
    obtain ⟨z, z1, z2, z3⟩ := h2.on' y y1 y2
    exact ⟨z, z1, z2, z3.trans y3⟩
theorem RP.mono {a b a' b' : Nat} {f g : Nat → Nat} (h : RP a b f g) (h1 : a' ≤ a) (h2 : b ≤ b') : RP a' b' f g := by
  refine ⟨fun x p q => ?_, fun x p q => ?_, fun x hx => h.off' x (by omega)⟩
  · by_cases c : a ≤ x ∧ x < b
    · obtain ⟨y, y1, y2, y3⟩ := h.at' x c.1 c.2
      exact ⟨y, by omega, by omega, y3⟩
    · exact ⟨x, p, q, h.off' x c⟩
  · by_cases c : a ≤ x ∧ x < b
    · obtain ⟨y, y1, y2, y3⟩ := h.on' x c.1 c.2
      exact ⟨y, by omega, by omega, y3⟩
    · exact ⟨x, p, q, h.off' x c⟩
theorem RP.at {a b : Nat} {f g : Nat → Nat} (h : RP a b f g) {x : Nat} (h1 : a ≤ x) (h2 : x < b) : ∃ y, a ≤ y ∧ y < b ∧ g x = f y := h.at' x h1 h2
theorem RP.off {a b : Nat} {f g : Nat → Nat} (h : RP a b f g) {x : Nat} (hx : ¬ (a ≤ x ∧ x < b)) : g x = f x := h.off' x hx
/-- two places change -/
def sw (f : Nat → Nat) (i j : Nat) : Nat → Nat := fun x => if x = i then f j else if x = j then f i else f x
/-- blocks a..m and m..b change -/
def rot (f : Nat → Nat) (a m b : Nat) : Nat → Nat := fun x => if a ≤ x ∧ x < a + (b - m) then f (x + (m - a)) else if a + (b - m) ≤ x ∧ x < b then f (x - (b - m)) else f x
/-- n places from a on and from b on change -/
def swp (f : Nat → Nat) (a b n : Nat) : Nat → Nat := fun x => if a ≤ x ∧ x < a + n then f (x + (b - a)) else if b ≤ x ∧ x < b + n then f (x - (b - a)) else f x
theorem swp_zero (f : Nat → Nat) (a b : Nat) : swp f a b 0 = f := by
  funext x; unfold swp
  rw [if_neg (by omega), if_neg (by omega)]
theorem swp_step {f : Nat → Nat} {a b n : Nat} (h : a + n < b) : sw (swp f a b n) (a + n) (b + n) = swp f a b (n + 1) := by
  funext x
  simp only [swp, sw]
  (repeat' split) <;> first | rfl | (exfalso; omega) | (congr 1; omega)
/-- the steps of a rotation -/
theorem rot_left {f : Nat → Nat} {m i j : Nat} (hi : i ≤ m) (hij : j < i) : rot (swp f (m - i) m j) (m - (i - j)) m (m + j) = rot f (m - i) m (m + j) := by
  funext x
  simp only [rot, swp]
  (repeat' split) <;> first | rfl | (exfalso; omega) | (congr 1; omega)
theorem rot_right {f : Nat → Nat} {m i j : Nat} (hi : i ≤ m) (hij : i < j) : rot (swp f (m - i) (m + j - i) i) (m - i) m (m + (j - i)) = rot f (m - i) m (m + j) := by
  funext x
  simp only [rot, swp]
  (repeat' split) <;> first | rfl | (exfalso; omega) | (congr 1; omega)
theorem rot_mid {f : Nat → Nat} {m i : Nat} (hi : i ≤ m) : swp f (m - i) m i = rot f (m - i) m (m + i) := by
  funext x
  simp only [rot, swp]
  (repeat' split) <;> first | rfl | (exfalso; omega) | (congr 1; omega)
theorem rot_RP {f : Nat → Nat} {a m b : Nat} (h1 : a ≤ m) (h2 : m ≤ b) : RP a b f (rot f a m b) := by
  refine ⟨fun x hx hy => ?_, fun x hx hy => ?_, fun x hx => ?_⟩
  · by_cases h : x < a + (b - m)
    · exact ⟨x + (m - a), by omega, by omega, by unfold rot; rw [if_pos ⟨hx, h⟩]⟩
    · exact ⟨x - (b - m), by omega, by omega, by unfold rot; rw [if_neg (by omega), if_pos (by omega)]⟩
  · by_cases h : x < m
    · refine ⟨x + (b - m), by omega, by omega, ?_⟩
      unfold rot
      rw [if_neg (by omega), if_pos (by omega)]; congr 1; omega
    · refine ⟨x - (m - a), by omega, by omega, ?_⟩
      unfold rot
      rw [if_pos (by omega)]; congr 1; omega
  · unfold rot
    rw [if_neg (by omega), if_neg (by omega)]
/-- a later place is laid before others -/
theorem rot_up {f : Nat → Nat} {a k : Nat} (h : a ≤ k) : sw (rot f a (a + 1) (k + 1)) k (k + 1) = rot f a (a + 1) (k + 2) := by
  funext x
  simp only [rot, sw]
  (repeat' split) <;> first | rfl | (exfalso; omega) | (congr 1; omega)
theorem rot_down {f : Nat → Nat} {k m : Nat} (h : k < m) : sw (rot f (k + 1) m (m + 1)) (k + 1) k = rot f k m (m + 1) := by
  funext x
  simp only [rot, sw]
  (repeat' split) <;> first | rfl | (exfalso; omega) | (congr 1; omega)
/-- a rotation that brings the halves in order -/
theorem rot_srt {k : Nat → Nat → Prop} {f : Nat → Nat} {a m b : Nat} (h1 : a ≤ m) (h2 : m ≤ b) (s1 : Srtd k f a m) (s2 : Srtd k f m b) (h : ∀ x y, a ≤ x → x < m → m ≤ y → y < b → Lt k (f y) (f x)) : Srtd k (rot f a m b) a b := by
  intro x y hx hxy hy
  unfold rot
  by_cases c1 : x < a + (b - m)
  · rw [if_pos ⟨hx, c1⟩]
    by_cases c2 : y < a + (b - m)
    · rw [if_pos ⟨by omega, c2⟩]
      exact s2 _ _ (by omega) (by omega) (by omega)
    · rw [if_neg (by omega), if_pos (by omega)]
      exact h _ _ (by omega) (by omega) (by omega) (by omega)
  · rw [if_neg (by omega), if_pos (by omega), if_neg (by omega), if_pos (by omega)]
    exact s1 _ _ (by omega) (by omega) (by omega)
theorem srt_join {k : Nat → Nat → Prop} {f : Nat → Nat} {a m b : Nat} (s1 : Srtd k f a m) (s2 : Srtd k f m b) (h : ∀ x y, a ≤ x → x < m → m ≤ y → y < b → Lt k (f x) (f y)) : Srtd k f a b := by
  intro x y hx hxy hy
  by_cases c1 : y < m
  · exact s1 x y hx hxy c1
  · by_cases c2 : x < m
    · exact h x y hx c2 (by omega) hy
    · exact s2 x y (by omega) hxy hy
theorem srt_congr {k : Nat → Nat → Prop} {f g : Nat → Nat} {a b : Nat} (h : Srtd k f a b) (he : ∀ x, a ≤ x → x < b → g x = f x) : Srtd k g a b := fun x y hx hxy hy => by
  rw [he x hx (by omega), he y (by omega) hy]; exact h x y hx hxy hy
end Go.Srt

/- Stable sorting: insertion, the symmetric merge, blocks. -/

namespace Go.Srt
variable {k : Nat → Nat → Prop}

theorem srt_one (f : Nat → Nat) (a : Nat) : Srtd k f a (a + 1) := fun x y h1 h2 h3 => by omega
theorem srt_sub {f : Nat → Nat} {a b a' b' : Nat} (h : Srtd k f a b) (h1 : a ≤ a') (h2 : b' ≤ b) : Srtd k f a' b' := fun x y p q r => h x y (by omega) q (by omega)
theorem Lt.k_left (K : SWO k) {s t u : Nat} (h : Lt k s t) (h' : k t u) : k s u := by
  rcases h with h | ⟨h1, _⟩
  · exact K.tr _ _ _ h h'
  · rcases K.neg t s u h' with q | q
    · exact absurd q h1
    · exact q
theorem Lt.k_right (K : SWO k) {s t u : Nat} (h : Lt k s t) (h' : k u s) : k u t := by
  rcases h with h | ⟨h1, _⟩
  · exact K.tr _ _ _ h' h
  · rcases K.neg u t s h' with q | q
    · exact q
    · exact absurd q h1
/-- an element goes down to its place -/
theorem ins_srt (K : SWO k) {f : Nat → Nat} {a j i : Nat} (h1 : a ≤ j) (h2 : j ≤ i) (s : Srtd k f a i) (hl : ∀ x, j ≤ x → x < i → Lt k (f i) (f x)) (hr : j = a ∨ Lt k (f (j - 1)) (f i)) : Srtd k (rot f j i (i + 1)) a (i + 1) := by
  have q1 : Srtd k (rot f j i (i + 1)) j (i + 1) := rot_srt h2 (by omega) (srt_sub s h1 (Nat.le_refl _)) (srt_one f i) fun x y hx hy hz hw => by
    have : y = i := by omega
    rw [this]; exact hl x hx hy
  have q2 : Srtd k (rot f j i (i + 1)) a j := srt_congr (srt_sub s (Nat.le_refl _) h2) fun x _ hx => by
    unfold rot; rw [if_neg (by omega), if_neg (by omega)]
  refine srt_join q2 q1 fun x y hx hxj hy hyi => ?_
  have ex : rot f j i (i + 1) x = f x := by unfold rot; rw [if_neg (by omega), if_neg (by omega)]
  rw [ex]
  unfold rot
  by_cases c : y = j
  · rw [if_pos (by omega)]
    have e : y + (i - j) = i := by omega
    rw [e]
    rcases hr with hr | hr
    · omega
    · by_cases c2 : x = j - 1
      · rw [c2]; exact hr
      · exact Lt.tr K (s x (j - 1) hx (by omega) (by omega)) hr
  · rw [if_neg (by omega), if_pos (by omega)]
    exact s x _ hx (by omega) (by omega)
/-- the first element goes up to its place -/
theorem up_srt {f : Nat → Nat} {a i b : Nat} (h1 : a + 1 ≤ i) (h2 : i ≤ b) (s : Srtd k f (a + 1) b) (hl : ∀ x, a + 1 ≤ x → x < i → Lt k (f x) (f a)) (hr : ∀ y, i ≤ y → y < b → Lt k (f a) (f y)) : Srtd k (rot f a (a + 1) i) a b := by
  have q1 : Srtd k (rot f a (a + 1) i) a i := rot_srt (by omega) h1 (srt_one f a) (srt_sub s (Nat.le_refl _) h2) fun x y hx hy hz hw => by
    have : x = a := by omega
    rw [this]; exact hl y hz hw
  have q2 : Srtd k (rot f a (a + 1) i) i b := srt_congr (srt_sub s h1 (Nat.le_refl _)) fun x hx _ => by
    unfold rot; rw [if_neg (by omega), if_neg (by omega)]
  refine srt_join q1 q2 fun x y hx hxj hy hyi => ?_
  have ey : rot f a (a + 1) i y = f y := by unfold rot; rw [if_neg (by omega), if_neg (by omega)]
  rw [ey]
  unfold rot
  by_cases c : x + 1 < i
  · rw [if_pos (by omega)]
    have e : x + (a + 1 - a) = x + 1 := by omega
    rw [e]
    exact s _ _ (by omega) (by omega) hyi
  · rw [if_neg (by omega), if_pos (by omega)]
    have e : x - (i - (a + 1)) = a := by omega
    rw [e]
    exact hr y hy hyi
theorem rot_id {f : Nat → Nat} {a m b : Nat} (h : a = m ∨ m = b) : rot f a m b = f := by
  funext x; unfold rot
  rcases h with h | h
  · by_cases c : a ≤ x ∧ x < a + (b - m)
    · rw [if_pos c]; congr 1; omega
    · rw [if_neg c, if_neg (by omega)]
  · rw [if_neg (by omega)]
    by_cases c : a + (b - m) ≤ x ∧ x < b
    · rw [if_pos c]; congr 1; omega
    · rw [if_neg c]
/-- what a merge is asked -/
structure Mrg (k : Nat → Nat → Prop) (f : Nat → Nat) (a m b : Nat) : Prop where
  am : a ≤ m
  mb : m ≤ b
  l : Srtd k f a m
  r : Srtd k f m b
  tags : ∀ x y, a ≤ x → x < m → m ≤ y → y < b → f x < f y
/-- the search of the symmetric merge -/
structure Cut (k : Nat → Nat → Prop) (f : Nat → Nat) (p lo s r hi : Nat) : Prop where
  h1 : lo ≤ s
  h2 : s ≤ r
  h3 : r ≤ hi
  no : ∀ c, lo ≤ c → c < s → ¬ k (f (p - c)) (f c)
  yes : ∀ c, r ≤ c → c < hi → k (f (p - c)) (f c)
theorem Cut.step1 (K : SWO k) {f : Nat → Nat} {a m b p lo s r hi c : Nat} (M : Mrg k f a m b) (C : Cut k f p lo s r hi) (hb : ∀ x, lo ≤ x → x < hi → a ≤ x ∧ x < m ∧ m ≤ p - x ∧ p - x < b) (hc1 : s ≤ c) (hc2 : c < r) (h : ¬ k (f (p - c)) (f c)) : Cut k f p lo (c + 1) r hi := by
  obtain ⟨h1, h2, h3, no, yes⟩ := C
  refine ⟨by omega, by omega, h3, fun x hx hx' q => ?_, yes⟩
  have b1 := hb x hx (by omega)
  have b2 := hb c (by omega) (by omega)
  rcases Nat.lt_or_ge x c with e | e
  · have q1 := Lt.k_left K (M.r (p - c) (p - x) (by omega) (by omega) (by omega)) q
    exact h (Lt.k_right K (M.l x c (by omega) e (by omega)) q1)
  · have : x = c := by omega
    subst this; exact h q
theorem Cut.step2 (K : SWO k) {f : Nat → Nat} {a m b p lo s r hi c : Nat} (M : Mrg k f a m b) (C : Cut k f p lo s r hi) (hb : ∀ x, lo ≤ x → x < hi → a ≤ x ∧ x < m ∧ m ≤ p - x ∧ p - x < b) (hc1 : s ≤ c) (hc2 : c < r) (h : k (f (p - c)) (f c)) : Cut k f p lo s c hi := by
  obtain ⟨h1, h2, h3, no, yes⟩ := C
  refine ⟨h1, hc1, by omega, no, fun x hx hx' => ?_⟩
  have b1 := hb x (by omega) (by omega)
  have b2 := hb c (by omega) (by omega)
  rcases Nat.lt_or_ge c x with e | e
  · have q1 := Lt.k_left K (M.r (p - x) (p - c) (by omega) (by omega) (by omega)) h
    exact Lt.k_right K (M.l c x (by omega) e (by omega)) q1
  · have : x = c := by omega
    subst this; exact h
/-- what the search finds -/
structure Found (k : Nat → Nat → Prop) (f : Nat → Nat) (a m b s e : Nat) : Prop where
  las : a ≤ s
  sm : s ≤ m
  me : m ≤ e
  eb : e ≤ b
  lo : ∀ x y, a ≤ x → x < s → e ≤ y → y < b → Lt k (f x) (f y)
  hi : ∀ x y, s ≤ x → x < m → m ≤ y → y < e → Lt k (f y) (f x)
theorem Cut.found (K : SWO k) {f : Nat → Nat} {a m b p n lo s hi e : Nat} (M : Mrg k f a m b) (C : Cut k f p lo s s hi) (hb : ∀ x, lo ≤ x → x < hi → a ≤ x ∧ x < m ∧ m ≤ p - x ∧ p - x < b) (hp : p + 1 = n) (he : e = n - s)
    (has : a ≤ s) (hsm : s ≤ m) (hme : m ≤ e) (heb : e ≤ b) (hlo : s = lo → a = s ∨ e = b) (hhi : s = hi → s = m ∨ e = m) : Found k f a m b s e := by
  obtain ⟨h1, _, h3, no, yes⟩ := C
  refine ⟨has, hsm, hme, heb, fun x y hx hxs hy hyb => ?_, fun x y hx hxm hy hye => ?_⟩
  · by_cases c : s = lo
    · rcases hlo c with q | q <;> omega
    · have b1 := hb (s - 1) (by omega) (by omega)
      have q := no (s - 1) (by omega) (by omega)
      have e1 : p - (s - 1) = e := by omega
      rw [e1] at q
      have tg := M.tags x y hx (by omega) (by omega) hyb
      refine (Lt.early K tg).1 fun q' => q ?_
      have q1 : k (f e) (f x) := by
        by_cases c2 : y = e
        · rw [← c2]; exact q'
        · exact Lt.k_left K (M.r e y (by omega) (by omega) hyb) q'
      by_cases c3 : x = s - 1
      · rw [← c3]; exact q1
      · exact Lt.k_right K (M.l x (s - 1) hx (by omega) (by omega)) q1
  · by_cases c : s = hi
    · rcases hhi c with q | q <;> omega
    · have b1 := hb s h1 (by omega)
      have q := yes s (Nat.le_refl _) (by omega)
      have e1 : p - s = e - 1 := by omega
      rw [e1] at q
      refine .inl ?_
      have q1 : k (f y) (f s) := by
        by_cases c2 : y = e - 1
        · rw [c2]; exact q
        · exact Lt.k_left K (M.r y (e - 1) hy (by omega) (by omega)) q
      by_cases c3 : x = s
      · rw [c3]; exact q1
      · exact Lt.k_right K (M.l s x (by omega) (by omega) hxm) q1
theorem rot_lo {f : Nat → Nat} {a m b x : Nat} (h : x < a) : rot f a m b x = f x := by unfold rot; rw [if_neg (by omega), if_neg (by omega)]
theorem rot_hi {f : Nat → Nat} {a m b x : Nat} (h : b ≤ x) (h2 : a ≤ m) (h3 : m ≤ b) : rot f a m b x = f x := by unfold rot; rw [if_neg (by omega), if_neg (by omega)]
theorem rot_1 {f : Nat → Nat} {a m b x : Nat} (h : a ≤ x) (h2 : x < a + (b - m)) : rot f a m b x = f (x + (m - a)) := by unfold rot; rw [if_pos ⟨h, h2⟩]
theorem rot_2 {f : Nat → Nat} {a m b x : Nat} (h : a + (b - m) ≤ x) (h2 : x < b) : rot f a m b x = f (x - (b - m)) := by unfold rot; rw [if_neg (by omega), if_pos ⟨h, h2⟩]
theorem sym_split {f : Nat → Nat} {a m b s e : Nat} (M : Mrg k f a m b) (F : Found k f a m b s e) :
    Mrg k (rot f s m e) a s (s + (e - m)) ∧ Mrg k (rot f s m e) (s + (e - m)) e b ∧ (∀ x y, a ≤ x → x < s + (e - m) → s + (e - m) ≤ y → y < b → Lt k (rot f s m e x) (rot f s m e y)) ∧ RP a b f (rot f s m e) := by
  obtain ⟨am, mb, l, r, tags⟩ := M
  obtain ⟨has, sm, me, eb, lo, hi⟩ := F
  refine ⟨⟨has, by omega, ?_, ?_, ?_⟩, ⟨by omega, eb, ?_, ?_, ?_⟩, ?_, (rot_RP sm me).mono has eb⟩
  · exact srt_congr (srt_sub l (Nat.le_refl _) sm) fun x _ hx => rot_lo hx
  · intro x y hx hxy hy
    rw [rot_1 hx (by omega), rot_1 (by omega) hy]
    exact r _ _ (by omega) (by omega) (by omega)
  · intro x y hx hxs hy hym
    rw [rot_lo hxs, rot_1 hy hym]
    exact tags _ _ hx (by omega) (by omega) (by omega)
  · intro x y hx hxy hy
    rw [rot_2 hx (by omega), rot_2 (by omega) hy]
    exact l _ _ (by omega) (by omega) (by omega)
  · exact srt_congr (srt_sub r me (Nat.le_refl _)) fun x hx _ => rot_hi hx sm me
  · intro x y hx hxs hy hym
    rw [rot_2 hx hxs, rot_hi hy sm me]
    exact tags _ _ (by omega) (by omega) (by omega) hym
  · intro x y hx hxm hy hyb
    by_cases c1 : x < s
    · rw [rot_lo c1]
      by_cases c2 : y < e
      · rw [rot_2 hy c2]; exact l _ _ hx (by omega) (by omega)
      · rw [rot_hi (by omega) sm me]; exact lo _ _ hx c1 (by omega) hyb
    · rw [rot_1 (by omega) hxm]
      by_cases c2 : y < e
      · rw [rot_2 hy c2]; exact hi _ _ (by omega) (by omega) (by omega) (by omega)
      · rw [rot_hi (by omega) sm me]; exact r _ _ (by omega) (by omega) hyb
theorem sym_join {f g g1 g2 : Nat → Nat} {a c b : Nat} (h0 : a ≤ c) (h00 : c ≤ b) (h1 : RP a b f g) (h2 : RP a c g g1) (s1 : Srtd k g1 a c) (h3 : RP c b g1 g2) (s2 : Srtd k g2 c b) (hx : ∀ x y, a ≤ x → x < c → c ≤ y → y < b → Lt k (g x) (g y)) : RP a b f g2 ∧ Srtd k g2 a b := by
  refine ⟨h1.trans ((h2.mono (Nat.le_refl _) h00).trans (h3.mono h0 (Nat.le_refl _))), srt_join (srt_congr s1 fun x _ hx => h3.off (by omega)) s2 fun x y p1 p2 p3 p4 => ?_⟩
  rw [h3.off (show ¬ (c ≤ x ∧ x < b) by omega)]
  obtain ⟨x', q1, q2, q3⟩ := h2.at p1 p2
  obtain ⟨y', r1, r2, r3⟩ := h3.at p3 p4
  rw [q3, r3, h2.off (show ¬ (a ≤ y' ∧ y' < c) by omega)]
  exact hx _ _ q1 q2 r1 r2
/-- a block of B places from o on: its tags stay in it, it ascends -/
structure Good (k : Nat → Nat → Prop) (n : Nat) (f : Nat → Nat) (o B : Nat) : Prop where
  tags : ∀ x, o ≤ x → x < o + B → x < n → o ≤ f x ∧ f x < o + B ∧ f x < n
  srt : ∀ x y, o ≤ x → x < y → y < o + B → y < n → Lt k (f x) (f y)
theorem Good.same {n : Nat} {f g : Nat → Nat} {o B : Nat} (h : Good k n f o B) (he : ∀ x, o ≤ x → x < o + B → g x = f x) : Good k n g o B :=
  ⟨fun x h1 h2 h3 => by rw [he x h1 h2]; exact h.tags x h1 h2 h3, fun x y h1 h2 h3 h4 => by rw [he x h1 (by omega), he y (by omega) h3]; exact h.srt x y h1 h2 h3 h4⟩
theorem Good.none {n : Nat} {f : Nat → Nat} {o B : Nat} (h : n ≤ o) : Good k n f o B := ⟨fun x h1 h2 h3 => by omega, fun x y h1 h2 h3 h4 => by omega⟩
/-- two neighbours that were merged -/
theorem Good.two {n : Nat} {f g : Nat → Nat} {o B b : Nat} (h1 : Good k n f o B) (h2 : Good k n f (o + B) B) (hb : b ≤ o + 2 * B) (hb2 : b = o + 2 * B ∨ b = n) (hbn : b ≤ n) (r : RP o b f g) (s : Srtd k g o b) : Good k n g o (2 * B) := by
  refine ⟨fun x p1 p2 p3 => ?_, fun x y p1 p2 p3 p4 => s x y p1 p2 (by omega)⟩
  obtain ⟨y, q1, q2, q3⟩ := r.at p1 (show x < b by omega)
  rw [q3]
  by_cases c : y < o + B
  · have := h1.tags y q1 c (by omega); omega
  · have := h2.tags y (by omega) (by omega) (by omega); omega
theorem Good.mrg {n : Nat} {f : Nat → Nat} {o B b : Nat} (h1 : Good k n f o B) (h2 : Good k n f (o + B) B) (hb : b ≤ o + 2 * B) (hb2 : o + B ≤ b) (hbn : b ≤ n) : Mrg k f o (o + B) b :=
  ⟨by omega, hb2, fun x y p1 p2 p3 => h1.srt x y p1 p2 p3 (by omega), fun x y p1 p2 p3 => h2.srt x y p1 p2 (by omega) (by omega), fun x y p1 p2 p3 p4 => by
    have := h1.tags x p1 p2 (by omega)
    have := h2.tags y p3 (by omega) (by omega)
    omega⟩
theorem Good.one {n : Nat} {f : Nat → Nat} {o B : Nat} (h1 : Good k n f o B) (h : n ≤ o + B) : Good k n f o (2 * B) :=
  ⟨fun x p1 p2 p3 => by have := h1.tags x p1 (by omega) p3; omega, fun x y p1 p2 p3 p4 => h1.srt x y p1 p2 (by omega) p4⟩
theorem Good.ins {n : Nat} {f g : Nat → Nat} {o B b : Nat} (hi : ∀ x, o ≤ x → f x = x) (hb2 : b = o + B ∨ b = n) (hb : b ≤ o + B) (hbn : b ≤ n) (r : RP o b f g) (s : Srtd k g o b) : Good k n g o B := by
  refine ⟨fun x p1 p2 p3 => ?_, fun x y p1 p2 p3 p4 => s x y p1 p2 (by omega)⟩
  obtain ⟨y, q1, q2, q3⟩ := r.at p1 (show x < b by omega)
  rw [q3, hi y q1]; omega
/-- the state of the loop that merges -/
structure Half (k : Nat → Nat → Prop) (n : Nat) (f : Nat → Nat) (B q : Nat) : Prop where
  done : ∀ i, i < q → Good k n f (i * (2 * B)) (2 * B)
  todo : ∀ i, 2 * q ≤ i → Good k n f (i * B) B
theorem Half.start {n : Nat} {f : Nat → Nat} {B : Nat} (h : ∀ i, Good k n f (i * B) B) : Half k n f B 0 := ⟨fun i hi => by omega, fun i _ => h i⟩
theorem mul_two (q B : Nat) : q * (2 * B) = 2 * q * B := by rw [Nat.mul_comm 2 q, Nat.mul_assoc]
theorem mul_suc (q B : Nat) : (q + 1) * B = q * B + B := Nat.succ_mul q B
theorem Half.g1 {n : Nat} {f : Nat → Nat} {B q : Nat} (h : Half k n f B q) : Good k n f (q * (2 * B)) B := by rw [mul_two]; exact h.todo _ (Nat.le_refl _)
theorem Half.g2 {n : Nat} {f : Nat → Nat} {B q : Nat} (h : Half k n f B q) : Good k n f (q * (2 * B) + B) B := by
  have := h.todo (2 * q + 1) (by omega)
  rw [mul_suc, ← mul_two] at this; exact this
theorem Half.step {n : Nat} {f g : Nat → Nat} {B q b : Nat} (h : Half k n f B q) (hb : b ≤ q * (2 * B) + 2 * B) (r : RP (q * (2 * B)) b f g) (hg : Good k n g (q * (2 * B)) (2 * B)) : Half k n g B (q + 1) := by
  refine ⟨fun i hi => ?_, fun i hi => ?_⟩
  · rcases Nat.lt_or_ge i q with e | e
    · refine (h.done i e).same fun x h1 h2 => r.off ?_
      have : (i + 1) * (2 * B) ≤ q * (2 * B) := Nat.mul_le_mul_right _ e
      rw [mul_suc] at this; omega
    · have : i = q := by omega
      subst this; exact hg
  · refine (h.todo i (by omega)).same fun x h1 h2 => r.off ?_
    have : (2 * (q + 1)) * B ≤ i * B := Nat.mul_le_mul_right _ hi
    have e : 2 * (q + 1) * B = q * (2 * B) + 2 * B := by rw [← mul_two, mul_suc]
    omega
theorem Half.fin {n : Nat} {f : Nat → Nat} {B q : Nat} (h : Half k n f B q) (hn : n ≤ q * (2 * B)) (i : Nat) : Good k n f (i * (2 * B)) (2 * B) := by
  rcases Nat.lt_or_ge i q with e | e
  · exact h.done i e
  · have : q * (2 * B) ≤ i * (2 * B) := Nat.mul_le_mul_right _ e
    exact Good.none (by omega)
/-- the state of the loop that inserts -/
structure Firsts (k : Nat → Nat → Prop) (n : Nat) (f : Nat → Nat) (q : Nat) : Prop where
  done : ∀ i, i < q → Good k n f (i * 20) 20
  todo : ∀ x, q * 20 ≤ x → f x = x
theorem Firsts.step {n : Nat} {f g : Nat → Nat} {q b : Nat} (h : Firsts k n f q) (hb : b ≤ q * 20 + 20) (hb2 : b = q * 20 + 20 ∨ b = n) (hbn : b ≤ n) (r : RP (q * 20) b f g) (s : Srtd k g (q * 20) b) : Firsts k n g (q + 1) := by
  refine ⟨fun i hi => ?_, fun x hx => ?_⟩
  · rcases Nat.lt_or_ge i q with e | e
    · exact (h.done i e).same fun x h1 h2 => r.off (by omega)
    · have : i = q := by omega
      subst this; exact Good.ins h.todo hb2 hb hbn r s
  · rw [r.off (by omega), h.todo x (by omega)]
theorem Firsts.fin {n : Nat} {f : Nat → Nat} {q : Nat} (h : Firsts k n f q) (hn : n ≤ q * 20) (i : Nat) : Good k n f (i * 20) 20 := by
  rcases Nat.lt_or_ge i q with e | e
  · exact h.done i e
  · exact Good.none (by omega)
theorem Good.all {n : Nat} {f : Nat → Nat} {B : Nat} (h : ∀ i, Good k n f (i * B) B) (hB : n ≤ B) : Srtd k f 0 n := fun x y h1 h2 h3 => by
  have := (h 0).srt x y (by omega) h2 (by omega) h3
  exact this
/-- the tags of a range that was permuted -/
theorem RP.lt {n : Nat} {f : Nat → Nat} (h : RP 0 n id f) {x : Nat} (hx : x < n) : f x < n := by
  obtain ⟨y, _, h2, h3⟩ := h.at (Nat.zero_le x) hx
  rw [h3]; exact h2
open Go
def mkV (n : Nat) (V : Nat → Value) (f : Nat → Nat) : List Value := (List.range n).map fun x => V (f x)
theorem mkV_len (n : Nat) (V : Nat → Value) (f : Nat → Nat) : (mkV n V f).length = n := by simp [mkV]
theorem mkV_at {n : Nat} {V : Nat → Value} {f : Nat → Nat} {x : Nat} (h : x < n) : (mkV n V f)[x]? = some (V (f x)) := by simp [mkV, h]
theorem mkV_sw {n : Nat} {V : Nat → Value} {f : Nat → Nat} {i j : Nat} : ((mkV n V f).set i (V (f j))).set j (V (f i)) = mkV n V (sw f i j) := by
  apply List.ext_getElem?
  intro x
  by_cases hx : x < n
  · rw [mkV_at hx]
    unfold sw
    by_cases h2 : x = j
    · subst h2
      rw [List.getElem?_set_self (by rw [List.length_set, mkV_len]; exact hx)]
      by_cases h1 : x = i
      · subst h1; rw [if_pos rfl]
      · rw [if_neg h1, if_pos rfl]
    · rw [List.getElem?_set_ne (fun e => h2 e.symm)]
      by_cases h1 : x = i
      · subst h1
        rw [List.getElem?_set_self (by rw [mkV_len]; exact hx), if_pos rfl]
      · rw [List.getElem?_set_ne (fun e => h1 e.symm), mkV_at hx, if_neg h1, if_neg h2]
  · rw [List.getElem?_eq_none (by simp [mkV_len]; omega), List.getElem?_eq_none (by simp [mkV_len]; omega)]
end Go.Srt

/- Bags: plain law. -/

namespace Go.Bag

/-- a total order, told by numbers -/
structure TO {α : Type} (c : α → α → Int) : Prop where
  eq : ∀ a b, c a b = 0 ↔ a = b
  sym : ∀ a b, c a b < 0 ↔ 0 < c b a
  tr : ∀ a b d, c a b < 0 → c b d < 0 → c a d < 0
section
variable {α : Type} {c : α → α → Int}
theorem TO.refl (H : TO c) (a : α) : c a a = 0 := (H.eq a a).2 rfl
theorem TO.le_tr (H : TO c) {a b d : α} (h1 : c a b ≤ 0) (h2 : c b d ≤ 0) : c a d ≤ 0 := by
  rcases Int.lt_or_eq_of_le h1 with q | q
  · rcases Int.lt_or_eq_of_le h2 with r | r
    · have := H.tr a b d q r; omega
    · rw [(H.eq b d).1 r] at h1; exact h1
  · rw [(H.eq a b).1 q]; exact h2
theorem TO.tot (H : TO c) (a b : α) : c a b ≤ 0 ∨ c b a ≤ 0 := by
  have := H.sym b a
  by_cases h : c a b ≤ 0
  · exact .inl h
  · exact .inr (by have := this.2 (by omega); omega)
theorem TO.anti (H : TO c) {a b : α} (h1 : c a b ≤ 0) (h2 : c b a ≤ 0) : a = b := by
  have := H.sym a b
  refine (H.eq a b).1 ?_
  rcases Int.lt_or_eq_of_le h1 with q | q
  · have := this.1 q; omega
  · exact q
theorem TO.lt_of (H : TO c) {a b : α} (h1 : c a b ≤ 0) (h2 : a ≠ b) : c a b < 0 := by
  rcases Int.lt_or_eq_of_le h1 with q | q
  · exact q
  · exact absurd ((H.eq a b).1 q) h2
theorem TO.lt_le (H : TO c) {a b d : α} (h1 : c a b < 0) (h2 : c b d ≤ 0) : c a d < 0 := by
  rcases Int.lt_or_eq_of_le h2 with r | r
  · exact H.tr _ _ _ h1 r
  · rw [← (H.eq b d).1 r]; exact h1
/-- lists, compared from left to right -/
def lexc (c : α → α → Int) : List α → List α → Int
  | [], [] => 0
  | [], _ :: _ => -1
  | _ :: _, [] => 1
  | a :: x, b :: y => if c a b = 0 then lexc c x y else c a b
theorem lexc_to (H : TO c) : TO (lexc c) := by
  refine ⟨fun x => ?_, fun x => ?_, fun x => ?_⟩
  · induction x with
    | nil => intro y; cases y <;> simp [lexc]
    | cons a x ih =>
      intro y
      cases y with
      | nil => simp [lexc]
      | cons b y =>
        unfold lexc
        split
        · rename_i h; rw [ih, (H.eq a b).1 h]; simp
        · rename_i h
          constructor
          · intro q; exact absurd q h
          · intro q; injection q with q1 q2; exact absurd ((H.eq a b).2 q1) h
  · induction x with
    | nil => intro y; cases y <;> simp [lexc]
    | cons a x ih =>
      intro y
      cases y with
      | nil => simp [lexc]
      | cons b y =>
        unfold lexc
        by_cases h : c a b = 0
        · have h2 : c b a = 0 := by rw [(H.eq a b).1 h]; exact H.refl b
          rw [if_pos h, if_pos h2]; exact ih y
        · have h2 : c b a ≠ 0 := fun q => h (by rw [(H.eq b a).1 q]; exact H.refl a)
          rw [if_neg h, if_neg h2]; exact H.sym a b
  · induction x with
    | nil =>
      intro y z h1 h2
      cases y with
      | nil => simp [lexc] at h1
      | cons b y => cases z with
        | nil => simp [lexc] at h2
        | cons d z => simp [lexc]
    | cons a x ih =>
      intro y z h1 h2
      cases y with
      | nil => simp [lexc] at h1
      | cons b y =>
        cases z with
        | nil => simp [lexc] at h2
        | cons d z =>
          unfold lexc at h1 h2 ⊢
          by_cases q1 : c a b = 0
          · rw [if_pos q1] at h1
            have e := (H.eq a b).1 q1
            subst e
            by_cases q2 : c a d = 0
            · rw [if_pos q2] at h2 ⊢; exact ih y z h1 h2
            · rw [if_neg q2] at h2 ⊢; exact h2
          · rw [if_neg q1] at h1
            by_cases q2 : c b d = 0
            · have e := (H.eq b d).1 q2
              subst e
              rw [if_neg q1]; exact h1
            · rw [if_neg q2] at h2
              have := H.tr a b d h1 h2
              rw [if_neg (by omega)]; exact this
/-- sorted -/
def sortR (c : α → α → Int) (A : List α) : List α := A.mergeSort fun a b => decide (c a b ≤ 0)
abbrev Asc (c : α → α → Int) (L : List α) : Prop := L.Pairwise fun a b => c a b ≤ 0
theorem sortR_perm (c : α → α → Int) (A : List α) : (sortR c A).Perm A := List.mergeSort_perm A _
theorem sortR_asc (H : TO c) (A : List α) : Asc c (sortR c A) := by
  have := List.pairwise_mergeSort (le := fun a b => decide (c a b ≤ 0)) (fun a b d h1 h2 => by simp at h1 h2 ⊢; exact H.le_tr h1 h2) (fun a b => by simp; exact H.tot a b) A
  exact this.imp fun h => by simpa using h
theorem asc_eq (H : TO c) {X Y : List α} (h1 : Asc c X) (h2 : Asc c Y) (h : X.Perm Y) : X = Y := List.Perm.eq_of_pairwise (fun _ _ _ _ q1 q2 => H.anti q1 q2) h1 h2 h
theorem sortR_eq (H : TO c) {A S : List α} (h1 : Asc c S) (h2 : S.Perm A) : S = sortR c A := asc_eq H h1 (sortR_asc H A) (h2.trans (sortR_perm c A).symm)
theorem sortR_congr (H : TO c) {A A' : List α} (h : A.Perm A') : sortR c A = sortR c A' := sortR_eq H (sortR_asc H A) ((sortR_perm c A).trans h)
/-- what a stable sort leaves -/
theorem perm_of_rp {n : Nat} {g : Nat → Nat} {k : Nat → Nat → Prop} (K : Srt.SWO k) (R : Srt.RP 0 n id g) (s : Srt.Srtd k g 0 n) : ((List.range n).map g).Perm (List.range n) := by
  refine (List.perm_ext_iff_of_nodup ?_ List.nodup_range).2 fun x => ?_
  · unfold List.Nodup
    rw [List.pairwise_map]
    refine List.Pairwise.imp_of_mem (fun {a b} ha hb hab he => ?_) List.pairwise_lt_range
    have hb := List.mem_range.1 hb
    have q := s a b (Nat.zero_le _) hab hb
    rw [he] at q
    exact Srt.Lt.asym K q q
  · constructor
    · intro h
      obtain ⟨y, hy, rfl⟩ := List.mem_map.1 h
      exact List.mem_range.2 (R.lt (List.mem_range.1 hy))
    · intro h
      obtain ⟨y, _, h2, h3⟩ := R.on' x (Nat.zero_le _) (List.mem_range.1 h)
      exact List.mem_map.2 ⟨y, List.mem_range.2 h2, h3⟩
theorem sort_of_rp (H : TO c) {A : List α} {d : α} {g : Nat → Nat} (R : Srt.RP 0 A.length id g) (K : Srt.SWO fun s t => c (A.getD s d) (A.getD t d) < 0) (s : Srt.Srtd (fun s t => c (A.getD s d) (A.getD t d) < 0) g 0 A.length) : (List.range A.length).map (fun x => A.getD (g x) d) = sortR c A := by
  refine sortR_eq H ?_ ?_
  · unfold Asc
    rw [List.pairwise_map]
    refine List.Pairwise.imp_of_mem (fun {a b} ha hb hab => ?_) List.pairwise_lt_range
    have q := s a b (Nat.zero_le _) hab (List.mem_range.1 hb)
    rcases q with q | ⟨q, _⟩
    · omega
    · have := H.sym (A.getD (g b) d) (A.getD (g a) d)
      by_cases z : c (A.getD (g a) d) (A.getD (g b) d) ≤ 0
      · exact z
      · exact absurd (this.2 (by omega)) q
  · have h1 := (perm_of_rp K R s).map fun x => A.getD x d
    rw [List.map_map] at h1
    refine h1.trans ?_
    have : (List.range A.length).map (fun x => A.getD x d) = A := by
      apply List.ext_getElem?
      intro i
      by_cases hi : i < A.length
      · simp [hi]
      · rw [List.getElem?_eq_none (by simp; omega), List.getElem?_eq_none (by omega)]
    rw [this]
theorem key_swo (H : TO c) (f : Nat → α) : Srt.SWO fun s t => c (f s) (f t) < 0 := by
  refine ⟨fun a => ?_, fun a b d => H.tr _ _ _, fun a b d h => ?_⟩
  · rw [H.refl]; omega
  · rcases Int.lt_or_le (c (f a) (f b)) 0 with q | q
    · exact .inl q
    · have := H.sym (f b) (f a)
      have h2 : c (f b) (f a) ≤ 0 := by
        rcases H.tot (f b) (f a) with z | z
        · exact z
        · have : c (f a) (f b) = 0 := by omega
          rw [(H.eq _ _).1 this, H.refl]; omega
      refine .inr ?_
      rcases Int.lt_or_eq_of_le h2 with z | z
      · exact H.tr _ _ _ z h
      · rw [(H.eq _ _).1 z]; exact h
/-! ### merging -/
def mergeR (c : α → α → Int) : List α → List α → List α
  | [], Y => Y
  | a :: X, [] => a :: X
  | a :: X, b :: Y => if c a b ≤ 0 then a :: mergeR c X (b :: Y) else b :: mergeR c (a :: X) Y
termination_by X Y => X.length + Y.length
theorem mergeR_nil (X : List α) : mergeR c X [] = X := by cases X <;> simp [mergeR]
theorem mergeR_perm (X Y : List α) : (mergeR c X Y).Perm (X ++ Y) := by
  induction X, Y using mergeR.induct c with
  | case1 Y => simp [mergeR]
  | case2 a X => simp [mergeR]
  | case3 a X b Y h ih => rw [mergeR, if_pos h]; exact ih.cons a
  | case4 a X b Y h ih =>
    rw [mergeR, if_neg h]
    exact (ih.cons b).trans List.perm_middle.symm
theorem mergeR_asc (H : TO c) (X Y : List α) : Asc c X → Asc c Y → Asc c (mergeR c X Y) := by
  induction X, Y using mergeR.induct c with
  | case1 Y => intro _ h; simpa [mergeR] using h
  | case2 a X => intro h _; simpa [mergeR] using h
  | case3 a X b Y h ih =>
    intro h1 h2
    rw [mergeR, if_pos h]
    unfold Asc at h1 h2 ⊢
    rw [List.pairwise_cons] at h1 ⊢
    refine ⟨fun x hx => ?_, ih h1.2 h2⟩
    rw [(mergeR_perm X (b :: Y)).mem_iff] at hx
    rcases List.mem_append.1 hx with q | q
    · exact h1.1 x q
    · rcases List.mem_cons.1 q with q | q
      · subst q; exact h
      · exact H.le_tr h ((List.pairwise_cons.1 h2).1 x q)
  | case4 a X b Y h ih =>
    intro h1 h2
    rw [mergeR, if_neg h]
    unfold Asc at h1 h2 ⊢
    rw [List.pairwise_cons] at h2 ⊢
    refine ⟨fun x hx => ?_, ih h1 h2.2⟩
    rw [(mergeR_perm (a :: X) Y).mem_iff] at hx
    have hb : c b a ≤ 0 := (H.tot a b).resolve_left h
    rcases List.mem_append.1 hx with q | q
    · rcases List.mem_cons.1 q with q | q
      · subst q; exact hb
      · exact H.le_tr hb ((List.pairwise_cons.1 h1).1 x q)
    · exact h2.1 x q
theorem mergeR_sort (H : TO c) (X Y : List α) : mergeR c (sortR c X) (sortR c Y) = sortR c (X ++ Y) :=
  sortR_eq H (mergeR_asc H _ _ (sortR_asc H X) (sortR_asc H Y)) ((mergeR_perm _ _).trans ((sortR_perm c X).append (sortR_perm c Y)))
end
end Go.Bag

/- Bags: groups of equal rows; plain law. -/

namespace Go.Bag
section
variable {α : Type} {c : α → α → Int} [DecidableEq α]
def hd (c : α → α → Int) : List α → List α → Option α
  | [], [] => none
  | a :: _, [] => some a
  | [], b :: _ => some b
  | a :: _, b :: _ => some (if c a b ≤ 0 then a else b)
def tw (r : α) (X : List α) : Nat := (X.takeWhile fun x => decide (x = r)).length
def dw (r : α) (X : List α) : List α := X.dropWhile fun x => decide (x = r)
omit [DecidableEq α] in
theorem hd_mem {X Y : List α} {r : α} (h : hd c X Y = some r) : X.head? = some r ∨ Y.head? = some r := by
  cases X with
  | nil => cases Y with
    | nil => simp [hd] at h
    | cons b Y => simp [hd] at h; simp [h]
  | cons a X => cases Y with
    | nil => simp [hd] at h; simp [h]
    | cons b Y =>
      simp only [hd, Option.some.injEq] at h
      split at h
      · simp [h]
      · simp [h]
theorem dw_le (r : α) (X : List α) : (dw r X).length ≤ X.length := (List.dropWhile_sublist _).length_le
theorem dw_lt {r : α} {X : List α} (h : X.head? = some r) : (dw r X).length < X.length := by
  cases X with
  | nil => simp at h
  | cons a X =>
    simp at h
    subst h
    unfold dw
    rw [List.dropWhile_cons, if_pos (by simp)]
    have := dw_le a X
    unfold dw at this
    simp; omega
theorem dw_sum {X Y : List α} {r : α} (h : hd c X Y = some r) : (dw r X).length + (dw r Y).length < X.length + Y.length := by
  have h1 := dw_le r X
  have h2 := dw_le r Y
  rcases hd_mem h with q | q
  · have := dw_lt q; omega
  · have := dw_lt q; omega
def mrg (c : α → α → Int) (X Y : List α) : List (α × Nat × Nat) :=
  match _h : hd c X Y with
  | none => []
  | some r => (r, tw r X, tw r Y) :: mrg c (dw r X) (dw r Y)
termination_by X.length + Y.length
decreasing_by exact dw_sum _h
theorem mrg_none {X Y : List α} (h : hd c X Y = none) : mrg c X Y = [] := by
  rw [mrg]; split
  · rfl
  · rename_i r h'; rw [h] at h'; cases h'
theorem mrg_some {X Y : List α} {r : α} (h : hd c X Y = some r) : mrg c X Y = (r, tw r X, tw r Y) :: mrg c (dw r X) (dw r Y) := by
  rw [mrg]; split
  · rename_i h'; rw [h] at h'; cases h'
  · rename_i r' h'; rw [h] at h'; injection h' with h'; subst h'; rfl
omit [DecidableEq α] in
theorem hd_none {X Y : List α} (h : hd c X Y = none) : X = [] ∧ Y = [] := by
  cases X <;> cases Y <;> simp [hd] at h ⊢
/-- one of an ascending list, from the least on -/
theorem asc_tw (H : TO c) {r : α} : ∀ {X : List α}, Asc c X → (∀ x ∈ X, c r x ≤ 0) → tw r X = X.count r ∧ (∀ x ∈ dw r X, c r x < 0) ∧ (∀ s, s ≠ r → (dw r X).count s = X.count s)
  | [], _, _ => by simp [tw, dw]
  | x :: X, hA, hr => by
    have hA' := List.pairwise_cons.1 hA
    by_cases e : x = r
    · subst e
      obtain ⟨h1, h2, h3⟩ := asc_tw H (r := x) hA'.2 fun y hy => hr y (List.mem_cons_of_mem _ hy)
      refine ⟨?_, ?_, fun s hs => ?_⟩
      · unfold tw at h1 ⊢
        rw [List.takeWhile_cons, if_pos (by simp), List.length_cons, h1, List.count_cons]; simp
      · unfold dw at h2 ⊢
        rw [List.dropWhile_cons, if_pos (by simp)]; exact h2
      · have := h3 s hs
        unfold dw at this ⊢
        rw [List.dropWhile_cons, if_pos (by simp), this, List.count_cons, if_neg (by simpa using fun q => hs q.symm)]; rfl
    · have hlt := H.lt_of (hr x (List.mem_cons_self ..)) (fun q => e q.symm)
      have hd0 : dw r (x :: X) = x :: X := by unfold dw; rw [List.dropWhile_cons, if_neg (by simpa using e)]
      have hall : ∀ y ∈ x :: X, c r y < 0 := fun y hy => by
        rcases List.mem_cons.1 hy with q | q
        · rw [q]; exact hlt
        · exact H.lt_le hlt (hA'.1 y q)
      refine ⟨?_, by rw [hd0]; exact hall, fun s _ => by rw [hd0]⟩
      have : r ∉ x :: X := fun q => by have := hall r q; rw [H.refl] at this; omega
      rw [List.count_eq_zero.2 this]
      unfold tw
      rw [List.takeWhile_cons, if_neg (by simpa using e)]; rfl
theorem asc_dw {r : α} {X : List α} (h : Asc c X) : Asc c (dw r X) := List.Pairwise.sublist (List.dropWhile_sublist _) h
omit [DecidableEq α] in
theorem hd_le (H : TO c) {X Y : List α} {r : α} (hX : Asc c X) (hY : Asc c Y) (h : hd c X Y = some r) : (∀ x ∈ X, c r x ≤ 0) ∧ (∀ y ∈ Y, c r y ≤ 0) ∧ (r ∈ X ∨ r ∈ Y) := by
  have asc : ∀ {a : α} {L : List α}, Asc c (a :: L) → ∀ x ∈ a :: L, c a x ≤ 0 := fun {a L} hL x hx => by
    rcases List.mem_cons.1 hx with q | q
    · rw [q, H.refl]; exact Int.le_refl 0
    · exact (List.pairwise_cons.1 hL).1 x q
  cases X with
  | nil => cases Y with
    | nil => simp [hd] at h
    | cons b Y =>
      simp only [hd, Option.some.injEq] at h
      subst h
      exact ⟨by simp, asc hY, .inr (List.mem_cons_self ..)⟩
  | cons a X => cases Y with
    | nil =>
      simp only [hd, Option.some.injEq] at h
      subst h
      exact ⟨asc hX, by simp, .inl (List.mem_cons_self ..)⟩
    | cons b Y =>
      simp only [hd, Option.some.injEq] at h
      by_cases q : c a b ≤ 0
      · rw [if_pos q] at h
        subst h
        exact ⟨asc hX, fun y hy => H.le_tr q (asc hY y hy), .inl (List.mem_cons_self ..)⟩
      · rw [if_neg q] at h
        subst h
        have q' := (H.tot a b).resolve_left q
        exact ⟨fun x hx => H.le_tr q' (asc hX x hx), asc hY, .inr (List.mem_cons_self ..)⟩
structure Grp (c : α → α → Int) (X Y : List α) (M : List (α × Nat × Nat)) : Prop where
  cnt : ∀ p ∈ M, p.2.1 = X.count p.1 ∧ p.2.2 = Y.count p.1 ∧ 0 < p.2.1 + p.2.2
  lt : M.Pairwise fun p q => c p.1 q.1 < 0
  all : ∀ r, 0 < X.count r + Y.count r → ∃ p ∈ M, p.1 = r
theorem mrg_grp (H : TO c) : ∀ (n : Nat) {X Y : List α}, X.length + Y.length = n → Asc c X → Asc c Y → Grp c X Y (mrg c X Y) := by
  intro n
  induction n using Nat.strongRecOn with
  | ind n ih =>
    intro X Y hn hX hY
    cases h : hd c X Y with
    | none =>
      rw [mrg_none h]
      obtain ⟨rfl, rfl⟩ := hd_none h
      exact ⟨by simp, List.Pairwise.nil, by simp⟩
    | some r =>
      rw [mrg_some h]
      obtain ⟨l1, l2, l3⟩ := hd_le H hX hY h
      obtain ⟨x1, x2, x3⟩ := asc_tw H hX l1
      obtain ⟨y1, y2, y3⟩ := asc_tw H hY l2
      have G := ih _ (by have := dw_sum h; omega) rfl (asc_dw (r := r) hX) (asc_dw (r := r) hY)
      have mem : ∀ p ∈ mrg c (dw r X) (dw r Y), c r p.1 < 0 := fun p hp => by
        obtain ⟨c1, c2, c3⟩ := G.cnt p hp
        by_cases q : p.1 ∈ dw r X
        · exact x2 _ q
        · by_cases q' : p.1 ∈ dw r Y
          · exact y2 _ q'
          · rw [List.count_eq_zero.2 q] at c1
            rw [List.count_eq_zero.2 q'] at c2
            omega
      refine ⟨fun p hp => ?_, List.pairwise_cons.2 ⟨mem, G.lt⟩, fun s hs => ?_⟩
      · rcases List.mem_cons.1 hp with q | q
        · subst q
          refine ⟨x1, y1, ?_⟩
          dsimp only
          rw [x1, y1]
          rcases l3 with z | z
          · have := List.count_pos_iff.2 z; omega
          · have := List.count_pos_iff.2 z; omega
        · obtain ⟨c1, c2, c3⟩ := G.cnt p q
          have hne : p.1 ≠ r := fun e => by have := mem p q; rw [e, H.refl] at this; omega
          rw [x3 _ hne] at c1
          rw [y3 _ hne] at c2
          exact ⟨c1, c2, c3⟩
      · by_cases e : s = r
        · exact ⟨_, List.mem_cons_self .., e.symm⟩
        · rw [← x3 s e, ← y3 s e] at hs
          obtain ⟨p, hp, he⟩ := G.all s hs
          exact ⟨p, List.mem_cons_of_mem _ hp, he⟩
/-- the groups of two bags -/
def G (c : α → α → Int) (A B : List α) : List (α × Nat × Nat) := mrg c (sortR c A) (sortR c B)
theorem G_grp (H : TO c) (A B : List α) : Grp c A B (G c A B) := by
  have g := mrg_grp H _ rfl (sortR_asc H A) (sortR_asc H B)
  refine ⟨fun p hp => ?_, g.lt, fun r hr => g.all r (by rw [(sortR_perm c A).count_eq, (sortR_perm c B).count_eq]; exact hr)⟩
  have := g.cnt p hp
  rw [(sortR_perm c A).count_eq, (sortR_perm c B).count_eq] at this
  exact this
def comb (t : Nat → Nat → Nat) (M : List (α × Nat × Nat)) : List α := M.flatMap fun p => List.replicate (t p.2.1 p.2.2) p.1
theorem comb_count (H : TO c) (t : Nat → Nat → Nat) (r : α) : ∀ {M : List (α × Nat × Nat)}, M.Pairwise (fun p q => c p.1 q.1 < 0) → (∀ p ∈ M, p.1 = r → (comb t M).count r = t p.2.1 p.2.2) ∧ ((∀ p ∈ M, p.1 ≠ r) → (comb t M).count r = 0)
  | [], _ => by simp [comb]
  | q :: M, h => by
    have hp := List.pairwise_cons.1 h
    obtain ⟨i1, i2⟩ := comb_count H t r hp.2
    have e : (comb t (q :: M)).count r = (if q.1 = r then t q.2.1 q.2.2 else 0) + (comb t M).count r := by
      unfold comb
      rw [List.flatMap_cons, List.count_append, List.count_replicate]
      by_cases z : q.1 = r <;> simp [z]
    constructor
    · intro p hm he
      rcases List.mem_cons.1 hm with z | z
      · subst z
        rw [e, if_pos he, i2 fun p' hp' q' => by have := hp.1 p' hp'; rw [he, q', H.refl] at this; omega]; rfl
      · rw [e, if_neg fun q' => (by have := hp.1 p z; rw [he, q', H.refl] at this; omega), i1 p z he]; omega
    · intro hn
      rw [e, if_neg (hn q (List.mem_cons_self ..)), i2 fun p hp => hn p (List.mem_cons_of_mem _ hp)]
theorem comb_G (H : TO c) (t : Nat → Nat → Nat) (A B : List α) (r : α) : (comb t (G c A B)).count r = if 0 < A.count r + B.count r then t (A.count r) (B.count r) else 0 := by
  have g := G_grp H A B
  obtain ⟨h1, h2⟩ := comb_count H t r g.lt
  split
  · rename_i h
    obtain ⟨p, hp, he⟩ := g.all r h
    rw [h1 p hp he, (g.cnt p hp).1, (g.cnt p hp).2.1, he]
  · rename_i h
    refine h2 fun p hp e => ?_
    obtain ⟨c1, c2, c3⟩ := g.cnt p hp
    rw [e] at c1 c2; omega
theorem any_ne (H : TO c) (A B : List α) : (G c A B).any (fun p => p.2.1 != p.2.2) = false ↔ ∀ r, A.count r = B.count r := by
  have g := G_grp H A B
  constructor
  · intro h r
    by_cases z : 0 < A.count r + B.count r
    · obtain ⟨p, hp, he⟩ := g.all r z
      have := List.any_eq_false.1 h p hp
      obtain ⟨c1, c2, _⟩ := g.cnt p hp
      simp at this
      rw [he] at c1 c2; omega
    · omega
  · intro h
    refine List.any_eq_false.2 fun p hp => ?_
    obtain ⟨c1, c2, _⟩ := g.cnt p hp
    have := h p.1
    simp; omega
theorem any_lt (H : TO c) (A B : List α) : (G c A B).any (fun p => decide (p.2.1 < p.2.2)) = false ↔ ∀ r, B.count r ≤ A.count r := by
  have g := G_grp H A B
  constructor
  · intro h r
    by_cases z : 0 < A.count r + B.count r
    · obtain ⟨p, hp, he⟩ := g.all r z
      have := List.any_eq_false.1 h p hp
      obtain ⟨c1, c2, _⟩ := g.cnt p hp
      simp at this
      rw [he] at c1 c2; omega
    · omega
  · intro h
    refine List.any_eq_false.2 fun p hp => ?_
    obtain ⟨c1, c2, _⟩ := g.cnt p hp
    have := h p.1
    simp; omega
theorem G_congr (H : TO c) {A A' B B' : List α} (h1 : A.Perm A') (h2 : B.Perm B') : G c A B = G c A' B' := by
  unfold G; rw [sortR_congr H h1, sortR_congr H h2]
def tU (all : Bool) (m n : Nat) : Nat := if all then m + n else 1
def tE (all : Bool) (m n : Nat) : Nat := if all then m - n else if m > 0 ∧ n = 0 then 1 else 0
def tI (all : Bool) (m n : Nat) : Nat := if all then min m n else if m > 0 ∧ n > 0 then 1 else 0
theorem t_le (all : Bool) (m n : Nat) (h : 0 < m + n) : tU all m n ≤ m + n ∧ tE all m n ≤ m + n ∧ tI all m n ≤ m + n := by
  unfold tU tE tI
  cases all <;> simp <;> (repeat' split) <;> omega
/-- what is combined is not longer -/
theorem dw_tw (r : α) (X : List α) : tw r X + (dw r X).length = X.length := by
  have := congrArg List.length (List.takeWhile_append_dropWhile (p := fun x => decide (x = r)) (l := X))
  rw [List.length_append] at this; exact this
theorem comb_len {t : Nat → Nat → Nat} (ht : ∀ m n, 0 < m + n → t m n ≤ m + n) : ∀ (k : Nat) {X Y : List α}, X.length + Y.length = k → (comb t (mrg c X Y)).length ≤ X.length + Y.length ∧ (mrg c X Y).length ≤ X.length + Y.length := by
  intro k
  induction k using Nat.strongRecOn with
  | ind k ih =>
    intro X Y hk
    cases h : hd c X Y with
    | none => rw [mrg_none h]; simp [comb]
    | some r =>
      rw [mrg_some h]
      have hs := dw_sum h
      have i := ih _ (by omega) (X := dw r X) (Y := dw r Y) rfl
      have e1 := dw_tw r X
      have e2 := dw_tw r Y
      have := ht (tw r X) (tw r Y) (by omega)
      unfold comb at i ⊢
      rw [List.flatMap_cons, List.length_append, List.length_replicate, List.length_cons]
      dsimp only
      omega
theorem combG_len {t : Nat → Nat → Nat} (ht : ∀ m n, 0 < m + n → t m n ≤ m + n) (A B : List α) : (comb t (G c A B)).length ≤ A.length + B.length ∧ (G c A B).length ≤ A.length + B.length := by
  have := comb_len (c := c) ht _ (X := sortR c A) (Y := sortR c B) rfl
  rw [(sortR_perm c A).length_eq, (sortR_perm c B).length_eq] at this; exact this
theorem tw_le (r : α) (X : List α) : tw r X ≤ X.length := by have := dw_tw r X; omega
theorem G_mem (H : TO c) {A B : List α} {p : α × Nat × Nat} (h : p ∈ G c A B) : p.1 ∈ A ∨ p.1 ∈ B := by
  obtain ⟨c1, c2, c3⟩ := (G_grp H A B).cnt p h
  by_cases q : p.1 ∈ A
  · exact .inl q
  · by_cases q' : p.1 ∈ B
    · exact .inr q'
    · rw [List.count_eq_zero.2 q] at c1
      rw [List.count_eq_zero.2 q'] at c2
      omega
end
end Go.Bag

/- What the seat's program may turn (asked by every condition). -/



namespace Go.Proofs
open Go Go.RowKit
theorem follows_ : Try.prog.follows .mixedOrders = true := by kernel_rfl
end Go.Proofs

/- The conditions of functions, printed by our tool; each is checked against the code by the kernel. -/



namespace Go.Proofs
open Go Go.V Go.RowKit
/-- querylab/querylabref01.Compare -/
def S34 (a_0 : Int) (a_1 : Int) (a_2 : ByteArray) (b_0 : Int) (b_1 : Int) (b_2 : ByteArray) (w0 : World) (R : Value → World → Prop) : Prop :=
 wr Try.prog (Instr.box 47 (.agg #[(.int .i64 a_0), (.int .i64 a_1), (.string a_2)])) (.one .addr) w0 fun (x1 : Addr) (w2 : World) =>
 wr Try.prog (Instr.box 47 (.agg #[(.int .i64 b_0), (.int .i64 b_1), (.string b_2)])) (.one .addr) w2 fun (x3 : Addr) (w4 : World) =>
 rd Try.prog (Instr.loadAt 3 (.pointer (some x1))) (.one (.int .i64)) w4 fun (x5 : Int) =>
 rd Try.prog (Instr.loadAt 3 (.pointer (some x3))) (.one (.int .i64)) w4 fun (x6 : Int) =>
 br (decide (x5 < x6)) (R (.int .i64 (-1)) w4)
 (rd Try.prog (Instr.loadAt 3 (.pointer (some x1))) (.one (.int .i64)) w4 fun (x7 : Int) =>
 rd Try.prog (Instr.loadAt 3 (.pointer (some x3))) (.one (.int .i64)) w4 fun (x8 : Int) =>
 br (decide (x7 > x8)) (R (.int .i64 1) w4)
 (rd Try.prog (Instr.loadAt 2 (.pointer (some (Addr.add x1 1)))) (.one (.int .i64)) w4 fun (x9 : Int) =>
 rd Try.prog (Instr.loadAt 2 (.pointer (some (Addr.add x3 1)))) (.one (.int .i64)) w4 fun (x10 : Int) =>
 br (decide (x9 < x10)) (R (.int .i64 (-1)) w4)
 (rd Try.prog (Instr.loadAt 2 (.pointer (some (Addr.add x1 1)))) (.one (.int .i64)) w4 fun (x11 : Int) =>
 rd Try.prog (Instr.loadAt 2 (.pointer (some (Addr.add x3 1)))) (.one (.int .i64)) w4 fun (x12 : Int) =>
 br (decide (x11 > x12)) (R (.int .i64 1) w4)
 (rd Try.prog (Instr.loadAt 9 (.pointer (some (Addr.add x1 2)))) (.one .str) w4 fun (x13 : ByteArray) =>
 rd Try.prog (Instr.loadAt 9 (.pointer (some (Addr.add x3 2)))) (.one .str) w4 fun (x14 : ByteArray) =>
 rdp Try.prog (cmpS .lss 9 (.tmp 31) (.tmp 33) (.string x13) (.string x14)) (.one .bool) fun (x15 : Bool) =>
 br x15 (R (.int .i64 (-1)) w4)
 (rd Try.prog (Instr.loadAt 9 (.pointer (some (Addr.add x1 2)))) (.one .str) w4 fun (x16 : ByteArray) =>
 rd Try.prog (Instr.loadAt 9 (.pointer (some (Addr.add x3 2)))) (.one .str) w4 fun (x17 : ByteArray) =>
 rdp Try.prog (cmpS .gtr 9 (.tmp 37) (.tmp 39) (.string x16) (.string x17)) (.one .bool) fun (x18 : Bool) =>
 br x18 (R (.int .i64 1) w4)
 (R (.int .i64 0) w4))))))
def H34 : Hints := ⟨[], [], [], []⟩
set_option maxRecDepth 100000 in
theorem S34_eq (a_0 : Int) (a_1 : Int) (a_2 : ByteArray) (b_0 : Int) (b_1 : Int) (b_2 : ByteArray) (w0 : World) (R : Value → World → Prop) : vcFn Try.prog H34 Try.f34 [(.agg #[(.int .i64 a_0), (.int .i64 a_1), (.string a_2)]), (.agg #[(.int .i64 b_0), (.int .i64 b_1), (.string b_2)])] w0 R = S34 a_0 a_1 a_2 b_0 b_1 b_2 w0 R := by kernel_rfl
set_option maxRecDepth 100000 in
theorem S34_calls (a_0 : Int) (a_1 : Int) (a_2 : ByteArray) (b_0 : Int) (b_1 : Int) (b_2 : ByteArray) (w0 : World) (R : Value → World → Prop) (h : S34 a_0 a_1 a_2 b_0 b_1 b_2 w0 R) : Calls Try.prog 34 #[(.agg #[(.int .i64 a_0), (.int .i64 a_1), (.string a_2)]), (.agg #[(.int .i64 b_0), (.int .i64 b_1), (.string b_2)])] w0 (ret R) := by
  rw [← S34_eq] at h; exact vcFn_sound follows_ Try.func34 h

/-- querylab/querylabref01.CompareRows -/
def S15 (a_a : Option Addr) (a_n : Nat) (a_c : Nat) (b_a : Option Addr) (b_n : Nat) (b_c : Nat) (w0 : World) (R : Value → World → Prop) : Prop :=
 join (T := (Unit)) (fun (_s2 : (Unit)) w3 => ∀ _ : Nat → Value,
 br (decide (((a_n : Nat) : Int) < ((b_n : Nat) : Int))) (R (.int .i64 (-1)) w3)
 (br (decide (((a_n : Nat) : Int) > ((b_n : Nat) : Int))) (R (.int .i64 1) w3)
 (R (.int .i64 0) w3)))
  fun (K1 : (Unit) → World → Prop) =>
 loop (T := (Int × Unit)) (0, ()) w0 fun (again4 : (Int × Unit) → World → Prop) (s5 : (Int × Unit)) w6 => ∀ _ : Nat → Value,
 br (decide (s5.1 < ((a_n : Nat) : Int))) (br (decide (s5.1 < ((b_n : Nat) : Int))) (drw w6 fun w7 =>
 rdp Try.prog (Instr.indexAt 24 (.slice a_a a_n a_c) (.int .i64 s5.1)) (.one .addr) fun (x8 : Addr) =>
 rd Try.prog (Instr.loadAt 47 (.pointer (some x8))) (.agg [(.int .i64), (.int .i64), .str]) w7 fun (x9 : (Int × Int × ByteArray × Unit)) =>
 rdp Try.prog (Instr.indexAt 24 (.slice b_a b_n b_c) (.int .i64 s5.1)) (.one .addr) fun (x10 : Addr) =>
 rd Try.prog (Instr.loadAt 47 (.pointer (some x10))) (.agg [(.int .i64), (.int .i64), .str]) w7 fun (x11 : (Int × Int × ByteArray × Unit)) =>
 call Try.prog 34 [(.agg #[(.int .i64 x9.1), (.int .i64 x9.2.1), (.string x9.2.2.1)]), (.agg #[(.int .i64 x11.1), (.int .i64 x11.2.1), (.string x11.2.2.1)])] (.one (.one (.int .i64))) w7 fun (x12 : Int) (w13 : World) =>
 br (x12 != 0) (R (.int .i64 x12) w13)
 (z (IntKind.wrap .i64 (s5.1 + 1)) fun (z14 : Int) =>
 again4 (z14, ()) w13))
 (K1 (()) w6))
 (K1 (()) w6)
def H15 : Hints := ⟨[(2, 0, [(5, (.one (.int .i64)))]), (1, 0, [])], [(4, 8)], [], []⟩
set_option maxRecDepth 100000 in
theorem S15_eq (a_a : Option Addr) (a_n : Nat) (a_c : Nat) (b_a : Option Addr) (b_n : Nat) (b_c : Nat) (w0 : World) (R : Value → World → Prop) : vcFn Try.prog H15 Try.f15 [(.slice a_a a_n a_c), (.slice b_a b_n b_c)] w0 R = S15 a_a a_n a_c b_a b_n b_c w0 R := by kernel_rfl
set_option maxRecDepth 100000 in
theorem S15_calls (a_a : Option Addr) (a_n : Nat) (a_c : Nat) (b_a : Option Addr) (b_n : Nat) (b_c : Nat) (w0 : World) (R : Value → World → Prop) (h : S15 a_a a_n a_c b_a b_n b_c w0 R) : Calls Try.prog 15 #[(.slice a_a a_n a_c), (.slice b_a b_n b_c)] w0 (ret R) := by
  rw [← S15_eq] at h; exact vcFn_sound follows_ Try.func15 h

/-- querylab/value.Compare -/
def S48 (a_0 : Int) (a_1 : Int) (a_2 : ByteArray) (b_0 : Int) (b_1 : Int) (b_2 : ByteArray) (w0 : World) (R : Value → World → Prop) : Prop :=
 wr Try.prog (Instr.box 47 (.agg #[(.int .i64 a_0), (.int .i64 a_1), (.string a_2)])) (.one .addr) w0 fun (x1 : Addr) (w2 : World) =>
 wr Try.prog (Instr.box 47 (.agg #[(.int .i64 b_0), (.int .i64 b_1), (.string b_2)])) (.one .addr) w2 fun (x3 : Addr) (w4 : World) =>
 drw w4 fun w5 => flEx fun F6 =>
 rd Try.prog (Instr.loadAt 3 (.pointer (some x1))) (.one (.int .i64)) w5 fun (x7 : Int) =>
 rd Try.prog (Instr.loadAt 3 (.pointer (some x3))) (.one (.int .i64)) w5 fun (x8 : Int) =>
 flc bel w5 (fun _w10 => True) (fun (w9 : World) =>
   call Try.prog 51 [(.int .i64 x7), (.int .i64 x8)] (.one (.one (.int .i64))) w9 fun (x11 : Int) (w12 : World) =>
 (bel w9 w12 ∧ F6 4 [(.int .i64 x7), (.int .i64 x8)] (.int .i64 x11) w12))
  fun (x13 : Int) =>
 rd Try.prog (Instr.loadAt 2 (.pointer (some (Addr.add x1 1)))) (.one (.int .i64)) w5 fun (x14 : Int) =>
 rd Try.prog (Instr.loadAt 2 (.pointer (some (Addr.add x3 1)))) (.one (.int .i64)) w5 fun (x15 : Int) =>
 flc bel w5 (fun w17 => F6 4 [(.int .i64 x7), (.int .i64 x8)] (.int .i64 x13) w17 ∧ True) (fun (w16 : World) =>
   call Try.prog 52 [(.int .i64 x14), (.int .i64 x15)] (.one (.one (.int .i64))) w16 fun (x18 : Int) (w19 : World) =>
 (bel w16 w19 ∧ F6 9 [(.int .i64 x14), (.int .i64 x15)] (.int .i64 x18) w19))
  fun (x20 : Int) =>
 rd Try.prog (Instr.loadAt 9 (.pointer (some (Addr.add x1 2)))) (.one .str) w5 fun (x21 : ByteArray) =>
 rd Try.prog (Instr.loadAt 9 (.pointer (some (Addr.add x3 2)))) (.one .str) w5 fun (x22 : ByteArray) =>
 flend bel w5 (fun w24 => F6 9 [(.int .i64 x14), (.int .i64 x15)] (.int .i64 x20) w24 ∧ F6 4 [(.int .i64 x7), (.int .i64 x8)] (.int .i64 x13) w24 ∧ True) fun w23 =>
 call Try.prog 53 [(.string x21), (.string x22)] (.one (.one (.int .i64))) w23 fun (x25 : Int) (w26 : World) =>
 wr Try.prog (Instr.buildSlice 62 3 #[(0, (.int .i64 x13)), (1, (.int .i64 x20)), (2, (.int .i64 x25))]) (.one .slice) w26 fun (x27 : (Option Addr × Nat × Nat)) (w28 : World) =>
 call Try.prog 50 [(.slice x27.1 x27.2.1 x27.2.2)] (.one (.one (.int .i64))) w28 fun (x29 : Int) (w30 : World) =>
 R (.int .i64 x29) w30
def H48 : Hints := ⟨[], [(1, 14)], [], []⟩
set_option maxRecDepth 100000 in
theorem S48_eq (a_0 : Int) (a_1 : Int) (a_2 : ByteArray) (b_0 : Int) (b_1 : Int) (b_2 : ByteArray) (w0 : World) (R : Value → World → Prop) : vcFn Try.prog H48 Try.f48 [(.agg #[(.int .i64 a_0), (.int .i64 a_1), (.string a_2)]), (.agg #[(.int .i64 b_0), (.int .i64 b_1), (.string b_2)])] w0 R = S48 a_0 a_1 a_2 b_0 b_1 b_2 w0 R := by kernel_rfl
set_option maxRecDepth 100000 in
theorem S48_calls (a_0 : Int) (a_1 : Int) (a_2 : ByteArray) (b_0 : Int) (b_1 : Int) (b_2 : ByteArray) (w0 : World) (R : Value → World → Prop) (h : S48 a_0 a_1 a_2 b_0 b_1 b_2 w0 R) : Calls Try.prog 48 #[(.agg #[(.int .i64 a_0), (.int .i64 a_1), (.string a_2)]), (.agg #[(.int .i64 b_0), (.int .i64 b_1), (.string b_2)])] w0 (ret R) := by
  rw [← S48_eq] at h; exact vcFn_sound follows_ Try.func48 h

/-- cmp.Or[int] -/
def S50 (vals_a : Option Addr) (vals_n : Nat) (vals_c : Nat) (w0 : World) (R : Value → World → Prop) : Prop :=
 loop (T := (Int × Unit)) (0, ()) w0 fun (again1 : (Int × Unit) → World → Prop) (s2 : (Int × Unit)) w3 => ∀ _ : Nat → Value,
 br (decide (s2.1 < ((vals_n : Nat) : Int))) (rdp Try.prog (Instr.indexAt 62 (.slice vals_a vals_n vals_c) (.int .i64 s2.1)) (.one .addr) fun (x4 : Addr) =>
 rd Try.prog (Instr.loadAt 3 (.pointer (some x4))) (.one (.int .i64)) w3 fun (x5 : Int) =>
 br (x5 != 0) (R (.int .i64 x5) w3)
 (z (IntKind.wrap .i64 (s2.1 + 1)) fun (z6 : Int) =>
 again1 (z6, ()) w3))
 (R (.int .i64 0) w3)
def H50 : Hints := ⟨[(2, 0, [(8, (.one (.int .i64)))])], [], [], []⟩
set_option maxRecDepth 100000 in
theorem S50_eq (vals_a : Option Addr) (vals_n : Nat) (vals_c : Nat) (w0 : World) (R : Value → World → Prop) : vcFn Try.prog H50 Try.f50 [(.slice vals_a vals_n vals_c)] w0 R = S50 vals_a vals_n vals_c w0 R := by kernel_rfl
set_option maxRecDepth 100000 in
theorem S50_calls (vals_a : Option Addr) (vals_n : Nat) (vals_c : Nat) (w0 : World) (R : Value → World → Prop) (h : S50 vals_a vals_n vals_c w0 R) : Calls Try.prog 50 #[(.slice vals_a vals_n vals_c)] w0 (ret R) := by
  rw [← S50_eq] at h; exact vcFn_sound follows_ Try.func50 h

/-- cmp.Compare[int] -/
def S51 (x_ : Int) (y_ : Int) (w0 : World) (R : Value → World → Prop) : Prop :=
 call Try.prog 56 [(.int .i64 x_)] (.one (.one .bool)) w0 fun (x1 : Bool) (w2 : World) =>
 call Try.prog 56 [(.int .i64 y_)] (.one (.one .bool)) w2 fun (x3 : Bool) (w4 : World) =>
 br x1 (br x3 (R (.int .i64 0) w4)
 (R (.int .i64 (-1)) w4))
 (br x3 (R (.int .i64 1) w4)
 (br (decide (x_ < y_)) (R (.int .i64 (-1)) w4)
 (br (decide (x_ > y_)) (R (.int .i64 1) w4)
 (R (.int .i64 0) w4))))
def H51 : Hints := ⟨[], [], [], []⟩
set_option maxRecDepth 100000 in
theorem S51_eq (x_ : Int) (y_ : Int) (w0 : World) (R : Value → World → Prop) : vcFn Try.prog H51 Try.f51 [(.int .i64 x_), (.int .i64 y_)] w0 R = S51 x_ y_ w0 R := by kernel_rfl
set_option maxRecDepth 100000 in
theorem S51_calls (x_ : Int) (y_ : Int) (w0 : World) (R : Value → World → Prop) (h : S51 x_ y_ w0 R) : Calls Try.prog 51 #[(.int .i64 x_), (.int .i64 y_)] w0 (ret R) := by
  rw [← S51_eq] at h; exact vcFn_sound follows_ Try.func51 h

/-- cmp.Compare[int64] -/
def S52 (x_ : Int) (y_ : Int) (w0 : World) (R : Value → World → Prop) : Prop :=
 call Try.prog 57 [(.int .i64 x_)] (.one (.one .bool)) w0 fun (x1 : Bool) (w2 : World) =>
 call Try.prog 57 [(.int .i64 y_)] (.one (.one .bool)) w2 fun (x3 : Bool) (w4 : World) =>
 br x1 (br x3 (R (.int .i64 0) w4)
 (R (.int .i64 (-1)) w4))
 (br x3 (R (.int .i64 1) w4)
 (br (decide (x_ < y_)) (R (.int .i64 (-1)) w4)
 (br (decide (x_ > y_)) (R (.int .i64 1) w4)
 (R (.int .i64 0) w4))))
def H52 : Hints := ⟨[], [], [], []⟩
set_option maxRecDepth 100000 in
theorem S52_eq (x_ : Int) (y_ : Int) (w0 : World) (R : Value → World → Prop) : vcFn Try.prog H52 Try.f52 [(.int .i64 x_), (.int .i64 y_)] w0 R = S52 x_ y_ w0 R := by kernel_rfl
set_option maxRecDepth 100000 in
theorem S52_calls (x_ : Int) (y_ : Int) (w0 : World) (R : Value → World → Prop) (h : S52 x_ y_ w0 R) : Calls Try.prog 52 #[(.int .i64 x_), (.int .i64 y_)] w0 (ret R) := by
  rw [← S52_eq] at h; exact vcFn_sound follows_ Try.func52 h

/-- cmp.Compare[string] -/
def S53 (x_ : ByteArray) (y_ : ByteArray) (w0 : World) (R : Value → World → Prop) : Prop :=
 call Try.prog 58 [(.string x_)] (.one (.one .bool)) w0 fun (x1 : Bool) (w2 : World) =>
 call Try.prog 58 [(.string y_)] (.one (.one .bool)) w2 fun (x3 : Bool) (w4 : World) =>
 br x1 (br x3 (R (.int .i64 0) w4)
 (R (.int .i64 (-1)) w4))
 (br x3 (R (.int .i64 1) w4)
 (rdp Try.prog (cmpS .lss 9 (.tmp 14) (.tmp 15) (.string x_) (.string y_)) (.one .bool) fun (x5 : Bool) =>
 br x5 (R (.int .i64 (-1)) w4)
 (rdp Try.prog (cmpS .gtr 9 (.tmp 17) (.tmp 18) (.string x_) (.string y_)) (.one .bool) fun (x6 : Bool) =>
 br x6 (R (.int .i64 1) w4)
 (R (.int .i64 0) w4))))
def H53 : Hints := ⟨[], [], [], []⟩
set_option maxRecDepth 100000 in
theorem S53_eq (x_ : ByteArray) (y_ : ByteArray) (w0 : World) (R : Value → World → Prop) : vcFn Try.prog H53 Try.f53 [(.string x_), (.string y_)] w0 R = S53 x_ y_ w0 R := by kernel_rfl
set_option maxRecDepth 100000 in
theorem S53_calls (x_ : ByteArray) (y_ : ByteArray) (w0 : World) (R : Value → World → Prop) (h : S53 x_ y_ w0 R) : Calls Try.prog 53 #[(.string x_), (.string y_)] w0 (ret R) := by
  rw [← S53_eq] at h; exact vcFn_sound follows_ Try.func53 h

/-- cmp.isNaN[int] -/
def S56 (x_ : Int) (w0 : World) (R : Value → World → Prop) : Prop :=
 R (.bool (x_ != x_)) w0
def H56 : Hints := ⟨[], [], [], []⟩
set_option maxRecDepth 100000 in
theorem S56_eq (x_ : Int) (w0 : World) (R : Value → World → Prop) : vcFn Try.prog H56 Try.f56 [(.int .i64 x_)] w0 R = S56 x_ w0 R := by kernel_rfl
set_option maxRecDepth 100000 in
theorem S56_calls (x_ : Int) (w0 : World) (R : Value → World → Prop) (h : S56 x_ w0 R) : Calls Try.prog 56 #[(.int .i64 x_)] w0 (ret R) := by
  rw [← S56_eq] at h; exact vcFn_sound follows_ Try.func56 h

/-- cmp.isNaN[int64] -/
def S57 (x_ : Int) (w0 : World) (R : Value → World → Prop) : Prop :=
 R (.bool (x_ != x_)) w0
def H57 : Hints := ⟨[], [], [], []⟩
set_option maxRecDepth 100000 in
theorem S57_eq (x_ : Int) (w0 : World) (R : Value → World → Prop) : vcFn Try.prog H57 Try.f57 [(.int .i64 x_)] w0 R = S57 x_ w0 R := by kernel_rfl
set_option maxRecDepth 100000 in
theorem S57_calls (x_ : Int) (w0 : World) (R : Value → World → Prop) (h : S57 x_ w0 R) : Calls Try.prog 57 #[(.int .i64 x_)] w0 (ret R) := by
  rw [← S57_eq] at h; exact vcFn_sound follows_ Try.func57 h

/-- cmp.isNaN[string] -/
def S58 (x_ : ByteArray) (w0 : World) (R : Value → World → Prop) : Prop :=
 rd Try.prog (cmpS .neq 9 (.tmp 3) (.tmp 4) (.string x_) (.string x_)) (.one .bool) w0 fun (x1 : Bool) =>
 R (.bool x1) w0
def H58 : Hints := ⟨[], [], [], []⟩
set_option maxRecDepth 100000 in
theorem S58_eq (x_ : ByteArray) (w0 : World) (R : Value → World → Prop) : vcFn Try.prog H58 Try.f58 [(.string x_)] w0 R = S58 x_ w0 R := by kernel_rfl
set_option maxRecDepth 100000 in
theorem S58_calls (x_ : ByteArray) (w0 : World) (R : Value → World → Prop) (h : S58 x_ w0 R) : Calls Try.prog 58 #[(.string x_)] w0 (ret R) := by
  rw [← S58_eq] at h; exact vcFn_sound follows_ Try.func58 h

/-- slices.CompareFunc[[]querylab/api.Value,[]querylab/api.Value,querylab/api.Value,querylab/api.Value] -/
def S47 (s1_a : Option Addr) (s1_n : Nat) (s1_c : Nat) (s2_a : Option Addr) (s2_n : Nat) (s2_c : Nat) (w0 : World) (R : Value → World → Prop) : Prop :=
 loop (T := (Int × Unit)) (0, ()) w0 fun (again1 : (Int × Unit) → World → Prop) (s2 : (Int × Unit)) w3 => ∀ _ : Nat → Value,
 br (decide (s2.1 < ((s1_n : Nat) : Int))) (rdp Try.prog (Instr.indexAt 24 (.slice s1_a s1_n s1_c) (.int .i64 s2.1)) (.one .addr) fun (x4 : Addr) =>
 rd Try.prog (Instr.loadAt 47 (.pointer (some x4))) (.agg [(.int .i64), (.int .i64), .str]) w3 fun (x5 : (Int × Int × ByteArray × Unit)) =>
 wr Try.prog (Instr.alloc 47 true (.tuple #[])) (.one .addr) w3 fun (x6 : Addr) (w7 : World) =>
 wu Try.prog (Instr.storeAt 47 (.pointer (some x6)) (.agg #[(.int .i64 x5.1), (.int .i64 x5.2.1), (.string x5.2.2.1)])) w7 fun (w8 : World) =>
 br (decide (s2.1 ≥ ((s2_n : Nat) : Int))) (R (.int .i64 1) w8)
 (rdp Try.prog (Instr.indexAt 24 (.slice s2_a s2_n s2_c) (.int .i64 s2.1)) (.one .addr) fun (x9 : Addr) =>
 rd Try.prog (Instr.loadAt 47 (.pointer (some x9))) (.agg [(.int .i64), (.int .i64), .str]) w8 fun (x10 : (Int × Int × ByteArray × Unit)) =>
 wr Try.prog (Instr.alloc 47 true (.tuple #[])) (.one .addr) w8 fun (x11 : Addr) (w12 : World) =>
 wu Try.prog (Instr.storeAt 47 (.pointer (some x11)) (.agg #[(.int .i64 x10.1), (.int .i64 x10.2.1), (.string x10.2.2.1)])) w12 fun (w13 : World) =>
 rd Try.prog (Instr.loadAt 47 (.pointer (some x6))) (.agg [(.int .i64), (.int .i64), .str]) w13 fun (x14 : (Int × Int × ByteArray × Unit)) =>
 rd Try.prog (Instr.loadAt 47 (.pointer (some x11))) (.agg [(.int .i64), (.int .i64), .str]) w13 fun (x15 : (Int × Int × ByteArray × Unit)) =>
 call Try.prog 48 [(.agg #[(.int .i64 x14.1), (.int .i64 x14.2.1), (.string x14.2.2.1)]), (.agg #[(.int .i64 x15.1), (.int .i64 x15.2.1), (.string x15.2.2.1)])] (.one (.one (.int .i64))) w13 fun (x16 : Int) (w17 : World) =>
 br (x16 != 0) (R (.int .i64 x16) w17)
 (z (IntKind.wrap .i64 (s2.1 + 1)) fun (z18 : Int) =>
 again1 (z18, ()) w17)))
 (br (decide (((s1_n : Nat) : Int) < ((s2_n : Nat) : Int))) (R (.int .i64 (-1)) w3)
 (R (.int .i64 0) w3))
def H47 : Hints := ⟨[(2, 0, [(13, (.one (.int .i64)))])], [], [], []⟩
set_option maxRecDepth 100000 in
theorem S47_eq (s1_a : Option Addr) (s1_n : Nat) (s1_c : Nat) (s2_a : Option Addr) (s2_n : Nat) (s2_c : Nat) (w0 : World) (R : Value → World → Prop) : vcFn Try.prog H47 Try.f47 [(.slice s1_a s1_n s1_c), (.slice s2_a s2_n s2_c), (.func (.func 48) #[] #[])] w0 R = S47 s1_a s1_n s1_c s2_a s2_n s2_c w0 R := by kernel_rfl
set_option maxRecDepth 100000 in
theorem S47_calls (s1_a : Option Addr) (s1_n : Nat) (s1_c : Nat) (s2_a : Option Addr) (s2_n : Nat) (s2_c : Nat) (w0 : World) (R : Value → World → Prop) (h : S47 s1_a s1_n s1_c s2_a s2_n s2_c w0 R) : Calls Try.prog 47 #[(.slice s1_a s1_n s1_c), (.slice s2_a s2_n s2_c), (.func (.func 48) #[] #[])] w0 (ret R) := by
  rw [← S47_eq] at h; exact vcFn_sound follows_ Try.func47 h

/-- querylab/value.CompareRows -/
def S39 (a_a : Option Addr) (a_n : Nat) (a_c : Nat) (b_a : Option Addr) (b_n : Nat) (b_c : Nat) (w0 : World) (R : Value → World → Prop) : Prop :=
 call Try.prog 47 [(.slice a_a a_n a_c), (.slice b_a b_n b_c), (.func (.func 48) #[] #[])] (.one (.one (.int .i64))) w0 fun (x1 : Int) (w2 : World) =>
 R (.int .i64 x1) w2
def H39 : Hints := ⟨[], [], [], []⟩
set_option maxRecDepth 100000 in
theorem S39_eq (a_a : Option Addr) (a_n : Nat) (a_c : Nat) (b_a : Option Addr) (b_n : Nat) (b_c : Nat) (w0 : World) (R : Value → World → Prop) : vcFn Try.prog H39 Try.f39 [(.slice a_a a_n a_c), (.slice b_a b_n b_c)] w0 R = S39 a_a a_n a_c b_a b_n b_c w0 R := by kernel_rfl
set_option maxRecDepth 100000 in
theorem S39_calls (a_a : Option Addr) (a_n : Nat) (a_c : Nat) (b_a : Option Addr) (b_n : Nat) (b_c : Nat) (w0 : World) (R : Value → World → Prop) (h : S39 a_a a_n a_c b_a b_n b_c w0 R) : Calls Try.prog 39 #[(.slice a_a a_n a_c), (.slice b_a b_n b_c)] w0 (ret R) := by
  rw [← S39_eq] at h; exact vcFn_sound follows_ Try.func39 h

/-- slices.Clone[[]querylab/api.Value,querylab/api.Value] -/
def S45 (s_a : Option Addr) (s_n : Nat) (s_c : Nat) (w0 : World) (R : Value → World → Prop) : Prop :=
 rd Try.prog (cmpS .eql 24 (.tmp 3) (.const (.slice none 0 0)) (.slice s_a s_n s_c) (.slice none 0 0)) (.one .bool) w0 fun (x1 : Bool) =>
 br x1 (R (.slice none 0 0) w0)
 (wr Try.prog (Instr.buildSlice 24 0 #[]) (.one .slice) w0 fun (x2 : (Option Addr × Nat × Nat)) (w3 : World) =>
 wr Try.prog (Builtin.append_ #[24, 24] 24 #[(.slice x2.1 x2.2.1 x2.2.2), (.slice s_a s_n s_c)]) (.one .slice) w3 fun (x4 : (Option Addr × Nat × Nat)) (w5 : World) =>
 R (.slice x4.1 x4.2.1 x4.2.2) w5)
def H45 : Hints := ⟨[], [], [], []⟩
set_option maxRecDepth 100000 in
theorem S45_eq (s_a : Option Addr) (s_n : Nat) (s_c : Nat) (w0 : World) (R : Value → World → Prop) : vcFn Try.prog H45 Try.f45 [(.slice s_a s_n s_c)] w0 R = S45 s_a s_n s_c w0 R := by kernel_rfl
set_option maxRecDepth 100000 in
theorem S45_calls (s_a : Option Addr) (s_n : Nat) (s_c : Nat) (w0 : World) (R : Value → World → Prop) (h : S45 s_a s_n s_c w0 R) : Calls Try.prog 45 #[(.slice s_a s_n s_c)] w0 (ret R) := by
  rw [← S45_eq] at h; exact vcFn_sound follows_ Try.func45 h

/-- querylab/bag.sorted -/
def S35 (rows_a : Option Addr) (rows_n : Nat) (rows_c : Nat) (w0 : World) (R : Value → World → Prop) : Prop :=
 loop (T := ((Option Addr × Nat × Nat) × Int × Unit)) ((none, 0, 0), 0, ()) w0 fun (again1 : ((Option Addr × Nat × Nat) × Int × Unit) → World → Prop) (s2 : ((Option Addr × Nat × Nat) × Int × Unit)) w3 => ∀ _ : Nat → Value,
 br (decide (s2.2.1 < ((rows_n : Nat) : Int))) (rdp Try.prog (Instr.indexAt 22 (.slice rows_a rows_n rows_c) (.int .i64 s2.2.1)) (.one .addr) fun (x4 : Addr) =>
 rd Try.prog (Instr.loadAt 24 (.pointer (some x4))) (.one .slice) w3 fun (x5 : (Option Addr × Nat × Nat)) =>
 call Try.prog 45 [(.slice x5.1 x5.2.1 x5.2.2)] (.one (.one .slice)) w3 fun (x6 : (Option Addr × Nat × Nat)) (w7 : World) =>
 wr Try.prog (Instr.buildSlice 22 1 #[(0, (.slice x6.1 x6.2.1 x6.2.2))]) (.one .slice) w7 fun (x8 : (Option Addr × Nat × Nat)) (w9 : World) =>
 wr Try.prog (Builtin.append_ #[22, 22] 22 #[(.slice s2.1.1 s2.1.2.1 s2.1.2.2), (.slice x8.1 x8.2.1 x8.2.2)]) (.one .slice) w9 fun (x10 : (Option Addr × Nat × Nat)) (w11 : World) =>
 z (IntKind.wrap .i64 (s2.2.1 + 1)) fun (z12 : Int) =>
 again1 ((x10.1, x10.2.1, x10.2.2), z12, ()) w11)
 (call Try.prog 46 [(.slice s2.1.1 s2.1.2.1 s2.1.2.2), (.func (.func 39) #[] #[])] (.many []) w3 fun (_x13 : (Unit)) (w14 : World) =>
 R (.slice s2.1.1 s2.1.2.1 s2.1.2.2) w14)
def H35 : Hints := ⟨[(2, 0, [(3, (.one .slice)), (8, (.one (.int .i64)))])], [], [], []⟩
set_option maxRecDepth 100000 in
theorem S35_eq (rows_a : Option Addr) (rows_n : Nat) (rows_c : Nat) (w0 : World) (R : Value → World → Prop) : vcFn Try.prog H35 Try.f35 [(.slice rows_a rows_n rows_c)] w0 R = S35 rows_a rows_n rows_c w0 R := by kernel_rfl
set_option maxRecDepth 100000 in
theorem S35_calls (rows_a : Option Addr) (rows_n : Nat) (rows_c : Nat) (w0 : World) (R : Value → World → Prop) (h : S35 rows_a rows_n rows_c w0 R) : Calls Try.prog 35 #[(.slice rows_a rows_n rows_c)] w0 (ret R) := by
  rw [← S35_eq] at h; exact vcFn_sound follows_ Try.func35 h

/-- querylab/bag.merged -/
def S28 (a_a : Option Addr) (a_n : Nat) (a_c : Nat) (b_a : Option Addr) (b_n : Nat) (b_c : Nat) (w0 : World) (R : Value → World → Prop) : Prop :=
 call Try.prog 35 [(.slice a_a a_n a_c)] (.one (.one .slice)) w0 fun (x1 : (Option Addr × Nat × Nat)) (w2 : World) =>
 call Try.prog 35 [(.slice b_a b_n b_c)] (.one (.one .slice)) w2 fun (x3 : (Option Addr × Nat × Nat)) (w4 : World) =>
 loop (T := ((Option Addr × Nat × Nat) × (Option Addr × Nat × Nat) × (Option Addr × Nat × Nat) × Unit)) ((x1.1, x1.2.1, x1.2.2), (x3.1, x3.2.1, x3.2.2), (none, 0, 0), ()) w4 fun (again5 : ((Option Addr × Nat × Nat) × (Option Addr × Nat × Nat) × (Option Addr × Nat × Nat) × Unit) → World → Prop) (s6 : ((Option Addr × Nat × Nat) × (Option Addr × Nat × Nat) × (Option Addr × Nat × Nat) × Unit)) w7 => ∀ _ : Nat → Value,
 join (T := (Unit)) (fun (_s9 : (Unit)) w10 => ∀ _ : Nat → Value,
 wr Try.prog (Instr.alloc 37 true (.tuple #[])) (.one .addr) w10 fun (x11 : Addr) (w12 : World) =>
 join (T := (Unit)) (fun (_s14 : (Unit)) w15 => ∀ _ : Nat → Value,
 join (T := ((Option Addr × Nat × Nat) × Unit)) (fun (s17 : ((Option Addr × Nat × Nat) × Unit)) w18 => ∀ _ : Nat → Value,
 join (T := ((Option Addr × Nat × Nat) × Unit)) (fun (s20 : ((Option Addr × Nat × Nat) × Unit)) w21 => ∀ _ : Nat → Value,
 rd Try.prog (Instr.loadAt 37 (.pointer (some x11))) (.agg [.slice, (.int .i64), (.int .i64)]) w21 fun (x22 : ((Option Addr × Nat × Nat) × Int × Int × Unit)) =>
 wr Try.prog (Instr.buildSlice 34 1 #[(0, (.agg #[(.slice x22.1.1 x22.1.2.1 x22.1.2.2), (.int .i64 x22.2.1), (.int .i64 x22.2.2.1)]))]) (.one .slice) w21 fun (x23 : (Option Addr × Nat × Nat)) (w24 : World) =>
 wr Try.prog (Builtin.append_ #[34, 34] 34 #[(.slice s6.2.2.1.1 s6.2.2.1.2.1 s6.2.2.1.2.2), (.slice x23.1 x23.2.1 x23.2.2)]) (.one .slice) w24 fun (x25 : (Option Addr × Nat × Nat)) (w26 : World) =>
 again5 ((s17.1.1, s17.1.2.1, s17.1.2.2), (s20.1.1, s20.1.2.1, s20.1.2.2), (x25.1, x25.2.1, x25.2.2), ()) w26)
  fun (K19 : ((Option Addr × Nat × Nat) × Unit) → World → Prop) =>
 loop (T := ((Option Addr × Nat × Nat) × Unit)) ((s6.2.1.1, s6.2.1.2.1, s6.2.1.2.2), ()) w18 fun (again27 : ((Option Addr × Nat × Nat) × Unit) → World → Prop) (s28 : ((Option Addr × Nat × Nat) × Unit)) w29 => ∀ _ : Nat → Value,
 drw w29 fun w30 =>
 br (decide (((s28.1.2.1 : Nat) : Int) > 0)) (rdp Try.prog (Instr.indexAt 22 (.slice s28.1.1 s28.1.2.1 s28.1.2.2) (.int .i64 0)) (.one .addr) fun (x31 : Addr) =>
 rd Try.prog (Instr.loadAt 24 (.pointer (some x31))) (.one .slice) w30 fun (x32 : (Option Addr × Nat × Nat)) =>
 rd Try.prog (Instr.loadAt 24 (.pointer (some x11))) (.one .slice) w30 fun (x33 : (Option Addr × Nat × Nat)) =>
 call Try.prog 39 [(.slice x32.1 x32.2.1 x32.2.2), (.slice x33.1 x33.2.1 x33.2.2)] (.one (.one (.int .i64))) w30 fun (x34 : Int) (w35 : World) =>
 br (x34 == 0) (rd Try.prog (Instr.loadAt 3 (.pointer (some (Addr.add x11 2)))) (.one (.int .i64)) w35 fun (x36 : Int) =>
 z (IntKind.wrap .i64 (x36 + 1)) fun (z37 : Int) =>
 wu Try.prog (Instr.storeAt 3 (.pointer (some (Addr.add x11 2))) (.int .i64 z37)) w35 fun (w38 : World) =>
 rdp Try.prog (Instr.sliceAt 22 (.slice s28.1.1 s28.1.2.1 s28.1.2.2) (some (.int .i64 1)) none none) (.one .slice) fun (x39 : (Option Addr × Nat × Nat)) =>
 again27 ((x39.1, x39.2.1, x39.2.2), ()) w38)
 (K19 ((s28.1.1, s28.1.2.1, s28.1.2.2), ()) w35))
 (K19 ((s28.1.1, s28.1.2.1, s28.1.2.2), ()) w30))
  fun (K16 : ((Option Addr × Nat × Nat) × Unit) → World → Prop) =>
 loop (T := ((Option Addr × Nat × Nat) × Unit)) ((s6.1.1, s6.1.2.1, s6.1.2.2), ()) w15 fun (again40 : ((Option Addr × Nat × Nat) × Unit) → World → Prop) (s41 : ((Option Addr × Nat × Nat) × Unit)) w42 => ∀ _ : Nat → Value,
 drw w42 fun w43 =>
 br (decide (((s41.1.2.1 : Nat) : Int) > 0)) (rdp Try.prog (Instr.indexAt 22 (.slice s41.1.1 s41.1.2.1 s41.1.2.2) (.int .i64 0)) (.one .addr) fun (x44 : Addr) =>
 rd Try.prog (Instr.loadAt 24 (.pointer (some x44))) (.one .slice) w43 fun (x45 : (Option Addr × Nat × Nat)) =>
 rd Try.prog (Instr.loadAt 24 (.pointer (some x11))) (.one .slice) w43 fun (x46 : (Option Addr × Nat × Nat)) =>
 call Try.prog 39 [(.slice x45.1 x45.2.1 x45.2.2), (.slice x46.1 x46.2.1 x46.2.2)] (.one (.one (.int .i64))) w43 fun (x47 : Int) (w48 : World) =>
 br (x47 == 0) (rd Try.prog (Instr.loadAt 3 (.pointer (some (Addr.add x11 1)))) (.one (.int .i64)) w48 fun (x49 : Int) =>
 z (IntKind.wrap .i64 (x49 + 1)) fun (z50 : Int) =>
 wu Try.prog (Instr.storeAt 3 (.pointer (some (Addr.add x11 1))) (.int .i64 z50)) w48 fun (w51 : World) =>
 rdp Try.prog (Instr.sliceAt 22 (.slice s41.1.1 s41.1.2.1 s41.1.2.2) (some (.int .i64 1)) none none) (.one .slice) fun (x52 : (Option Addr × Nat × Nat)) =>
 again40 ((x52.1, x52.2.1, x52.2.2), ()) w51)
 (K16 ((s41.1.1, s41.1.2.1, s41.1.2.2), ()) w48))
 (K16 ((s41.1.1, s41.1.2.1, s41.1.2.2), ()) w43))
  fun (K13 : (Unit) → World → Prop) =>
 join (T := (Bool × Unit)) (fun (s54 : (Bool × Unit)) w55 => ∀ _ : Nat → Value,
 br s54.1 (rdp Try.prog (Instr.indexAt 22 (.slice s6.1.1 s6.1.2.1 s6.1.2.2) (.int .i64 0)) (.one .addr) fun (x56 : Addr) =>
 rd Try.prog (Instr.loadAt 24 (.pointer (some x56))) (.one .slice) w55 fun (x57 : (Option Addr × Nat × Nat)) =>
 wu Try.prog (Instr.storeAt 24 (.pointer (some x11)) (.slice x57.1 x57.2.1 x57.2.2)) w55 fun (w58 : World) =>
 K13 (()) w58)
 (rdp Try.prog (Instr.indexAt 22 (.slice s6.2.1.1 s6.2.1.2.1 s6.2.1.2.2) (.int .i64 0)) (.one .addr) fun (x59 : Addr) =>
 rd Try.prog (Instr.loadAt 24 (.pointer (some x59))) (.one .slice) w55 fun (x60 : (Option Addr × Nat × Nat)) =>
 wu Try.prog (Instr.storeAt 24 (.pointer (some x11)) (.slice x60.1 x60.2.1 x60.2.2)) w55 fun (w61 : World) =>
 K13 (()) w61))
  fun (K53 : (Bool × Unit) → World → Prop) =>
 drw w12 fun w62 =>
 br (((s6.2.1.2.1 : Nat) : Int) == 0) (K53 (true, ()) w62)
 (br (decide (((s6.1.2.1 : Nat) : Int) > 0)) (rdp Try.prog (Instr.indexAt 22 (.slice s6.1.1 s6.1.2.1 s6.1.2.2) (.int .i64 0)) (.one .addr) fun (x63 : Addr) =>
 rd Try.prog (Instr.loadAt 24 (.pointer (some x63))) (.one .slice) w62 fun (x64 : (Option Addr × Nat × Nat)) =>
 rdp Try.prog (Instr.indexAt 22 (.slice s6.2.1.1 s6.2.1.2.1 s6.2.1.2.2) (.int .i64 0)) (.one .addr) fun (x65 : Addr) =>
 rd Try.prog (Instr.loadAt 24 (.pointer (some x65))) (.one .slice) w62 fun (x66 : (Option Addr × Nat × Nat)) =>
 call Try.prog 39 [(.slice x64.1 x64.2.1 x64.2.2), (.slice x66.1 x66.2.1 x66.2.2)] (.one (.one (.int .i64))) w62 fun (x67 : Int) (w68 : World) =>
 K53 ((decide (x67 ≤ 0)), ()) w68)
 (K53 (false, ()) w62)))
  fun (K8 : (Unit) → World → Prop) =>
 br (decide (((s6.1.2.1 : Nat) : Int) > 0)) (K8 (()) w7)
 (br (decide (((s6.2.1.2.1 : Nat) : Int) > 0)) (K8 (()) w7)
 (R (.slice s6.2.2.1.1 s6.2.2.1.2.1 s6.2.2.1.2.2) w7))
def H28 : Hints := ⟨[(2, 0, [(5, (.one .slice)), (6, (.one .slice)), (7, (.one .slice))]), (0, 20, []), (3, 5, [(38, (.one .bool))]), (0, 38, []), (2, 2, [(5, (.one .slice))]), (1, 2, [(5, (.one .slice))]), (2, 4, [(6, (.one .slice))]), (1, 4, [(6, (.one .slice))])], [(5, 14), (8, 9), (11, 9)], [], []⟩
set_option maxRecDepth 100000 in
theorem S28_eq (a_a : Option Addr) (a_n : Nat) (a_c : Nat) (b_a : Option Addr) (b_n : Nat) (b_c : Nat) (w0 : World) (R : Value → World → Prop) : vcFn Try.prog H28 Try.f28 [(.slice a_a a_n a_c), (.slice b_a b_n b_c)] w0 R = S28 a_a a_n a_c b_a b_n b_c w0 R := by kernel_rfl
set_option maxRecDepth 100000 in
theorem S28_calls (a_a : Option Addr) (a_n : Nat) (a_c : Nat) (b_a : Option Addr) (b_n : Nat) (b_c : Nat) (w0 : World) (R : Value → World → Prop) (h : S28 a_a a_n a_c b_a b_n b_c w0 R) : Calls Try.prog 28 #[(.slice a_a a_n a_c), (.slice b_a b_n b_c)] w0 (ret R) := by
  rw [← S28_eq] at h; exact vcFn_sound follows_ Try.func28 h

/-- querylab/bag.once -/
def S38 (is_ : Bool) (w0 : World) (R : Value → World → Prop) : Prop :=
 br is_ (R (.int .i64 1) w0)
 (R (.int .i64 0) w0)
def H38 : Hints := ⟨[], [], [], []⟩
set_option maxRecDepth 100000 in
theorem S38_eq (is_ : Bool) (w0 : World) (R : Value → World → Prop) : vcFn Try.prog H38 Try.f38 [(.bool is_)] w0 R = S38 is_ w0 R := by kernel_rfl
set_option maxRecDepth 100000 in
theorem S38_calls (is_ : Bool) (w0 : World) (R : Value → World → Prop) (h : S38 is_ w0 R) : Calls Try.prog 38 #[(.bool is_)] w0 (ret R) := by
  rw [← S38_eq] at h; exact vcFn_sound follows_ Try.func38 h

/-- querylab/bag.Union$1 -/
def S40 (r_0a : Option Addr) (r_0n : Nat) (r_0c : Nat) (r_1 : Int) (r_2 : Int) (cap0 : Addr) (w0 : World) (R : Value → World → Prop) : Prop :=
 wr Try.prog (Instr.box 37 (.agg #[(.slice r_0a r_0n r_0c), (.int .i64 r_1), (.int .i64 r_2)])) (.one .addr) w0 fun (x1 : Addr) (w2 : World) =>
 rd Try.prog (Instr.loadAt 4 (.pointer (some cap0))) (.one .bool) w2 fun (x3 : Bool) =>
 br x3 (rd Try.prog (Instr.loadAt 3 (.pointer (some (Addr.add x1 1)))) (.one (.int .i64)) w2 fun (x4 : Int) =>
 rd Try.prog (Instr.loadAt 3 (.pointer (some (Addr.add x1 2)))) (.one (.int .i64)) w2 fun (x5 : Int) =>
 z (IntKind.wrap .i64 (x4 + x5)) fun (z6 : Int) =>
 R (.int .i64 z6) w2)
 (R (.int .i64 1) w2)
def H40 : Hints := ⟨[], [], [], []⟩
set_option maxRecDepth 100000 in
theorem S40_eq (r_0a : Option Addr) (r_0n : Nat) (r_0c : Nat) (r_1 : Int) (r_2 : Int) (cap0 : Addr) (w0 : World) (R : Value → World → Prop) : vcFn Try.prog H40 Try.f40 [(.agg #[(.slice r_0a r_0n r_0c), (.int .i64 r_1), (.int .i64 r_2)]), (.pointer (some cap0))] w0 R = S40 r_0a r_0n r_0c r_1 r_2 cap0 w0 R := by kernel_rfl
set_option maxRecDepth 100000 in
theorem S40_calls (r_0a : Option Addr) (r_0n : Nat) (r_0c : Nat) (r_1 : Int) (r_2 : Int) (cap0 : Addr) (w0 : World) (R : Value → World → Prop) (h : S40 r_0a r_0n r_0c r_1 r_2 cap0 w0 R) : Calls Try.prog 40 #[(.agg #[(.slice r_0a r_0n r_0c), (.int .i64 r_1), (.int .i64 r_2)]), (.pointer (some cap0))] w0 (ret R) := by
  rw [← S40_eq] at h; exact vcFn_sound follows_ Try.func40 h

/-- querylab/bag.Except$1 -/
def S37 (r_0a : Option Addr) (r_0n : Nat) (r_0c : Nat) (r_1 : Int) (r_2 : Int) (cap0 : Addr) (w0 : World) (R : Value → World → Prop) : Prop :=
 wr Try.prog (Instr.box 37 (.agg #[(.slice r_0a r_0n r_0c), (.int .i64 r_1), (.int .i64 r_2)])) (.one .addr) w0 fun (x1 : Addr) (w2 : World) =>
 rd Try.prog (Instr.loadAt 4 (.pointer (some cap0))) (.one .bool) w2 fun (x3 : Bool) =>
 br x3 (rd Try.prog (Instr.loadAt 3 (.pointer (some (Addr.add x1 1)))) (.one (.int .i64)) w2 fun (x4 : Int) =>
 rd Try.prog (Instr.loadAt 3 (.pointer (some (Addr.add x1 2)))) (.one (.int .i64)) w2 fun (x5 : Int) =>
 z (IntKind.wrap .i64 (x4 - x5)) fun (z6 : Int) =>
 z (if z6 > 0 then z6 else 0) fun (z7 : Int) =>
 R (.int .i64 z7) w2)
 (rd Try.prog (Instr.loadAt 3 (.pointer (some (Addr.add x1 1)))) (.one (.int .i64)) w2 fun (x8 : Int) =>
 br (decide (x8 > 0)) (rd Try.prog (Instr.loadAt 3 (.pointer (some (Addr.add x1 2)))) (.one (.int .i64)) w2 fun (x9 : Int) =>
 call Try.prog 38 [(.bool (x9 == 0))] (.one (.one (.int .i64))) w2 fun (x10 : Int) (w11 : World) =>
 R (.int .i64 x10) w11)
 (call Try.prog 38 [(.bool false)] (.one (.one (.int .i64))) w2 fun (x12 : Int) (w13 : World) =>
 R (.int .i64 x12) w13))
def H37 : Hints := ⟨[], [], [], []⟩
set_option maxRecDepth 100000 in
theorem S37_eq (r_0a : Option Addr) (r_0n : Nat) (r_0c : Nat) (r_1 : Int) (r_2 : Int) (cap0 : Addr) (w0 : World) (R : Value → World → Prop) : vcFn Try.prog H37 Try.f37 [(.agg #[(.slice r_0a r_0n r_0c), (.int .i64 r_1), (.int .i64 r_2)]), (.pointer (some cap0))] w0 R = S37 r_0a r_0n r_0c r_1 r_2 cap0 w0 R := by kernel_rfl
set_option maxRecDepth 100000 in
theorem S37_calls (r_0a : Option Addr) (r_0n : Nat) (r_0c : Nat) (r_1 : Int) (r_2 : Int) (cap0 : Addr) (w0 : World) (R : Value → World → Prop) (h : S37 r_0a r_0n r_0c r_1 r_2 cap0 w0 R) : Calls Try.prog 37 #[(.agg #[(.slice r_0a r_0n r_0c), (.int .i64 r_1), (.int .i64 r_2)]), (.pointer (some cap0))] w0 (ret R) := by
  rw [← S37_eq] at h; exact vcFn_sound follows_ Try.func37 h

/-- querylab/bag.Intersect$1 -/
def S41 (r_0a : Option Addr) (r_0n : Nat) (r_0c : Nat) (r_1 : Int) (r_2 : Int) (cap0 : Addr) (w0 : World) (R : Value → World → Prop) : Prop :=
 wr Try.prog (Instr.box 37 (.agg #[(.slice r_0a r_0n r_0c), (.int .i64 r_1), (.int .i64 r_2)])) (.one .addr) w0 fun (x1 : Addr) (w2 : World) =>
 rd Try.prog (Instr.loadAt 4 (.pointer (some cap0))) (.one .bool) w2 fun (x3 : Bool) =>
 br x3 (rd Try.prog (Instr.loadAt 3 (.pointer (some (Addr.add x1 1)))) (.one (.int .i64)) w2 fun (x4 : Int) =>
 rd Try.prog (Instr.loadAt 3 (.pointer (some (Addr.add x1 2)))) (.one (.int .i64)) w2 fun (x5 : Int) =>
 z (if x5 < x4 then x5 else x4) fun (z6 : Int) =>
 R (.int .i64 z6) w2)
 (rd Try.prog (Instr.loadAt 3 (.pointer (some (Addr.add x1 1)))) (.one (.int .i64)) w2 fun (x7 : Int) =>
 br (decide (x7 > 0)) (rd Try.prog (Instr.loadAt 3 (.pointer (some (Addr.add x1 2)))) (.one (.int .i64)) w2 fun (x8 : Int) =>
 call Try.prog 38 [(.bool (decide (x8 > 0)))] (.one (.one (.int .i64))) w2 fun (x9 : Int) (w10 : World) =>
 R (.int .i64 x9) w10)
 (call Try.prog 38 [(.bool false)] (.one (.one (.int .i64))) w2 fun (x11 : Int) (w12 : World) =>
 R (.int .i64 x11) w12))
def H41 : Hints := ⟨[], [], [], []⟩
set_option maxRecDepth 100000 in
theorem S41_eq (r_0a : Option Addr) (r_0n : Nat) (r_0c : Nat) (r_1 : Int) (r_2 : Int) (cap0 : Addr) (w0 : World) (R : Value → World → Prop) : vcFn Try.prog H41 Try.f41 [(.agg #[(.slice r_0a r_0n r_0c), (.int .i64 r_1), (.int .i64 r_2)]), (.pointer (some cap0))] w0 R = S41 r_0a r_0n r_0c r_1 r_2 cap0 w0 R := by kernel_rfl
set_option maxRecDepth 100000 in
theorem S41_calls (r_0a : Option Addr) (r_0n : Nat) (r_0c : Nat) (r_1 : Int) (r_2 : Int) (cap0 : Addr) (w0 : World) (R : Value → World → Prop) (h : S41 r_0a r_0n r_0c r_1 r_2 cap0 w0 R) : Calls Try.prog 41 #[(.agg #[(.slice r_0a r_0n r_0c), (.int .i64 r_1), (.int .i64 r_2)]), (.pointer (some cap0))] w0 (ret R) := by
  rw [← S41_eq] at h; exact vcFn_sound follows_ Try.func41 h

/-- querylab/bag.Same$1 -/
def S30 (r_0a : Option Addr) (r_0n : Nat) (r_0c : Nat) (r_1 : Int) (r_2 : Int) (w0 : World) (R : Value → World → Prop) : Prop :=
 wr Try.prog (Instr.box 37 (.agg #[(.slice r_0a r_0n r_0c), (.int .i64 r_1), (.int .i64 r_2)])) (.one .addr) w0 fun (x1 : Addr) (w2 : World) =>
 rd Try.prog (Instr.loadAt 3 (.pointer (some (Addr.add x1 1)))) (.one (.int .i64)) w2 fun (x3 : Int) =>
 rd Try.prog (Instr.loadAt 3 (.pointer (some (Addr.add x1 2)))) (.one (.int .i64)) w2 fun (x4 : Int) =>
 R (.bool (x3 != x4)) w2
def H30 : Hints := ⟨[], [], [], []⟩
set_option maxRecDepth 100000 in
theorem S30_eq (r_0a : Option Addr) (r_0n : Nat) (r_0c : Nat) (r_1 : Int) (r_2 : Int) (w0 : World) (R : Value → World → Prop) : vcFn Try.prog H30 Try.f30 [(.agg #[(.slice r_0a r_0n r_0c), (.int .i64 r_1), (.int .i64 r_2)])] w0 R = S30 r_0a r_0n r_0c r_1 r_2 w0 R := by kernel_rfl
set_option maxRecDepth 100000 in
theorem S30_calls (r_0a : Option Addr) (r_0n : Nat) (r_0c : Nat) (r_1 : Int) (r_2 : Int) (w0 : World) (R : Value → World → Prop) (h : S30 r_0a r_0n r_0c r_1 r_2 w0 R) : Calls Try.prog 30 #[(.agg #[(.slice r_0a r_0n r_0c), (.int .i64 r_1), (.int .i64 r_2)])] w0 (ret R) := by
  rw [← S30_eq] at h; exact vcFn_sound follows_ Try.func30 h

/-- querylab/bag.Contains$1 -/
def S31 (r_0a : Option Addr) (r_0n : Nat) (r_0c : Nat) (r_1 : Int) (r_2 : Int) (w0 : World) (R : Value → World → Prop) : Prop :=
 wr Try.prog (Instr.box 37 (.agg #[(.slice r_0a r_0n r_0c), (.int .i64 r_1), (.int .i64 r_2)])) (.one .addr) w0 fun (x1 : Addr) (w2 : World) =>
 rd Try.prog (Instr.loadAt 3 (.pointer (some (Addr.add x1 1)))) (.one (.int .i64)) w2 fun (x3 : Int) =>
 rd Try.prog (Instr.loadAt 3 (.pointer (some (Addr.add x1 2)))) (.one (.int .i64)) w2 fun (x4 : Int) =>
 R (.bool (decide (x3 < x4))) w2
def H31 : Hints := ⟨[], [], [], []⟩
set_option maxRecDepth 100000 in
theorem S31_eq (r_0a : Option Addr) (r_0n : Nat) (r_0c : Nat) (r_1 : Int) (r_2 : Int) (w0 : World) (R : Value → World → Prop) : vcFn Try.prog H31 Try.f31 [(.agg #[(.slice r_0a r_0n r_0c), (.int .i64 r_1), (.int .i64 r_2)])] w0 R = S31 r_0a r_0n r_0c r_1 r_2 w0 R := by kernel_rfl
set_option maxRecDepth 100000 in
theorem S31_calls (r_0a : Option Addr) (r_0n : Nat) (r_0c : Nat) (r_1 : Int) (r_2 : Int) (w0 : World) (R : Value → World → Prop) (h : S31 r_0a r_0n r_0c r_1 r_2 w0 R) : Calls Try.prog 31 #[(.agg #[(.slice r_0a r_0n r_0c), (.int .i64 r_1), (.int .i64 r_2)])] w0 (ret R) := by
  rw [← S31_eq] at h; exact vcFn_sound follows_ Try.func31 h

/-- querylab/bag.combined -/
def S36u (a_a : Option Addr) (a_n : Nat) (a_c : Nat) (b_a : Option Addr) (b_n : Nat) (b_c : Nat) (cap2_0 : Addr) (w0 : World) (R : Value → World → Prop) : Prop :=
 call Try.prog 28 [(.slice a_a a_n a_c), (.slice b_a b_n b_c)] (.one (.one .slice)) w0 fun (x1 : (Option Addr × Nat × Nat)) (w2 : World) =>
 loop (T := ((Option Addr × Nat × Nat) × Int × Unit)) ((none, 0, 0), 0, ()) w2 fun (again3 : ((Option Addr × Nat × Nat) × Int × Unit) → World → Prop) (s4 : ((Option Addr × Nat × Nat) × Int × Unit)) w5 => ∀ _ : Nat → Value,
 br (decide (s4.2.1 < ((x1.2.1 : Nat) : Int))) (rdp Try.prog (Instr.indexAt 34 (.slice x1.1 x1.2.1 x1.2.2) (.int .i64 s4.2.1)) (.one .addr) fun (x6 : Addr) =>
 rd Try.prog (Instr.loadAt 37 (.pointer (some x6))) (.agg [.slice, (.int .i64), (.int .i64)]) w5 fun (x7 : ((Option Addr × Nat × Nat) × Int × Int × Unit)) =>
 wr Try.prog (Instr.alloc 37 true (.tuple #[])) (.one .addr) w5 fun (x8 : Addr) (w9 : World) =>
 wu Try.prog (Instr.storeAt 37 (.pointer (some x8)) (.agg #[(.slice x7.1.1 x7.1.2.1 x7.1.2.2), (.int .i64 x7.2.1), (.int .i64 x7.2.2.1)])) w9 fun (w10 : World) =>
 rd Try.prog (Instr.loadAt 37 (.pointer (some x8))) (.agg [.slice, (.int .i64), (.int .i64)]) w10 fun (x11 : ((Option Addr × Nat × Nat) × Int × Int × Unit)) =>
 call Try.prog 40 [(.agg #[(.slice x11.1.1 x11.1.2.1 x11.1.2.2), (.int .i64 x11.2.1), (.int .i64 x11.2.2.1)]), (.pointer (some cap2_0))] (.one (.one (.int .i64))) w10 fun (x12 : Int) (w13 : World) =>
 loop (T := ((Option Addr × Nat × Nat) × Int × Unit)) ((s4.1.1, s4.1.2.1, s4.1.2.2), 0, ()) w13 fun (again14 : ((Option Addr × Nat × Nat) × Int × Unit) → World → Prop) (s15 : ((Option Addr × Nat × Nat) × Int × Unit)) w16 => ∀ _ : Nat → Value,
 br (decide (s15.2.1 < x12)) (rd Try.prog (Instr.loadAt 24 (.pointer (some x8))) (.one .slice) w16 fun (x17 : (Option Addr × Nat × Nat)) =>
 call Try.prog 45 [(.slice x17.1 x17.2.1 x17.2.2)] (.one (.one .slice)) w16 fun (x18 : (Option Addr × Nat × Nat)) (w19 : World) =>
 wr Try.prog (Instr.buildSlice 22 1 #[(0, (.slice x18.1 x18.2.1 x18.2.2))]) (.one .slice) w19 fun (x20 : (Option Addr × Nat × Nat)) (w21 : World) =>
 wr Try.prog (Builtin.append_ #[22, 22] 22 #[(.slice s15.1.1 s15.1.2.1 s15.1.2.2), (.slice x20.1 x20.2.1 x20.2.2)]) (.one .slice) w21 fun (x22 : (Option Addr × Nat × Nat)) (w23 : World) =>
 z (IntKind.wrap .i64 (s15.2.1 + 1)) fun (z24 : Int) =>
 again14 ((x22.1, x22.2.1, x22.2.2), z24, ()) w23)
 (z (IntKind.wrap .i64 (s4.2.1 + 1)) fun (z25 : Int) =>
 again3 ((s15.1.1, s15.1.2.1, s15.1.2.2), z25, ()) w16))
 (R (.slice s4.1.1 s4.1.2.1 s4.1.2.2) w5)
def H36u : Hints := ⟨[(2, 0, [(7, (.one .slice)), (14, (.one (.int .i64)))]), (2, 2, [(7, (.one .slice)), (21, (.one (.int .i64)))])], [], [], []⟩
set_option maxRecDepth 100000 in
theorem S36u_eq (a_a : Option Addr) (a_n : Nat) (a_c : Nat) (b_a : Option Addr) (b_n : Nat) (b_c : Nat) (cap2_0 : Addr) (w0 : World) (R : Value → World → Prop) : vcFn Try.prog H36u Try.f36 [(.slice a_a a_n a_c), (.slice b_a b_n b_c), (.func (.func 40) #[] #[(.pointer (some cap2_0))])] w0 R = S36u a_a a_n a_c b_a b_n b_c cap2_0 w0 R := by kernel_rfl
set_option maxRecDepth 100000 in
theorem S36u_calls (a_a : Option Addr) (a_n : Nat) (a_c : Nat) (b_a : Option Addr) (b_n : Nat) (b_c : Nat) (cap2_0 : Addr) (w0 : World) (R : Value → World → Prop) (h : S36u a_a a_n a_c b_a b_n b_c cap2_0 w0 R) : Calls Try.prog 36 #[(.slice a_a a_n a_c), (.slice b_a b_n b_c), (.func (.func 40) #[] #[(.pointer (some cap2_0))])] w0 (ret R) := by
  rw [← S36u_eq] at h; exact vcFn_sound follows_ Try.func36 h

/-- querylab/bag.combined -/
def S36e (a_a : Option Addr) (a_n : Nat) (a_c : Nat) (b_a : Option Addr) (b_n : Nat) (b_c : Nat) (cap2_0 : Addr) (w0 : World) (R : Value → World → Prop) : Prop :=
 call Try.prog 28 [(.slice a_a a_n a_c), (.slice b_a b_n b_c)] (.one (.one .slice)) w0 fun (x1 : (Option Addr × Nat × Nat)) (w2 : World) =>
 loop (T := ((Option Addr × Nat × Nat) × Int × Unit)) ((none, 0, 0), 0, ()) w2 fun (again3 : ((Option Addr × Nat × Nat) × Int × Unit) → World → Prop) (s4 : ((Option Addr × Nat × Nat) × Int × Unit)) w5 => ∀ _ : Nat → Value,
 br (decide (s4.2.1 < ((x1.2.1 : Nat) : Int))) (rdp Try.prog (Instr.indexAt 34 (.slice x1.1 x1.2.1 x1.2.2) (.int .i64 s4.2.1)) (.one .addr) fun (x6 : Addr) =>
 rd Try.prog (Instr.loadAt 37 (.pointer (some x6))) (.agg [.slice, (.int .i64), (.int .i64)]) w5 fun (x7 : ((Option Addr × Nat × Nat) × Int × Int × Unit)) =>
 wr Try.prog (Instr.alloc 37 true (.tuple #[])) (.one .addr) w5 fun (x8 : Addr) (w9 : World) =>
 wu Try.prog (Instr.storeAt 37 (.pointer (some x8)) (.agg #[(.slice x7.1.1 x7.1.2.1 x7.1.2.2), (.int .i64 x7.2.1), (.int .i64 x7.2.2.1)])) w9 fun (w10 : World) =>
 rd Try.prog (Instr.loadAt 37 (.pointer (some x8))) (.agg [.slice, (.int .i64), (.int .i64)]) w10 fun (x11 : ((Option Addr × Nat × Nat) × Int × Int × Unit)) =>
 call Try.prog 37 [(.agg #[(.slice x11.1.1 x11.1.2.1 x11.1.2.2), (.int .i64 x11.2.1), (.int .i64 x11.2.2.1)]), (.pointer (some cap2_0))] (.one (.one (.int .i64))) w10 fun (x12 : Int) (w13 : World) =>
 loop (T := ((Option Addr × Nat × Nat) × Int × Unit)) ((s4.1.1, s4.1.2.1, s4.1.2.2), 0, ()) w13 fun (again14 : ((Option Addr × Nat × Nat) × Int × Unit) → World → Prop) (s15 : ((Option Addr × Nat × Nat) × Int × Unit)) w16 => ∀ _ : Nat → Value,
 br (decide (s15.2.1 < x12)) (rd Try.prog (Instr.loadAt 24 (.pointer (some x8))) (.one .slice) w16 fun (x17 : (Option Addr × Nat × Nat)) =>
 call Try.prog 45 [(.slice x17.1 x17.2.1 x17.2.2)] (.one (.one .slice)) w16 fun (x18 : (Option Addr × Nat × Nat)) (w19 : World) =>
 wr Try.prog (Instr.buildSlice 22 1 #[(0, (.slice x18.1 x18.2.1 x18.2.2))]) (.one .slice) w19 fun (x20 : (Option Addr × Nat × Nat)) (w21 : World) =>
 wr Try.prog (Builtin.append_ #[22, 22] 22 #[(.slice s15.1.1 s15.1.2.1 s15.1.2.2), (.slice x20.1 x20.2.1 x20.2.2)]) (.one .slice) w21 fun (x22 : (Option Addr × Nat × Nat)) (w23 : World) =>
 z (IntKind.wrap .i64 (s15.2.1 + 1)) fun (z24 : Int) =>
 again14 ((x22.1, x22.2.1, x22.2.2), z24, ()) w23)
 (z (IntKind.wrap .i64 (s4.2.1 + 1)) fun (z25 : Int) =>
 again3 ((s15.1.1, s15.1.2.1, s15.1.2.2), z25, ()) w16))
 (R (.slice s4.1.1 s4.1.2.1 s4.1.2.2) w5)
def H36e : Hints := ⟨[(2, 0, [(7, (.one .slice)), (14, (.one (.int .i64)))]), (2, 2, [(7, (.one .slice)), (21, (.one (.int .i64)))])], [], [], []⟩
set_option maxRecDepth 100000 in
theorem S36e_eq (a_a : Option Addr) (a_n : Nat) (a_c : Nat) (b_a : Option Addr) (b_n : Nat) (b_c : Nat) (cap2_0 : Addr) (w0 : World) (R : Value → World → Prop) : vcFn Try.prog H36e Try.f36 [(.slice a_a a_n a_c), (.slice b_a b_n b_c), (.func (.func 37) #[] #[(.pointer (some cap2_0))])] w0 R = S36e a_a a_n a_c b_a b_n b_c cap2_0 w0 R := by kernel_rfl
set_option maxRecDepth 100000 in
theorem S36e_calls (a_a : Option Addr) (a_n : Nat) (a_c : Nat) (b_a : Option Addr) (b_n : Nat) (b_c : Nat) (cap2_0 : Addr) (w0 : World) (R : Value → World → Prop) (h : S36e a_a a_n a_c b_a b_n b_c cap2_0 w0 R) : Calls Try.prog 36 #[(.slice a_a a_n a_c), (.slice b_a b_n b_c), (.func (.func 37) #[] #[(.pointer (some cap2_0))])] w0 (ret R) := by
  rw [← S36e_eq] at h; exact vcFn_sound follows_ Try.func36 h

/-- querylab/bag.combined -/
def S36i (a_a : Option Addr) (a_n : Nat) (a_c : Nat) (b_a : Option Addr) (b_n : Nat) (b_c : Nat) (cap2_0 : Addr) (w0 : World) (R : Value → World → Prop) : Prop :=
 call Try.prog 28 [(.slice a_a a_n a_c), (.slice b_a b_n b_c)] (.one (.one .slice)) w0 fun (x1 : (Option Addr × Nat × Nat)) (w2 : World) =>
 loop (T := ((Option Addr × Nat × Nat) × Int × Unit)) ((none, 0, 0), 0, ()) w2 fun (again3 : ((Option Addr × Nat × Nat) × Int × Unit) → World → Prop) (s4 : ((Option Addr × Nat × Nat) × Int × Unit)) w5 => ∀ _ : Nat → Value,
 br (decide (s4.2.1 < ((x1.2.1 : Nat) : Int))) (rdp Try.prog (Instr.indexAt 34 (.slice x1.1 x1.2.1 x1.2.2) (.int .i64 s4.2.1)) (.one .addr) fun (x6 : Addr) =>
 rd Try.prog (Instr.loadAt 37 (.pointer (some x6))) (.agg [.slice, (.int .i64), (.int .i64)]) w5 fun (x7 : ((Option Addr × Nat × Nat) × Int × Int × Unit)) =>
 wr Try.prog (Instr.alloc 37 true (.tuple #[])) (.one .addr) w5 fun (x8 : Addr) (w9 : World) =>
 wu Try.prog (Instr.storeAt 37 (.pointer (some x8)) (.agg #[(.slice x7.1.1 x7.1.2.1 x7.1.2.2), (.int .i64 x7.2.1), (.int .i64 x7.2.2.1)])) w9 fun (w10 : World) =>
 rd Try.prog (Instr.loadAt 37 (.pointer (some x8))) (.agg [.slice, (.int .i64), (.int .i64)]) w10 fun (x11 : ((Option Addr × Nat × Nat) × Int × Int × Unit)) =>
 call Try.prog 41 [(.agg #[(.slice x11.1.1 x11.1.2.1 x11.1.2.2), (.int .i64 x11.2.1), (.int .i64 x11.2.2.1)]), (.pointer (some cap2_0))] (.one (.one (.int .i64))) w10 fun (x12 : Int) (w13 : World) =>
 loop (T := ((Option Addr × Nat × Nat) × Int × Unit)) ((s4.1.1, s4.1.2.1, s4.1.2.2), 0, ()) w13 fun (again14 : ((Option Addr × Nat × Nat) × Int × Unit) → World → Prop) (s15 : ((Option Addr × Nat × Nat) × Int × Unit)) w16 => ∀ _ : Nat → Value,
 br (decide (s15.2.1 < x12)) (rd Try.prog (Instr.loadAt 24 (.pointer (some x8))) (.one .slice) w16 fun (x17 : (Option Addr × Nat × Nat)) =>
 call Try.prog 45 [(.slice x17.1 x17.2.1 x17.2.2)] (.one (.one .slice)) w16 fun (x18 : (Option Addr × Nat × Nat)) (w19 : World) =>
 wr Try.prog (Instr.buildSlice 22 1 #[(0, (.slice x18.1 x18.2.1 x18.2.2))]) (.one .slice) w19 fun (x20 : (Option Addr × Nat × Nat)) (w21 : World) =>
 wr Try.prog (Builtin.append_ #[22, 22] 22 #[(.slice s15.1.1 s15.1.2.1 s15.1.2.2), (.slice x20.1 x20.2.1 x20.2.2)]) (.one .slice) w21 fun (x22 : (Option Addr × Nat × Nat)) (w23 : World) =>
 z (IntKind.wrap .i64 (s15.2.1 + 1)) fun (z24 : Int) =>
 again14 ((x22.1, x22.2.1, x22.2.2), z24, ()) w23)
 (z (IntKind.wrap .i64 (s4.2.1 + 1)) fun (z25 : Int) =>
 again3 ((s15.1.1, s15.1.2.1, s15.1.2.2), z25, ()) w16))
 (R (.slice s4.1.1 s4.1.2.1 s4.1.2.2) w5)
def H36i : Hints := ⟨[(2, 0, [(7, (.one .slice)), (14, (.one (.int .i64)))]), (2, 2, [(7, (.one .slice)), (21, (.one (.int .i64)))])], [], [], []⟩
set_option maxRecDepth 100000 in
theorem S36i_eq (a_a : Option Addr) (a_n : Nat) (a_c : Nat) (b_a : Option Addr) (b_n : Nat) (b_c : Nat) (cap2_0 : Addr) (w0 : World) (R : Value → World → Prop) : vcFn Try.prog H36i Try.f36 [(.slice a_a a_n a_c), (.slice b_a b_n b_c), (.func (.func 41) #[] #[(.pointer (some cap2_0))])] w0 R = S36i a_a a_n a_c b_a b_n b_c cap2_0 w0 R := by kernel_rfl
set_option maxRecDepth 100000 in
theorem S36i_calls (a_a : Option Addr) (a_n : Nat) (a_c : Nat) (b_a : Option Addr) (b_n : Nat) (b_c : Nat) (cap2_0 : Addr) (w0 : World) (R : Value → World → Prop) (h : S36i a_a a_n a_c b_a b_n b_c cap2_0 w0 R) : Calls Try.prog 36 #[(.slice a_a a_n a_c), (.slice b_a b_n b_c), (.func (.func 41) #[] #[(.pointer (some cap2_0))])] w0 (ret R) := by
  rw [← S36i_eq] at h; exact vcFn_sound follows_ Try.func36 h

/-- slices.ContainsFunc[[]querylab/bag.run,querylab/bag.run] -/
def S29s (s_a : Option Addr) (s_n : Nat) (s_c : Nat) (w0 : World) (R : Value → World → Prop) : Prop :=
 call Try.prog 44 [(.slice s_a s_n s_c), (.func (.func 30) #[] #[])] (.one (.one (.int .i64))) w0 fun (x1 : Int) (w2 : World) =>
 R (.bool (decide (x1 ≥ 0))) w2
def H29s : Hints := ⟨[], [], [], []⟩
set_option maxRecDepth 100000 in
theorem S29s_eq (s_a : Option Addr) (s_n : Nat) (s_c : Nat) (w0 : World) (R : Value → World → Prop) : vcFn Try.prog H29s Try.f29 [(.slice s_a s_n s_c), (.func (.func 30) #[] #[])] w0 R = S29s s_a s_n s_c w0 R := by kernel_rfl
set_option maxRecDepth 100000 in
theorem S29s_calls (s_a : Option Addr) (s_n : Nat) (s_c : Nat) (w0 : World) (R : Value → World → Prop) (h : S29s s_a s_n s_c w0 R) : Calls Try.prog 29 #[(.slice s_a s_n s_c), (.func (.func 30) #[] #[])] w0 (ret R) := by
  rw [← S29s_eq] at h; exact vcFn_sound follows_ Try.func29 h

/-- slices.IndexFunc[[]querylab/bag.run,querylab/bag.run] -/
def S44s (s_a : Option Addr) (s_n : Nat) (s_c : Nat) (w0 : World) (R : Value → World → Prop) : Prop :=
 loop (T := (Int × Unit)) (0, ()) w0 fun (again1 : (Int × Unit) → World → Prop) (s2 : (Int × Unit)) w3 => ∀ _ : Nat → Value,
 br (decide (s2.1 < ((s_n : Nat) : Int))) (rdp Try.prog (Instr.indexAt 34 (.slice s_a s_n s_c) (.int .i64 s2.1)) (.one .addr) fun (x4 : Addr) =>
 rd Try.prog (Instr.loadAt 37 (.pointer (some x4))) (.agg [.slice, (.int .i64), (.int .i64)]) w3 fun (x5 : ((Option Addr × Nat × Nat) × Int × Int × Unit)) =>
 call Try.prog 30 [(.agg #[(.slice x5.1.1 x5.1.2.1 x5.1.2.2), (.int .i64 x5.2.1), (.int .i64 x5.2.2.1)])] (.one (.one .bool)) w3 fun (x6 : Bool) (w7 : World) =>
 br x6 (R (.int .i64 s2.1) w7)
 (z (IntKind.wrap .i64 (s2.1 + 1)) fun (z8 : Int) =>
 again1 (z8, ()) w7))
 (R (.int .i64 (-1)) w3)
def H44s : Hints := ⟨[(2, 0, [(8, (.one (.int .i64)))])], [], [], []⟩
set_option maxRecDepth 100000 in
theorem S44s_eq (s_a : Option Addr) (s_n : Nat) (s_c : Nat) (w0 : World) (R : Value → World → Prop) : vcFn Try.prog H44s Try.f44 [(.slice s_a s_n s_c), (.func (.func 30) #[] #[])] w0 R = S44s s_a s_n s_c w0 R := by kernel_rfl
set_option maxRecDepth 100000 in
theorem S44s_calls (s_a : Option Addr) (s_n : Nat) (s_c : Nat) (w0 : World) (R : Value → World → Prop) (h : S44s s_a s_n s_c w0 R) : Calls Try.prog 44 #[(.slice s_a s_n s_c), (.func (.func 30) #[] #[])] w0 (ret R) := by
  rw [← S44s_eq] at h; exact vcFn_sound follows_ Try.func44 h

/-- slices.ContainsFunc[[]querylab/bag.run,querylab/bag.run] -/
def S29c (s_a : Option Addr) (s_n : Nat) (s_c : Nat) (w0 : World) (R : Value → World → Prop) : Prop :=
 call Try.prog 44 [(.slice s_a s_n s_c), (.func (.func 31) #[] #[])] (.one (.one (.int .i64))) w0 fun (x1 : Int) (w2 : World) =>
 R (.bool (decide (x1 ≥ 0))) w2
def H29c : Hints := ⟨[], [], [], []⟩
set_option maxRecDepth 100000 in
theorem S29c_eq (s_a : Option Addr) (s_n : Nat) (s_c : Nat) (w0 : World) (R : Value → World → Prop) : vcFn Try.prog H29c Try.f29 [(.slice s_a s_n s_c), (.func (.func 31) #[] #[])] w0 R = S29c s_a s_n s_c w0 R := by kernel_rfl
set_option maxRecDepth 100000 in
theorem S29c_calls (s_a : Option Addr) (s_n : Nat) (s_c : Nat) (w0 : World) (R : Value → World → Prop) (h : S29c s_a s_n s_c w0 R) : Calls Try.prog 29 #[(.slice s_a s_n s_c), (.func (.func 31) #[] #[])] w0 (ret R) := by
  rw [← S29c_eq] at h; exact vcFn_sound follows_ Try.func29 h

/-- slices.IndexFunc[[]querylab/bag.run,querylab/bag.run] -/
def S44c (s_a : Option Addr) (s_n : Nat) (s_c : Nat) (w0 : World) (R : Value → World → Prop) : Prop :=
 loop (T := (Int × Unit)) (0, ()) w0 fun (again1 : (Int × Unit) → World → Prop) (s2 : (Int × Unit)) w3 => ∀ _ : Nat → Value,
 br (decide (s2.1 < ((s_n : Nat) : Int))) (rdp Try.prog (Instr.indexAt 34 (.slice s_a s_n s_c) (.int .i64 s2.1)) (.one .addr) fun (x4 : Addr) =>
 rd Try.prog (Instr.loadAt 37 (.pointer (some x4))) (.agg [.slice, (.int .i64), (.int .i64)]) w3 fun (x5 : ((Option Addr × Nat × Nat) × Int × Int × Unit)) =>
 call Try.prog 31 [(.agg #[(.slice x5.1.1 x5.1.2.1 x5.1.2.2), (.int .i64 x5.2.1), (.int .i64 x5.2.2.1)])] (.one (.one .bool)) w3 fun (x6 : Bool) (w7 : World) =>
 br x6 (R (.int .i64 s2.1) w7)
 (z (IntKind.wrap .i64 (s2.1 + 1)) fun (z8 : Int) =>
 again1 (z8, ()) w7))
 (R (.int .i64 (-1)) w3)
def H44c : Hints := ⟨[(2, 0, [(8, (.one (.int .i64)))])], [], [], []⟩
set_option maxRecDepth 100000 in
theorem S44c_eq (s_a : Option Addr) (s_n : Nat) (s_c : Nat) (w0 : World) (R : Value → World → Prop) : vcFn Try.prog H44c Try.f44 [(.slice s_a s_n s_c), (.func (.func 31) #[] #[])] w0 R = S44c s_a s_n s_c w0 R := by kernel_rfl
set_option maxRecDepth 100000 in
theorem S44c_calls (s_a : Option Addr) (s_n : Nat) (s_c : Nat) (w0 : World) (R : Value → World → Prop) (h : S44c s_a s_n s_c w0 R) : Calls Try.prog 44 #[(.slice s_a s_n s_c), (.func (.func 31) #[] #[])] w0 (ret R) := by
  rw [← S44c_eq] at h; exact vcFn_sound follows_ Try.func44 h

/-- querylab/bag.Canonical -/
def S17 (rows_a : Option Addr) (rows_n : Nat) (rows_c : Nat) (w0 : World) (R : Value → World → Prop) : Prop :=
 call Try.prog 35 [(.slice rows_a rows_n rows_c)] (.one (.one .slice)) w0 fun (x1 : (Option Addr × Nat × Nat)) (w2 : World) =>
 R (.slice x1.1 x1.2.1 x1.2.2) w2
def H17 : Hints := ⟨[], [], [], []⟩
set_option maxRecDepth 100000 in
theorem S17_eq (rows_a : Option Addr) (rows_n : Nat) (rows_c : Nat) (w0 : World) (R : Value → World → Prop) : vcFn Try.prog H17 Try.f17 [(.slice rows_a rows_n rows_c)] w0 R = S17 rows_a rows_n rows_c w0 R := by kernel_rfl
set_option maxRecDepth 100000 in
theorem S17_calls (rows_a : Option Addr) (rows_n : Nat) (rows_c : Nat) (w0 : World) (R : Value → World → Prop) (h : S17 rows_a rows_n rows_c w0 R) : Calls Try.prog 17 #[(.slice rows_a rows_n rows_c)] w0 (ret R) := by
  rw [← S17_eq] at h; exact vcFn_sound follows_ Try.func17 h

/-- querylab/bag.Count -/
def S19 (rows_a : Option Addr) (rows_n : Nat) (rows_c : Nat) (row_a : Option Addr) (row_n : Nat) (row_c : Nat) (w0 : World) (R : Value → World → Prop) : Prop :=
 loop (T := (Int × Int × Unit)) (0, 0, ()) w0 fun (again1 : (Int × Int × Unit) → World → Prop) (s2 : (Int × Int × Unit)) w3 => ∀ _ : Nat → Value,
 br (decide (s2.2.1 < ((rows_n : Nat) : Int))) (rdp Try.prog (Instr.indexAt 22 (.slice rows_a rows_n rows_c) (.int .i64 s2.2.1)) (.one .addr) fun (x4 : Addr) =>
 rd Try.prog (Instr.loadAt 24 (.pointer (some x4))) (.one .slice) w3 fun (x5 : (Option Addr × Nat × Nat)) =>
 call Try.prog 39 [(.slice x5.1 x5.2.1 x5.2.2), (.slice row_a row_n row_c)] (.one (.one (.int .i64))) w3 fun (x6 : Int) (w7 : World) =>
 call Try.prog 38 [(.bool (x6 == 0))] (.one (.one (.int .i64))) w7 fun (x8 : Int) (w9 : World) =>
 z (IntKind.wrap .i64 (s2.1 + x8)) fun (z10 : Int) =>
 z (IntKind.wrap .i64 (s2.2.1 + 1)) fun (z11 : Int) =>
 again1 (z10, z11, ()) w9)
 (R (.int .i64 s2.1) w3)
def H19 : Hints := ⟨[(2, 0, [(5, (.one (.int .i64))), (10, (.one (.int .i64)))])], [], [], []⟩
set_option maxRecDepth 100000 in
theorem S19_eq (rows_a : Option Addr) (rows_n : Nat) (rows_c : Nat) (row_a : Option Addr) (row_n : Nat) (row_c : Nat) (w0 : World) (R : Value → World → Prop) : vcFn Try.prog H19 Try.f19 [(.slice rows_a rows_n rows_c), (.slice row_a row_n row_c)] w0 R = S19 rows_a rows_n rows_c row_a row_n row_c w0 R := by kernel_rfl
set_option maxRecDepth 100000 in
theorem S19_calls (rows_a : Option Addr) (rows_n : Nat) (rows_c : Nat) (row_a : Option Addr) (row_n : Nat) (row_c : Nat) (w0 : World) (R : Value → World → Prop) (h : S19 rows_a rows_n rows_c row_a row_n row_c w0 R) : Calls Try.prog 19 #[(.slice rows_a rows_n rows_c), (.slice row_a row_n row_c)] w0 (ret R) := by
  rw [← S19_eq] at h; exact vcFn_sound follows_ Try.func19 h

/-- querylab/bag.Union -/
def S20 (a_a : Option Addr) (a_n : Nat) (a_c : Nat) (b_a : Option Addr) (b_n : Nat) (b_c : Nat) (all_ : Bool) (w0 : World) (R : Value → World → Prop) : Prop :=
 wr Try.prog (Instr.box 4 (.bool all_)) (.one .addr) w0 fun (x1 : Addr) (w2 : World) =>
 call Try.prog 36 [(.slice a_a a_n a_c), (.slice b_a b_n b_c), (.func (.func 40) #[] #[(.pointer (some x1))])] (.one (.one .slice)) w2 fun (x3 : (Option Addr × Nat × Nat)) (w4 : World) =>
 R (.slice x3.1 x3.2.1 x3.2.2) w4
def H20 : Hints := ⟨[], [], [], []⟩
set_option maxRecDepth 100000 in
theorem S20_eq (a_a : Option Addr) (a_n : Nat) (a_c : Nat) (b_a : Option Addr) (b_n : Nat) (b_c : Nat) (all_ : Bool) (w0 : World) (R : Value → World → Prop) : vcFn Try.prog H20 Try.f20 [(.slice a_a a_n a_c), (.slice b_a b_n b_c), (.bool all_)] w0 R = S20 a_a a_n a_c b_a b_n b_c all_ w0 R := by kernel_rfl
set_option maxRecDepth 100000 in
theorem S20_calls (a_a : Option Addr) (a_n : Nat) (a_c : Nat) (b_a : Option Addr) (b_n : Nat) (b_c : Nat) (all_ : Bool) (w0 : World) (R : Value → World → Prop) (h : S20 a_a a_n a_c b_a b_n b_c all_ w0 R) : Calls Try.prog 20 #[(.slice a_a a_n a_c), (.slice b_a b_n b_c), (.bool all_)] w0 (ret R) := by
  rw [← S20_eq] at h; exact vcFn_sound follows_ Try.func20 h

/-- querylab/bag.Except -/
def S18 (a_a : Option Addr) (a_n : Nat) (a_c : Nat) (b_a : Option Addr) (b_n : Nat) (b_c : Nat) (all_ : Bool) (w0 : World) (R : Value → World → Prop) : Prop :=
 wr Try.prog (Instr.box 4 (.bool all_)) (.one .addr) w0 fun (x1 : Addr) (w2 : World) =>
 call Try.prog 36 [(.slice a_a a_n a_c), (.slice b_a b_n b_c), (.func (.func 37) #[] #[(.pointer (some x1))])] (.one (.one .slice)) w2 fun (x3 : (Option Addr × Nat × Nat)) (w4 : World) =>
 R (.slice x3.1 x3.2.1 x3.2.2) w4
def H18 : Hints := ⟨[], [], [], []⟩
set_option maxRecDepth 100000 in
theorem S18_eq (a_a : Option Addr) (a_n : Nat) (a_c : Nat) (b_a : Option Addr) (b_n : Nat) (b_c : Nat) (all_ : Bool) (w0 : World) (R : Value → World → Prop) : vcFn Try.prog H18 Try.f18 [(.slice a_a a_n a_c), (.slice b_a b_n b_c), (.bool all_)] w0 R = S18 a_a a_n a_c b_a b_n b_c all_ w0 R := by kernel_rfl
set_option maxRecDepth 100000 in
theorem S18_calls (a_a : Option Addr) (a_n : Nat) (a_c : Nat) (b_a : Option Addr) (b_n : Nat) (b_c : Nat) (all_ : Bool) (w0 : World) (R : Value → World → Prop) (h : S18 a_a a_n a_c b_a b_n b_c all_ w0 R) : Calls Try.prog 18 #[(.slice a_a a_n a_c), (.slice b_a b_n b_c), (.bool all_)] w0 (ret R) := by
  rw [← S18_eq] at h; exact vcFn_sound follows_ Try.func18 h

/-- querylab/bag.Intersect -/
def S21 (a_a : Option Addr) (a_n : Nat) (a_c : Nat) (b_a : Option Addr) (b_n : Nat) (b_c : Nat) (all_ : Bool) (w0 : World) (R : Value → World → Prop) : Prop :=
 wr Try.prog (Instr.box 4 (.bool all_)) (.one .addr) w0 fun (x1 : Addr) (w2 : World) =>
 call Try.prog 36 [(.slice a_a a_n a_c), (.slice b_a b_n b_c), (.func (.func 41) #[] #[(.pointer (some x1))])] (.one (.one .slice)) w2 fun (x3 : (Option Addr × Nat × Nat)) (w4 : World) =>
 R (.slice x3.1 x3.2.1 x3.2.2) w4
def H21 : Hints := ⟨[], [], [], []⟩
set_option maxRecDepth 100000 in
theorem S21_eq (a_a : Option Addr) (a_n : Nat) (a_c : Nat) (b_a : Option Addr) (b_n : Nat) (b_c : Nat) (all_ : Bool) (w0 : World) (R : Value → World → Prop) : vcFn Try.prog H21 Try.f21 [(.slice a_a a_n a_c), (.slice b_a b_n b_c), (.bool all_)] w0 R = S21 a_a a_n a_c b_a b_n b_c all_ w0 R := by kernel_rfl
set_option maxRecDepth 100000 in
theorem S21_calls (a_a : Option Addr) (a_n : Nat) (a_c : Nat) (b_a : Option Addr) (b_n : Nat) (b_c : Nat) (all_ : Bool) (w0 : World) (R : Value → World → Prop) (h : S21 a_a a_n a_c b_a b_n b_c all_ w0 R) : Calls Try.prog 21 #[(.slice a_a a_n a_c), (.slice b_a b_n b_c), (.bool all_)] w0 (ret R) := by
  rw [← S21_eq] at h; exact vcFn_sound follows_ Try.func21 h

/-- querylab/bag.Distinct -/
def S22 (rows_a : Option Addr) (rows_n : Nat) (rows_c : Nat) (w0 : World) (R : Value → World → Prop) : Prop :=
 call Try.prog 20 [(.slice rows_a rows_n rows_c), (.slice none 0 0), (.bool false)] (.one (.one .slice)) w0 fun (x1 : (Option Addr × Nat × Nat)) (w2 : World) =>
 R (.slice x1.1 x1.2.1 x1.2.2) w2
def H22 : Hints := ⟨[], [], [], []⟩
set_option maxRecDepth 100000 in
theorem S22_eq (rows_a : Option Addr) (rows_n : Nat) (rows_c : Nat) (w0 : World) (R : Value → World → Prop) : vcFn Try.prog H22 Try.f22 [(.slice rows_a rows_n rows_c)] w0 R = S22 rows_a rows_n rows_c w0 R := by kernel_rfl
set_option maxRecDepth 100000 in
theorem S22_calls (rows_a : Option Addr) (rows_n : Nat) (rows_c : Nat) (w0 : World) (R : Value → World → Prop) (h : S22 rows_a rows_n rows_c w0 R) : Calls Try.prog 22 #[(.slice rows_a rows_n rows_c)] w0 (ret R) := by
  rw [← S22_eq] at h; exact vcFn_sound follows_ Try.func22 h

/-- querylab/bag.Same -/
def S10 (a_a : Option Addr) (a_n : Nat) (a_c : Nat) (b_a : Option Addr) (b_n : Nat) (b_c : Nat) (w0 : World) (R : Value → World → Prop) : Prop :=
 call Try.prog 28 [(.slice a_a a_n a_c), (.slice b_a b_n b_c)] (.one (.one .slice)) w0 fun (x1 : (Option Addr × Nat × Nat)) (w2 : World) =>
 call Try.prog 29 [(.slice x1.1 x1.2.1 x1.2.2), (.func (.func 30) #[] #[])] (.one (.one .bool)) w2 fun (x3 : Bool) (w4 : World) =>
 R (.bool (!x3)) w4
def H10 : Hints := ⟨[], [], [], []⟩
set_option maxRecDepth 100000 in
theorem S10_eq (a_a : Option Addr) (a_n : Nat) (a_c : Nat) (b_a : Option Addr) (b_n : Nat) (b_c : Nat) (w0 : World) (R : Value → World → Prop) : vcFn Try.prog H10 Try.f10 [(.slice a_a a_n a_c), (.slice b_a b_n b_c)] w0 R = S10 a_a a_n a_c b_a b_n b_c w0 R := by kernel_rfl
set_option maxRecDepth 100000 in
theorem S10_calls (a_a : Option Addr) (a_n : Nat) (a_c : Nat) (b_a : Option Addr) (b_n : Nat) (b_c : Nat) (w0 : World) (R : Value → World → Prop) (h : S10 a_a a_n a_c b_a b_n b_c w0 R) : Calls Try.prog 10 #[(.slice a_a a_n a_c), (.slice b_a b_n b_c)] w0 (ret R) := by
  rw [← S10_eq] at h; exact vcFn_sound follows_ Try.func10 h

/-- querylab/bag.Contains -/
def S11 (a_a : Option Addr) (a_n : Nat) (a_c : Nat) (b_a : Option Addr) (b_n : Nat) (b_c : Nat) (w0 : World) (R : Value → World → Prop) : Prop :=
 call Try.prog 28 [(.slice a_a a_n a_c), (.slice b_a b_n b_c)] (.one (.one .slice)) w0 fun (x1 : (Option Addr × Nat × Nat)) (w2 : World) =>
 call Try.prog 29 [(.slice x1.1 x1.2.1 x1.2.2), (.func (.func 31) #[] #[])] (.one (.one .bool)) w2 fun (x3 : Bool) (w4 : World) =>
 R (.bool (!x3)) w4
def H11 : Hints := ⟨[], [], [], []⟩
set_option maxRecDepth 100000 in
theorem S11_eq (a_a : Option Addr) (a_n : Nat) (a_c : Nat) (b_a : Option Addr) (b_n : Nat) (b_c : Nat) (w0 : World) (R : Value → World → Prop) : vcFn Try.prog H11 Try.f11 [(.slice a_a a_n a_c), (.slice b_a b_n b_c)] w0 R = S11 a_a a_n a_c b_a b_n b_c w0 R := by kernel_rfl
set_option maxRecDepth 100000 in
theorem S11_calls (a_a : Option Addr) (a_n : Nat) (a_c : Nat) (b_a : Option Addr) (b_n : Nat) (b_c : Nat) (w0 : World) (R : Value → World → Prop) (h : S11 a_a a_n a_c b_a b_n b_c w0 R) : Calls Try.prog 11 #[(.slice a_a a_n a_c), (.slice b_a b_n b_c)] w0 (ret R) := by
  rw [← S11_eq] at h; exact vcFn_sound follows_ Try.func11 h

/-- querylab/bag.Difference -/
def S9 (a_a : Option Addr) (a_n : Nat) (a_c : Nat) (b_a : Option Addr) (b_n : Nat) (b_c : Nat) (w0 : World) (R : Value → World → Prop) : Prop :=
 call Try.prog 28 [(.slice a_a a_n a_c), (.slice b_a b_n b_c)] (.one (.one .slice)) w0 fun (x1 : (Option Addr × Nat × Nat)) (w2 : World) =>
 loop (T := (Int × Unit)) (0, ()) w2 fun (again3 : (Int × Unit) → World → Prop) (s4 : (Int × Unit)) w5 => ∀ _ : Nat → Value,
 br (decide (s4.1 < ((x1.2.1 : Nat) : Int))) (rdp Try.prog (Instr.indexAt 34 (.slice x1.1 x1.2.1 x1.2.2) (.int .i64 s4.1)) (.one .addr) fun (x6 : Addr) =>
 rd Try.prog (Instr.loadAt 37 (.pointer (some x6))) (.agg [.slice, (.int .i64), (.int .i64)]) w5 fun (x7 : ((Option Addr × Nat × Nat) × Int × Int × Unit)) =>
 wr Try.prog (Instr.alloc 37 true (.tuple #[])) (.one .addr) w5 fun (x8 : Addr) (w9 : World) =>
 wu Try.prog (Instr.storeAt 37 (.pointer (some x8)) (.agg #[(.slice x7.1.1 x7.1.2.1 x7.1.2.2), (.int .i64 x7.2.1), (.int .i64 x7.2.2.1)])) w9 fun (w10 : World) =>
 rd Try.prog (Instr.loadAt 3 (.pointer (some (Addr.add x8 1)))) (.one (.int .i64)) w10 fun (x11 : Int) =>
 rd Try.prog (Instr.loadAt 3 (.pointer (some (Addr.add x8 2)))) (.one (.int .i64)) w10 fun (x12 : Int) =>
 br (x11 != x12) (drw w10 fun w13 =>
 rd Try.prog (Instr.loadAt 24 (.pointer (some x8))) (.one .slice) w13 fun (x14 : (Option Addr × Nat × Nat)) =>
 rd Try.prog (Instr.loadAt 3 (.pointer (some (Addr.add x8 1)))) (.one (.int .i64)) w13 fun (x15 : Int) =>
 rd Try.prog (Instr.loadAt 3 (.pointer (some (Addr.add x8 2)))) (.one (.int .i64)) w13 fun (x16 : Int) =>
 R (.tuple #[(.slice x14.1 x14.2.1 x14.2.2), (.int .i64 x15), (.int .i64 x16)]) w13)
 (z (IntKind.wrap .i64 (s4.1 + 1)) fun (z17 : Int) =>
 again3 (z17, ()) w10))
 (R (.tuple #[(.slice none 0 0), (.int .i64 0), (.int .i64 0)]) w5)
def H9 : Hints := ⟨[(2, 0, [(13, (.one (.int .i64)))])], [(5, 8)], [], []⟩
set_option maxRecDepth 100000 in
theorem S9_eq (a_a : Option Addr) (a_n : Nat) (a_c : Nat) (b_a : Option Addr) (b_n : Nat) (b_c : Nat) (w0 : World) (R : Value → World → Prop) : vcFn Try.prog H9 Try.f9 [(.slice a_a a_n a_c), (.slice b_a b_n b_c)] w0 R = S9 a_a a_n a_c b_a b_n b_c w0 R := by kernel_rfl
set_option maxRecDepth 100000 in
theorem S9_calls (a_a : Option Addr) (a_n : Nat) (a_c : Nat) (b_a : Option Addr) (b_n : Nat) (b_c : Nat) (w0 : World) (R : Value → World → Prop) (h : S9 a_a a_n a_c b_a b_n b_c w0 R) : Calls Try.prog 9 #[(.slice a_a a_n a_c), (.slice b_a b_n b_c)] w0 (ret R) := by
  rw [← S9_eq] at h; exact vcFn_sound follows_ Try.func9 h

end Go.Proofs

/- Values and rows compared. -/





namespace Go.Proofs.Ytalagcggmbeddaa
open Go.RowKit Go.Q Go.V Go.Bag

abbrev V3 := Int × Int × ByteArray
theorem less_irr : ∀ x : List UInt8, Op.bytesLess x x = false
  | [] => rfl
  | a :: x => by unfold Op.bytesLess; rw [less_irr x]; simp
theorem less_tr : ∀ {x y z : List UInt8}, Op.bytesLess x y = true → Op.bytesLess y z = true → Op.bytesLess x z = true
  | _, [], _, h, _ => by simp [Op.bytesLess] at h
  | _, _ :: _, [], _, h => by simp [Op.bytesLess] at h
  | [], b :: y, d :: z, _, _ => by simp [Op.bytesLess]
  | a :: x, b :: y, d :: z, h1, h2 => by
    simp only [Op.bytesLess, Bool.or_eq_true, decide_eq_true_eq, Bool.and_eq_true, beq_iff_eq] at h1 h2 ⊢
    rcases h1 with h1 | ⟨rfl, h1⟩
    · rcases h2 with h2 | ⟨rfl, _⟩
      · exact .inl (UInt8.lt_trans h1 h2)
      · exact .inl h1
    · rcases h2 with h2 | ⟨rfl, h2⟩
      · exact .inl h2
      · exact .inr ⟨rfl, less_tr h1 h2⟩
theorem less_tot : ∀ {x y : List UInt8}, x ≠ y → Op.bytesLess x y = true ∨ Op.bytesLess y x = true
  | [], [], h => absurd rfl h
  | [], _ :: _, _ => by simp [Op.bytesLess]
  | _ :: _, [], _ => by simp [Op.bytesLess]
  | a :: x, b :: y, h => by
    simp only [Op.bytesLess, Bool.or_eq_true, decide_eq_true_eq, Bool.and_eq_true, beq_iff_eq]
    rcases Nat.lt_trichotomy a.toNat b.toNat with q | q | q
    · exact .inl (.inl (UInt8.lt_iff_toNat_lt.2 q))
    · have e : a = b := UInt8.toNat_inj.1 q
      subst e
      rcases less_tot (x := x) (y := y) (fun z => h (by rw [z])) with z | z
      · exact .inl (.inr ⟨rfl, z⟩)
      · exact .inr (.inr ⟨rfl, z⟩)
    · exact .inr (.inl (UInt8.lt_iff_toNat_lt.2 q))
theorem bytes_inj {a b : ByteArray} (h : a.toList = b.toList) : a = b := by
  rw [ByteArray.toList_eq, ByteArray.toList_eq] at h
  cases a; cases b
  congr 1
  exact Array.toList_inj.1 h
def cmpS3 (a b : ByteArray) : Int := if Op.bytesLess a.toList b.toList = true then -1 else if a.toList = b.toList then 0 else 1
theorem cmpS_lt {a b : ByteArray} : cmpS3 a b < 0 ↔ Op.bytesLess a.toList b.toList = true := by
  unfold cmpS3
  split
  · rename_i h; simp [h]
  · rename_i h
    split <;> simp [h]
theorem cmpS_eq {a b : ByteArray} : cmpS3 a b = 0 ↔ a = b := by
  unfold cmpS3
  split
  · rename_i h
    constructor
    · intro q; omega
    · intro q; subst q; rw [less_irr] at h; cases h
  · split
    · rename_i h; simp [bytes_inj h]
    · rename_i h
      constructor
      · intro q; omega
      · intro q; exact absurd (by rw [q]) h
theorem cmpS_to : TO cmpS3 := by
  refine ⟨fun a b => cmpS_eq, fun a b => ?_, fun a b d h1 h2 => cmpS_lt.2 (less_tr (cmpS_lt.1 h1) (cmpS_lt.1 h2))⟩
  rw [cmpS_lt]
  constructor
  · intro h
    have h1 : ¬ cmpS3 b a < 0 := fun q => by have := less_tr h (cmpS_lt.1 q); rw [less_irr] at this; cases this
    have h2 : cmpS3 b a ≠ 0 := fun q => by rw [cmpS_eq.1 q, less_irr] at h; cases h
    omega
  · intro h
    have h1 : Op.bytesLess b.toList a.toList ≠ true := fun q => by have := cmpS_lt.2 q; omega
    have h2 : b ≠ a := fun q => by have := cmpS_eq.2 q; omega
    rcases less_tot (x := a.toList) (y := b.toList) (fun q => h2 (bytes_inj q).symm) with z | z
    · exact z
    · exact absurd z h1
def cmpI (x y : Int) : Int := if x < y then -1 else if x > y then 1 else 0
theorem cmpI_to : TO cmpI := by
  refine ⟨fun a b => ?_, fun a b => ?_, fun a b d => ?_⟩ <;> unfold cmpI <;> (repeat' split) <;> omega
/-- the first that is not nought -/
def or2 (x y : Int) : Int := if x = 0 then y else x
theorem pair_to {α β : Type} {c : α → α → Int} {d : β → β → Int} (H : TO c) (K : TO d) : TO fun (x y : α × β) => or2 (c x.1 y.1) (d x.2 y.2) := by
  unfold or2
  refine ⟨fun a b => ?_, fun a b => ?_, fun a b e => ?_⟩
  · split
    · rename_i h
      rw [K.eq]
      constructor
      · intro q; exact Prod.ext ((H.eq _ _).1 h) q
      · intro q; rw [q]
    · rename_i h
      constructor
      · intro q; exact absurd q h
      · intro q; rw [q, H.refl] at h; exact absurd rfl h
  · by_cases h : c a.1 b.1 = 0
    · have h2 : c b.1 a.1 = 0 := by rw [(H.eq _ _).1 h]; exact H.refl _
      rw [if_pos h, if_pos h2]; exact K.sym _ _
    · have h2 : c b.1 a.1 ≠ 0 := fun q => h (by rw [(H.eq _ _).1 q]; exact H.refl _)
      rw [if_neg h, if_neg h2]; exact H.sym _ _
  · by_cases h : c a.1 b.1 = 0
    · rw [if_pos h]
      have e1 := (H.eq _ _).1 h
      by_cases h' : c b.1 e.1 = 0
      · rw [if_pos h', if_pos (by rw [e1]; exact h')]; exact K.tr _ _ _
      · rw [if_neg h', if_neg (by rw [e1]; exact h')]
        intro _ q; rw [e1]; exact q
    · rw [if_neg h]
      by_cases h' : c b.1 e.1 = 0
      · rw [if_pos h', if_neg (by rw [← (H.eq _ _).1 h']; exact h)]
        intro q _; rw [← (H.eq _ _).1 h']; exact q
      · rw [if_neg h']
        intro q1 q2
        have := H.tr _ _ _ q1 q2
        rw [if_neg (by omega)]; exact this
def cmpV (a b : V3) : Int := or2 (cmpI a.1 b.1) (or2 (cmpI a.2.1 b.2.1) (cmpS3 a.2.2 b.2.2))
theorem cmpV_to : TO cmpV := pair_to cmpI_to (pair_to cmpI_to cmpS_to)
abbrev Rw := List V3
def cmpR (r s : Rw) : Int := lexc cmpV r s
theorem cmpR_to : TO cmpR := lexc_to cmpV_to

/-! ### reading -/
theorem rdp_b {P : Program} {op : BinOp} {t : TypeId} {x y : Operand} {a b : Value} {v : Bool} {K : Bool → Prop} (hop : (op matches .eql | .neq) = false) (h : ∀ w, (Go.binOp op t a b).run P w = .ok (.bool v) w) (hk : K v) :
    rdp P (Go.V.cmpS op t x y a b) (.one .bool) K := by
  refine ⟨v, fun w => ?_, hk⟩
  unfold Go.V.cmpS eqGuard
  cases op <;> first | (cases hop; done) | (simp only [Bool.not_false, if_true, Sem.run_bind, Sem.run_pure, Result.andThen_ok]; exact h w)
theorem lss_mk {t : TypeId} {x y : Operand} {a b : ByteArray} {K : Bool → Prop} (hk : K (Op.bytesLess a.toList b.toList)) : rdp Try.prog (Go.V.cmpS .lss t x y (.string a) (.string b)) (.one .bool) K :=
  rdp_b rfl (fun w => by rw [binOp_string_lss, Sem.run_pure]) hk
theorem gtr_mk {t : TypeId} {x y : Operand} {a b : ByteArray} {K : Bool → Prop} (hk : K (!(Op.bytesLess a.toList b.toList || a.toList == b.toList))) : rdp Try.prog (Go.V.cmpS .gtr t x y (.string a) (.string b)) (.one .bool) K :=
  rdp_b rfl (fun w => by rw [binOp_string_gtr, Sem.run_pure]) hk
theorem neq_mk {t : TypeId} {x y : Operand} {a b : ByteArray} {w : World} {K : Bool → Prop} (hk : K (!(a.toList == b.toList))) : rd Try.prog (Go.V.cmpS .neq t x y (.string a) (.string b)) (.one .bool) w K := by
  refine ⟨_, fun w' _ => ?_, hk⟩
  unfold Go.V.cmpS eqGuard
  simp only [Bool.not_true, Bool.false_eq_true, if_false, Sem.run_bind, Sem.run_pure, Result.andThen_ok, binOp_string_neq]
  rfl
theorem tyI : TyS Try.prog 62 3 (.int .i64 0) 1 8 := ⟨by kernel_rfl, by kernel_rfl⟩
theorem nanI (n : Int) (w : World) : call Try.prog 56 [.int .i64 n] (.one (.one .bool)) w (fun x w' => x = false ∧ w' = w) := by
  refine call_of (S56_calls n w _ ?_)
  unfold S56
  exact ⟨false, by simp [RS.val, VS.val, Sh.val], rfl, rfl⟩
theorem nanL (n : Int) (w : World) : call Try.prog 57 [.int .i64 n] (.one (.one .bool)) w (fun x w' => x = false ∧ w' = w) := by
  refine call_of (S57_calls n w _ ?_)
  unfold S57
  exact ⟨false, by simp [RS.val, VS.val, Sh.val], rfl, rfl⟩
theorem nanS (n : ByteArray) (w : World) : call Try.prog 58 [.string n] (.one (.one .bool)) w (fun x w' => x = false ∧ w' = w) := by
  refine call_of (S58_calls n w _ ?_)
  unfold S58
  exact neq_mk ⟨!(n.toList == n.toList), rfl, (by rw [beq_self_eq_true]; rfl), rfl⟩
theorem compI (x y : Int) (w : World) : call Try.prog 51 [.int .i64 x, .int .i64 y] (.one (.one (.int .i64))) w (fun (r : Int) w' => r = cmpI x y ∧ w' = w) := by
  refine call_of (S51_calls x y w _ ?_)
  unfold S51
  refine call_mono (nanI x w) fun _ w2 ⟨e1, e2⟩ => ?_
  subst e1 e2
  refine call_mono (nanI y w2) fun _ w3 ⟨e1, e2⟩ => ?_
  subst e1 e2
  unfold cmpI
  refine br_f rfl (br_f rfl ?_)
  refine br_dec (fun e => ⟨_, rfl, (if_pos e).symm, rfl⟩) (fun e => ?_)
  rw [if_neg e]
  exact br_dec (fun e2 => ⟨_, rfl, (if_pos e2).symm, rfl⟩) (fun e2 => ⟨_, rfl, (if_neg e2).symm, rfl⟩)
theorem compL (x y : Int) (w : World) : call Try.prog 52 [.int .i64 x, .int .i64 y] (.one (.one (.int .i64))) w (fun (r : Int) w' => r = cmpI x y ∧ w' = w) := by
  refine call_of (S52_calls x y w _ ?_)
  unfold S52
  refine call_mono (nanL x w) fun _ w2 ⟨e1, e2⟩ => ?_
  subst e1 e2
  refine call_mono (nanL y w2) fun _ w3 ⟨e1, e2⟩ => ?_
  subst e1 e2
  unfold cmpI
  refine br_f rfl (br_f rfl ?_)
  refine br_dec (fun e => ⟨_, rfl, (if_pos e).symm, rfl⟩) (fun e => ?_)
  rw [if_neg e]
  exact br_dec (fun e2 => ⟨_, rfl, (if_pos e2).symm, rfl⟩) (fun e2 => ⟨_, rfl, (if_neg e2).symm, rfl⟩)
/-- how texts are compared, here and there -/
theorem text_mk {t : TypeId} {x1 y1 x2 y2 : Operand} {a b : ByteArray} {A B C : Prop} (h1 : cmpS3 a b = -1 → A) (h2 : cmpS3 a b = 1 → B) (h3 : cmpS3 a b = 0 → C) :
    rdp Try.prog (Go.V.cmpS .lss t x1 y1 (.string a) (.string b)) (.one .bool) fun (x : Bool) => br x A (rdp Try.prog (Go.V.cmpS .gtr t x2 y2 (.string a) (.string b)) (.one .bool) fun (y : Bool) => br y B C) := by
  refine lss_mk (br_mk (fun q => h1 (if_pos q)) (fun q => ?_))
  refine gtr_mk (br_mk (fun q2 => h2 ?_) (fun q2 => h3 ?_))
  · rw [q] at q2
    simp at q2
    unfold cmpS3
    rw [if_neg (by simp [q]), if_neg q2]
  · rw [q] at q2
    simp at q2
    unfold cmpS3
    rw [if_neg (by simp [q]), if_pos q2]
theorem compS (x y : ByteArray) (w : World) : call Try.prog 53 [.string x, .string y] (.one (.one (.int .i64))) w (fun (r : Int) w' => r = cmpS3 x y ∧ w' = w) := by
  refine call_of (S53_calls x y w _ ?_)
  unfold S53
  refine call_mono (nanS x w) fun _ w2 ⟨e1, e2⟩ => ?_
  subst e1 e2
  refine call_mono (nanS y w2) fun _ w3 ⟨e1, e2⟩ => ?_
  subst e1 e2
  refine br_f rfl (br_f rfl ?_)
  exact text_mk (fun q => ⟨_, rfl, q.symm, rfl⟩) (fun q => ⟨_, rfl, q.symm, rfl⟩) (fun q => ⟨_, rfl, q.symm, rfl⟩)
def first0 : List Int → Int
  | [] => 0
  | a :: l => if a = 0 then first0 l else a
theorem first_drop : ∀ {l : List Int} {i : Nat} {x : Int}, l[i]? = some x → first0 (l.drop i) = if x = 0 then first0 (l.drop (i + 1)) else x
  | [], i, x, h => by simp at h
  | a :: l, 0, x, h => by
    simp at h; subst h
    simp [first0]
  | a :: l, i + 1, x, h => by
    simp at h
    simpa using first_drop h
theorem orF (h : Hdr) (xs : List Int) (w : World) (H : Sl w h.1 h.2.1 h.2.2 1 (ints .i64 xs)) : call Try.prog 50 [.slice h.1 h.2.1 h.2.2] (.one (.one (.int .i64))) w (fun (r : Int) w' => r = first0 xs ∧ bel w w') := by
  refine call_of (S50_calls _ _ _ w _ ?_)
  unfold S50
  have hl := H.int
  have hm := H.le
  refine loop_up xs.length (fun i w' => bel w w' ∧ first0 xs = first0 (xs.drop i)) ⟨bel.refl _, rfl⟩ fun i w3 hi ⟨hb, he⟩ again hag _ => ?_
  refine br_dec (fun e => ?_) (fun e => ?_)
  · dsimp only at e
    refine at_int tyI (by kernel_rfl) (H.up hb) rfl (by omega) fun x hx => ?_
    rw [first_drop hx] at he
    refine br_ne (fun q => ⟨_, rfl, by rw [he, if_neg q], hb⟩) (fun q => ?_)
    rw [if_pos q] at he
    refine z_i64 (by dsimp only; omega) ?_
    exact hag _ (by omega) ⟨hb, he⟩
  · dsimp only at e
    have : i = xs.length := by omega
    subst this
    rw [List.drop_length] at he
    exact ⟨_, rfl, he.symm, hb⟩
theorem fill_i3 (a b c : Int) : Instr.fill (fun i => some (i * 1, 1)) ((Array.range (3 * 1)).map ((Value.int .i64 0).cells[· % (Value.int .i64 0).cells.size]!)) (#[(0, .int .i64 a), (1, .int .i64 b), (2, .int .i64 c)] : Array (Nat × Value)).toList = some #[.int .i64 a, .int .i64 b, .int .i64 c] := by kernel_rfl
abbrev vv (a : V3) : Value := .agg #[.int .i64 a.1, .int .i64 a.2.1, .string a.2.2]
abbrev encV (a : V3) : List Value := [.int .i64 a.1, .int .i64 a.2.1, .string a.2.2]
def Φc : Facts := fun i ags v _ => (i = 4 → ∀ x y, ags = [.int .i64 x, .int .i64 y] → v = .int .i64 (cmpI x y)) ∧ (i = 9 → ∀ x y, ags = [.int .i64 x, .int .i64 y] → v = .int .i64 (cmpI x y))
theorem compV (a b : V3) (w : World) : call Try.prog 48 [vv a, vv b] (.one (.one (.int .i64))) w (fun (r : Int) w' => r = cmpV a b ∧ bel w w') := by
  refine call_of (S48_calls a.1 a.2.1 a.2.2 b.1 b.2.1 b.2.2 w _ ?_)
  unfold S48
  refine wr_box fun x1 w2 X1 h2 _ _ => ?_
  refine wr_box fun x3 w4 X3 h4 _ _ => ?_
  replace X1 : Box w4 x1 (encV a) := X1.up h4
  replace X3 : Box w4 x3 (encV b) := X3
  replace h2 := h2.trans h4
  refine drw_mk fun w5 h5 _ => ?_
  replace X1 := X1.up h5
  replace X3 := X3.up h5
  replace h2 := h2.trans h5
  refine flEx_mk Φc (fun i ags v w w' h _ => h) ?_
  refine rd_box0 (by kernel_rfl) X1 rfl rfl ?_
  refine rd_box0 (by kernel_rfl) X3 rfl rfl ?_
  refine flc_mk (fun w9 _ _ => call_mono (compI _ _ w9) fun (x : Int) w12 ⟨e1, e2⟩ => ?_) fun (x13 : Int) => ?_
  · subst e1 e2
    exact ⟨bel.refl _, fun _ x y he => by injection he with h1 h2; injection h2 with h2 _; injection h1 with _ h1; injection h2 with _ h2; subst h1 h2; rfl, fun q => by omega⟩
  refine rd_box (by kernel_rfl) X1 (i := 1) rfl rfl ?_
  refine rd_box (by kernel_rfl) X3 (i := 1) rfl rfl ?_
  refine flc_mk (fun w9 _ _ => call_mono (compL _ _ w9) fun (x : Int) w12 ⟨e1, e2⟩ => ?_) fun (x20 : Int) => ?_
  · subst e1 e2
    exact ⟨bel.refl _, fun q => by omega, fun _ x y he => by injection he with h1 h2; injection h2 with h2 _; injection h1 with _ h1; injection h2 with _ h2; subst h1 h2; rfl⟩
  refine rd_box (by kernel_rfl) X1 (i := 2) rfl rfl ?_
  refine rd_box (by kernel_rfl) X3 (i := 2) rfl rfl ?_
  refine flend_mk fun w23 h23 ⟨f9, f4, _⟩ => ?_
  have e13 := f4.1 rfl _ _ rfl
  have e20 := f9.2 rfl _ _ rfl
  injection e13 with _ e13
  injection e20 with _ e20
  refine call_mono (compS _ _ w23) fun (x25 : Int) w26 ⟨e25, ew⟩ => ?_
  subst ew
  refine wr_lit tyI #[.int .i64 x13, .int .i64 x20, .int .i64 x25] (fill_i3 _ _ _) (by omega) (by omega) rfl (by unfold maxLen; omega) fun ad w28 L h28 _ _ => ?_
  have S := (L w26.heap.size (Nat.le_refl _)).sl
  refine call_mono (orF (some ad, 3, 3) [x13, x20, x25] w28 S) fun (x29 : Int) w30 ⟨e29, h30⟩ => ?_
  refine ⟨_, rfl, ?_, ((h2.trans h23).trans h28).trans h30⟩
  subst e29 e25 e13 e20
  unfold cmpV or2
  simp only [first0]
  have e : ∀ n : Int, (if n = 0 then 0 else n) = n := fun n => by split <;> omega
  rw [e]
end Go.Proofs.Ytalagcggmbeddaa

/- The conditions of functions, printed by our tool; each is checked against the code by the kernel. -/



namespace Go.Proofs
open Go Go.V Go.RowKit
/-- querylab/querylabref07.copied -/
def S42 (r_a : Option Addr) (r_n : Nat) (r_c : Nat) (w0 : World) (R : Value → World → Prop) : Prop :=
 wr Try.prog (Instr.makeSlice 24 (.int .i64 ((r_n : Nat) : Int)) (.int .i64 ((r_n : Nat) : Int))) (.one .slice) w0 fun (x1 : (Option Addr × Nat × Nat)) (w2 : World) =>
 wr Try.prog (Builtin.copy_ #[24, 24] 3 #[(.slice x1.1 x1.2.1 x1.2.2), (.slice r_a r_n r_c)]) (.one (.int .i64)) w2 fun (_x3 : Int) (w4 : World) =>
 R (.slice x1.1 x1.2.1 x1.2.2) w4
def H42 : Hints := ⟨[], [], [], []⟩
set_option maxRecDepth 100000 in
theorem S42_eq (r_a : Option Addr) (r_n : Nat) (r_c : Nat) (w0 : World) (R : Value → World → Prop) : vcFn Try.prog H42 Try.f42 [(.slice r_a r_n r_c)] w0 R = S42 r_a r_n r_c w0 R := by kernel_rfl
set_option maxRecDepth 100000 in
theorem S42_calls (r_a : Option Addr) (r_n : Nat) (r_c : Nat) (w0 : World) (R : Value → World → Prop) (h : S42 r_a r_n r_c w0 R) : Calls Try.prog 42 #[(.slice r_a r_n r_c)] w0 (ret R) := by
  rw [← S42_eq] at h; exact vcFn_sound follows_ Try.func42 h

/-- querylab/querylabref07.Canonical -/
def S25 (rows_a : Option Addr) (rows_n : Nat) (rows_c : Nat) (w0 : World) (R : Value → World → Prop) : Prop :=
 br (decide (((rows_n : Nat) : Int) < 2)) (loop (T := ((Option Addr × Nat × Nat) × Int × Unit)) ((none, 0, 0), 0, ()) w0 fun (again1 : ((Option Addr × Nat × Nat) × Int × Unit) → World → Prop) (s2 : ((Option Addr × Nat × Nat) × Int × Unit)) w3 => ∀ _ : Nat → Value,
 br (decide (s2.2.1 < ((rows_n : Nat) : Int))) (rdp Try.prog (Instr.indexAt 22 (.slice rows_a rows_n rows_c) (.int .i64 s2.2.1)) (.one .addr) fun (x4 : Addr) =>
 rd Try.prog (Instr.loadAt 24 (.pointer (some x4))) (.one .slice) w3 fun (x5 : (Option Addr × Nat × Nat)) =>
 call Try.prog 42 [(.slice x5.1 x5.2.1 x5.2.2)] (.one (.one .slice)) w3 fun (x6 : (Option Addr × Nat × Nat)) (w7 : World) =>
 wr Try.prog (Instr.buildSlice 22 1 #[(0, (.slice x6.1 x6.2.1 x6.2.2))]) (.one .slice) w7 fun (x8 : (Option Addr × Nat × Nat)) (w9 : World) =>
 wr Try.prog (Builtin.append_ #[22, 22] 22 #[(.slice s2.1.1 s2.1.2.1 s2.1.2.2), (.slice x8.1 x8.2.1 x8.2.2)]) (.one .slice) w9 fun (x10 : (Option Addr × Nat × Nat)) (w11 : World) =>
 z (IntKind.wrap .i64 (s2.2.1 + 1)) fun (z12 : Int) =>
 again1 ((x10.1, x10.2.1, x10.2.2), z12, ()) w11)
 (R (.slice s2.1.1 s2.1.2.1 s2.1.2.2) w3))
 (drw w0 fun w13 => flEx fun F14 =>
 rdp Try.prog (cmpS .quo 3 (.tmp 30) (.const (.int .i64 2)) (.int .i64 ((rows_n : Nat) : Int)) (.int .i64 2)) (.one (.int .i64)) fun (x15 : Int) =>
 rdp Try.prog (Instr.sliceAt 22 (.slice rows_a rows_n rows_c) none (some (.int .i64 x15)) none) (.one .slice) fun (x16 : (Option Addr × Nat × Nat)) =>
 flc bel w13 (fun _w18 => True) (fun (w17 : World) =>
   call Try.prog 25 [(.slice x16.1 x16.2.1 x16.2.2)] (.one (.one .slice)) w17 fun (x19 : (Option Addr × Nat × Nat)) (w20 : World) =>
 (bel w17 w20 ∧ F14 5 [(.slice x16.1 x16.2.1 x16.2.2)] (.slice x19.1 x19.2.1 x19.2.2) w20))
  fun (x21 : (Option Addr × Nat × Nat)) =>
 rdp Try.prog (cmpS .quo 3 (.tmp 36) (.const (.int .i64 2)) (.int .i64 ((rows_n : Nat) : Int)) (.int .i64 2)) (.one (.int .i64)) fun (x22 : Int) =>
 rdp Try.prog (Instr.sliceAt 22 (.slice rows_a rows_n rows_c) (some (.int .i64 x22)) none none) (.one .slice) fun (x23 : (Option Addr × Nat × Nat)) =>
 flend bel w13 (fun w25 => F14 5 [(.slice x16.1 x16.2.1 x16.2.2)] (.slice x21.1 x21.2.1 x21.2.2) w25 ∧ True) fun w24 =>
 call Try.prog 25 [(.slice x23.1 x23.2.1 x23.2.2)] (.one (.one .slice)) w24 fun (x26 : (Option Addr × Nat × Nat)) (w27 : World) =>
 loop (T := ((Option Addr × Nat × Nat) × Int × Int × Unit)) ((none, 0, 0), 0, 0, ()) w27 fun (again28 : ((Option Addr × Nat × Nat) × Int × Int × Unit) → World → Prop) (s29 : ((Option Addr × Nat × Nat) × Int × Int × Unit)) w30 => ∀ _ : Nat → Value,
 join (T := (Unit)) (fun (_s32 : (Unit)) w33 => ∀ _ : Nat → Value,
 join (T := (Bool × Unit)) (fun (s35 : (Bool × Unit)) w36 => ∀ _ : Nat → Value,
 br s35.1 (rdp Try.prog (Instr.indexAt 22 (.slice x21.1 x21.2.1 x21.2.2) (.int .i64 s29.2.1)) (.one .addr) fun (x37 : Addr) =>
 rd Try.prog (Instr.loadAt 24 (.pointer (some x37))) (.one .slice) w36 fun (x38 : (Option Addr × Nat × Nat)) =>
 wr Try.prog (Instr.buildSlice 22 1 #[(0, (.slice x38.1 x38.2.1 x38.2.2))]) (.one .slice) w36 fun (x39 : (Option Addr × Nat × Nat)) (w40 : World) =>
 wr Try.prog (Builtin.append_ #[22, 22] 22 #[(.slice s29.1.1 s29.1.2.1 s29.1.2.2), (.slice x39.1 x39.2.1 x39.2.2)]) (.one .slice) w40 fun (x41 : (Option Addr × Nat × Nat)) (w42 : World) =>
 z (IntKind.wrap .i64 (s29.2.1 + 1)) fun (z43 : Int) =>
 again28 ((x41.1, x41.2.1, x41.2.2), z43, s29.2.2.1, ()) w42)
 (rdp Try.prog (Instr.indexAt 22 (.slice x26.1 x26.2.1 x26.2.2) (.int .i64 s29.2.2.1)) (.one .addr) fun (x44 : Addr) =>
 rd Try.prog (Instr.loadAt 24 (.pointer (some x44))) (.one .slice) w36 fun (x45 : (Option Addr × Nat × Nat)) =>
 wr Try.prog (Instr.buildSlice 22 1 #[(0, (.slice x45.1 x45.2.1 x45.2.2))]) (.one .slice) w36 fun (x46 : (Option Addr × Nat × Nat)) (w47 : World) =>
 wr Try.prog (Builtin.append_ #[22, 22] 22 #[(.slice s29.1.1 s29.1.2.1 s29.1.2.2), (.slice x46.1 x46.2.1 x46.2.2)]) (.one .slice) w47 fun (x48 : (Option Addr × Nat × Nat)) (w49 : World) =>
 z (IntKind.wrap .i64 (s29.2.2.1 + 1)) fun (z50 : Int) =>
 again28 ((x48.1, x48.2.1, x48.2.2), s29.2.1, z50, ()) w49))
  fun (K34 : (Bool × Unit) → World → Prop) =>
 drw w33 fun w51 =>
 br (s29.2.2.1 == ((x26.2.1 : Nat) : Int)) (K34 (true, ()) w51)
 (br (decide (s29.2.1 < ((x21.2.1 : Nat) : Int))) (rdp Try.prog (Instr.indexAt 22 (.slice x21.1 x21.2.1 x21.2.2) (.int .i64 s29.2.1)) (.one .addr) fun (x52 : Addr) =>
 rd Try.prog (Instr.loadAt 24 (.pointer (some x52))) (.one .slice) w51 fun (x53 : (Option Addr × Nat × Nat)) =>
 rdp Try.prog (Instr.indexAt 22 (.slice x26.1 x26.2.1 x26.2.2) (.int .i64 s29.2.2.1)) (.one .addr) fun (x54 : Addr) =>
 rd Try.prog (Instr.loadAt 24 (.pointer (some x54))) (.one .slice) w51 fun (x55 : (Option Addr × Nat × Nat)) =>
 call Try.prog 15 [(.slice x53.1 x53.2.1 x53.2.2), (.slice x55.1 x55.2.1 x55.2.2)] (.one (.one (.int .i64))) w51 fun (x56 : Int) (w57 : World) =>
 K34 ((decide (x56 ≤ 0)), ()) w57)
 (K34 (false, ()) w51)))
  fun (K31 : (Unit) → World → Prop) =>
 br (decide (s29.2.1 < ((x21.2.1 : Nat) : Int))) (K31 (()) w30)
 (br (decide (s29.2.2.1 < ((x26.2.1 : Nat) : Int))) (K31 (()) w30)
 (R (.slice s29.1.1 s29.1.2.1 s29.1.2.2) w30)))
def H25 : Hints := ⟨[(2, 0, [(3, (.one .slice)), (4, (.one (.int .i64)))]), (2, 2, [(7, (.one .slice)), (8, (.one (.int .i64))), (9, (.one (.int .i64)))]), (0, 49, []), (3, 12, [(71, (.one .bool))])], [(8, 11), (12, 18)], [], []⟩
set_option maxRecDepth 100000 in
theorem S25_eq (rows_a : Option Addr) (rows_n : Nat) (rows_c : Nat) (w0 : World) (R : Value → World → Prop) : vcFn Try.prog H25 Try.f25 [(.slice rows_a rows_n rows_c)] w0 R = S25 rows_a rows_n rows_c w0 R := by kernel_rfl
set_option maxRecDepth 100000 in
theorem S25_calls (rows_a : Option Addr) (rows_n : Nat) (rows_c : Nat) (w0 : World) (R : Value → World → Prop) (h : S25 rows_a rows_n rows_c w0 R) : Calls Try.prog 25 #[(.slice rows_a rows_n rows_c)] w0 (ret R) := by
  rw [← S25_eq] at h; exact vcFn_sound follows_ Try.func25 h

/-- querylab/querylabref07.Count -/
def S12 (rows_a : Option Addr) (rows_n : Nat) (rows_c : Nat) (row_a : Option Addr) (row_n : Nat) (row_c : Nat) (w0 : World) (R : Value → World → Prop) : Prop :=
 loop (T := (Int × Int × Unit)) (0, 0, ()) w0 fun (again1 : (Int × Int × Unit) → World → Prop) (s2 : (Int × Int × Unit)) w3 => ∀ _ : Nat → Value,
 br (decide (s2.2.1 < ((rows_n : Nat) : Int))) (join (T := (Int × Unit)) (fun (s5 : (Int × Unit)) w6 => ∀ _ : Nat → Value,
 z (IntKind.wrap .i64 (s2.2.1 + 1)) fun (z7 : Int) =>
 again1 (s5.1, z7, ()) w6)
  fun (K4 : (Int × Unit) → World → Prop) =>
 rdp Try.prog (Instr.indexAt 22 (.slice rows_a rows_n rows_c) (.int .i64 s2.2.1)) (.one .addr) fun (x8 : Addr) =>
 rd Try.prog (Instr.loadAt 24 (.pointer (some x8))) (.one .slice) w3 fun (x9 : (Option Addr × Nat × Nat)) =>
 call Try.prog 15 [(.slice x9.1 x9.2.1 x9.2.2), (.slice row_a row_n row_c)] (.one (.one (.int .i64))) w3 fun (x10 : Int) (w11 : World) =>
 br (x10 == 0) (z (IntKind.wrap .i64 (s2.1 + 1)) fun (z12 : Int) =>
 K4 (z12, ()) w11)
 (K4 (s2.1, ()) w11))
 (R (.int .i64 s2.1) w3)
def H12 : Hints := ⟨[(2, 0, [(5, (.one (.int .i64))), (6, (.one (.int .i64)))]), (1, 1, [(5, (.one (.int .i64)))])], [], [], []⟩
set_option maxRecDepth 100000 in
theorem S12_eq (rows_a : Option Addr) (rows_n : Nat) (rows_c : Nat) (row_a : Option Addr) (row_n : Nat) (row_c : Nat) (w0 : World) (R : Value → World → Prop) : vcFn Try.prog H12 Try.f12 [(.slice rows_a rows_n rows_c), (.slice row_a row_n row_c)] w0 R = S12 rows_a rows_n rows_c row_a row_n row_c w0 R := by kernel_rfl
set_option maxRecDepth 100000 in
theorem S12_calls (rows_a : Option Addr) (rows_n : Nat) (rows_c : Nat) (row_a : Option Addr) (row_n : Nat) (row_c : Nat) (w0 : World) (R : Value → World → Prop) (h : S12 rows_a rows_n rows_c row_a row_n row_c w0 R) : Calls Try.prog 12 #[(.slice rows_a rows_n rows_c), (.slice row_a row_n row_c)] w0 (ret R) := by
  rw [← S12_eq] at h; exact vcFn_sound follows_ Try.func12 h

/-- querylab/querylabref07.groups -/
def S32 (a_a : Option Addr) (a_n : Nat) (a_c : Nat) (b_a : Option Addr) (b_n : Nat) (b_c : Nat) (w0 : World) (R : Value → World → Prop) : Prop :=
 call Try.prog 25 [(.slice a_a a_n a_c)] (.one (.one .slice)) w0 fun (x1 : (Option Addr × Nat × Nat)) (w2 : World) =>
 call Try.prog 25 [(.slice b_a b_n b_c)] (.one (.one .slice)) w2 fun (x3 : (Option Addr × Nat × Nat)) (w4 : World) =>
 loop (T := ((Option Addr × Nat × Nat) × Int × Int × Unit)) ((none, 0, 0), 0, 0, ()) w4 fun (again5 : ((Option Addr × Nat × Nat) × Int × Int × Unit) → World → Prop) (s6 : ((Option Addr × Nat × Nat) × Int × Int × Unit)) w7 => ∀ _ : Nat → Value,
 join (T := (Unit)) (fun (_s9 : (Unit)) w10 => ∀ _ : Nat → Value,
 join (T := ((Option Addr × Nat × Nat) × Unit)) (fun (s12 : ((Option Addr × Nat × Nat) × Unit)) w13 => ∀ _ : Nat → Value,
 wr Try.prog (Instr.alloc 43 true (.tuple #[])) (.one .addr) w13 fun (x14 : Addr) (w15 : World) =>
 wu Try.prog (Instr.storeAt 43 (.pointer (some x14)) (.agg #[(.slice s12.1.1 s12.1.2.1 s12.1.2.2), (.int .i64 0), (.int .i64 0)])) w15 fun (w16 : World) =>
 join (T := (Int × Unit)) (fun (s18 : (Int × Unit)) w19 => ∀ _ : Nat → Value,
 join (T := (Int × Unit)) (fun (s21 : (Int × Unit)) w22 => ∀ _ : Nat → Value,
 rd Try.prog (Instr.loadAt 43 (.pointer (some x14))) (.agg [.slice, (.int .i64), (.int .i64)]) w22 fun (x23 : ((Option Addr × Nat × Nat) × Int × Int × Unit)) =>
 wr Try.prog (Instr.buildSlice 40 1 #[(0, (.agg #[(.slice x23.1.1 x23.1.2.1 x23.1.2.2), (.int .i64 x23.2.1), (.int .i64 x23.2.2.1)]))]) (.one .slice) w22 fun (x24 : (Option Addr × Nat × Nat)) (w25 : World) =>
 wr Try.prog (Builtin.append_ #[40, 40] 40 #[(.slice s6.1.1 s6.1.2.1 s6.1.2.2), (.slice x24.1 x24.2.1 x24.2.2)]) (.one .slice) w25 fun (x26 : (Option Addr × Nat × Nat)) (w27 : World) =>
 again5 ((x26.1, x26.2.1, x26.2.2), s18.1, s21.1, ()) w27)
  fun (K20 : (Int × Unit) → World → Prop) =>
 loop (T := (Int × Unit)) (s6.2.2.1, ()) w19 fun (again28 : (Int × Unit) → World → Prop) (s29 : (Int × Unit)) w30 => ∀ _ : Nat → Value,
 br (decide (s29.1 < ((x3.2.1 : Nat) : Int))) (rdp Try.prog (Instr.indexAt 22 (.slice x3.1 x3.2.1 x3.2.2) (.int .i64 s29.1)) (.one .addr) fun (x31 : Addr) =>
 rd Try.prog (Instr.loadAt 24 (.pointer (some x31))) (.one .slice) w30 fun (x32 : (Option Addr × Nat × Nat)) =>
 call Try.prog 15 [(.slice x32.1 x32.2.1 x32.2.2), (.slice s12.1.1 s12.1.2.1 s12.1.2.2)] (.one (.one (.int .i64))) w30 fun (x33 : Int) (w34 : World) =>
 br (x33 == 0) (rd Try.prog (Instr.loadAt 3 (.pointer (some (Addr.add x14 2)))) (.one (.int .i64)) w34 fun (x35 : Int) =>
 z (IntKind.wrap .i64 (x35 + 1)) fun (z36 : Int) =>
 wu Try.prog (Instr.storeAt 3 (.pointer (some (Addr.add x14 2))) (.int .i64 z36)) w34 fun (w37 : World) =>
 z (IntKind.wrap .i64 (s29.1 + 1)) fun (z38 : Int) =>
 again28 (z38, ()) w37)
 (K20 (s29.1, ()) w34))
 (K20 (s29.1, ()) w30))
  fun (K17 : (Int × Unit) → World → Prop) =>
 loop (T := (Int × Unit)) (s6.2.1, ()) w16 fun (again39 : (Int × Unit) → World → Prop) (s40 : (Int × Unit)) w41 => ∀ _ : Nat → Value,
 br (decide (s40.1 < ((x1.2.1 : Nat) : Int))) (rdp Try.prog (Instr.indexAt 22 (.slice x1.1 x1.2.1 x1.2.2) (.int .i64 s40.1)) (.one .addr) fun (x42 : Addr) =>
 rd Try.prog (Instr.loadAt 24 (.pointer (some x42))) (.one .slice) w41 fun (x43 : (Option Addr × Nat × Nat)) =>
 call Try.prog 15 [(.slice x43.1 x43.2.1 x43.2.2), (.slice s12.1.1 s12.1.2.1 s12.1.2.2)] (.one (.one (.int .i64))) w41 fun (x44 : Int) (w45 : World) =>
 br (x44 == 0) (rd Try.prog (Instr.loadAt 3 (.pointer (some (Addr.add x14 1)))) (.one (.int .i64)) w45 fun (x46 : Int) =>
 z (IntKind.wrap .i64 (x46 + 1)) fun (z47 : Int) =>
 wu Try.prog (Instr.storeAt 3 (.pointer (some (Addr.add x14 1))) (.int .i64 z47)) w45 fun (w48 : World) =>
 z (IntKind.wrap .i64 (s40.1 + 1)) fun (z49 : Int) =>
 again39 (z49, ()) w48)
 (K17 (s40.1, ()) w45))
 (K17 (s40.1, ()) w41))
  fun (K11 : ((Option Addr × Nat × Nat) × Unit) → World → Prop) =>
 drw w10 fun w50 =>
 br (s6.2.2.1 == ((x3.2.1 : Nat) : Int)) (rdp Try.prog (Instr.indexAt 22 (.slice x1.1 x1.2.1 x1.2.2) (.int .i64 s6.2.1)) (.one .addr) fun (x51 : Addr) =>
 rd Try.prog (Instr.loadAt 24 (.pointer (some x51))) (.one .slice) w50 fun (x52 : (Option Addr × Nat × Nat)) =>
 K11 ((x52.1, x52.2.1, x52.2.2), ()) w50)
 (br (decide (s6.2.1 < ((x1.2.1 : Nat) : Int))) (rdp Try.prog (Instr.indexAt 22 (.slice x1.1 x1.2.1 x1.2.2) (.int .i64 s6.2.1)) (.one .addr) fun (x53 : Addr) =>
 rd Try.prog (Instr.loadAt 24 (.pointer (some x53))) (.one .slice) w50 fun (x54 : (Option Addr × Nat × Nat)) =>
 rdp Try.prog (Instr.indexAt 22 (.slice x3.1 x3.2.1 x3.2.2) (.int .i64 s6.2.2.1)) (.one .addr) fun (x55 : Addr) =>
 rd Try.prog (Instr.loadAt 24 (.pointer (some x55))) (.one .slice) w50 fun (x56 : (Option Addr × Nat × Nat)) =>
 call Try.prog 15 [(.slice x54.1 x54.2.1 x54.2.2), (.slice x56.1 x56.2.1 x56.2.2)] (.one (.one (.int .i64))) w50 fun (x57 : Int) (w58 : World) =>
 br (decide (x57 ≤ 0)) (rdp Try.prog (Instr.indexAt 22 (.slice x1.1 x1.2.1 x1.2.2) (.int .i64 s6.2.1)) (.one .addr) fun (x59 : Addr) =>
 rd Try.prog (Instr.loadAt 24 (.pointer (some x59))) (.one .slice) w58 fun (x60 : (Option Addr × Nat × Nat)) =>
 K11 ((x60.1, x60.2.1, x60.2.2), ()) w58)
 (rdp Try.prog (Instr.indexAt 22 (.slice x3.1 x3.2.1 x3.2.2) (.int .i64 s6.2.2.1)) (.one .addr) fun (x61 : Addr) =>
 rd Try.prog (Instr.loadAt 24 (.pointer (some x61))) (.one .slice) w58 fun (x62 : (Option Addr × Nat × Nat)) =>
 K11 ((x62.1, x62.2.1, x62.2.2), ()) w58))
 (rdp Try.prog (Instr.indexAt 22 (.slice x3.1 x3.2.1 x3.2.2) (.int .i64 s6.2.2.1)) (.one .addr) fun (x63 : Addr) =>
 rd Try.prog (Instr.loadAt 24 (.pointer (some x63))) (.one .slice) w50 fun (x64 : (Option Addr × Nat × Nat)) =>
 K11 ((x64.1, x64.2.1, x64.2.2), ()) w50)))
  fun (K8 : (Unit) → World → Prop) =>
 br (decide (s6.2.1 < ((x1.2.1 : Nat) : Int))) (K8 (()) w7)
 (br (decide (s6.2.2.1 < ((x3.2.1 : Nat) : Int))) (K8 (()) w7)
 (R (.slice s6.1.1 s6.1.2.1 s6.1.2.2) w7))
def H32 : Hints := ⟨[(2, 0, [(7, (.one .slice)), (8, (.one (.int .i64))), (9, (.one (.int .i64)))]), (0, 25, []), (0, 47, [(10, (.one .slice))]), (2, 2, [(8, (.one (.int .i64)))]), (1, 2, [(8, (.one (.int .i64)))]), (2, 4, [(9, (.one (.int .i64)))]), (1, 4, [(9, (.one (.int .i64)))])], [(6, 18)], [], []⟩
set_option maxRecDepth 100000 in
theorem S32_eq (a_a : Option Addr) (a_n : Nat) (a_c : Nat) (b_a : Option Addr) (b_n : Nat) (b_c : Nat) (w0 : World) (R : Value → World → Prop) : vcFn Try.prog H32 Try.f32 [(.slice a_a a_n a_c), (.slice b_a b_n b_c)] w0 R = S32 a_a a_n a_c b_a b_n b_c w0 R := by kernel_rfl
set_option maxRecDepth 100000 in
theorem S32_calls (a_a : Option Addr) (a_n : Nat) (a_c : Nat) (b_a : Option Addr) (b_n : Nat) (b_c : Nat) (w0 : World) (R : Value → World → Prop) (h : S32 a_a a_n a_c b_a b_n b_c w0 R) : Calls Try.prog 32 #[(.slice a_a a_n a_c), (.slice b_a b_n b_c)] w0 (ret R) := by
  rw [← S32_eq] at h; exact vcFn_sound follows_ Try.func32 h

/-- querylab/querylabref07.times -/
def S33 (out_a : Option Addr) (out_n : Nat) (out_c : Nat) (r_a : Option Addr) (r_n : Nat) (r_c : Nat) (n_ : Int) (w0 : World) (R : Value → World → Prop) : Prop :=
 loop (T := ((Option Addr × Nat × Nat) × Int × Unit)) ((out_a, out_n, out_c), 0, ()) w0 fun (again1 : ((Option Addr × Nat × Nat) × Int × Unit) → World → Prop) (s2 : ((Option Addr × Nat × Nat) × Int × Unit)) w3 => ∀ _ : Nat → Value,
 br (decide (s2.2.1 < n_)) (call Try.prog 42 [(.slice r_a r_n r_c)] (.one (.one .slice)) w3 fun (x4 : (Option Addr × Nat × Nat)) (w5 : World) =>
 wr Try.prog (Instr.buildSlice 22 1 #[(0, (.slice x4.1 x4.2.1 x4.2.2))]) (.one .slice) w5 fun (x6 : (Option Addr × Nat × Nat)) (w7 : World) =>
 wr Try.prog (Builtin.append_ #[22, 22] 22 #[(.slice s2.1.1 s2.1.2.1 s2.1.2.2), (.slice x6.1 x6.2.1 x6.2.2)]) (.one .slice) w7 fun (x8 : (Option Addr × Nat × Nat)) (w9 : World) =>
 z (IntKind.wrap .i64 (s2.2.1 + 1)) fun (z10 : Int) =>
 again1 ((x8.1, x8.2.1, x8.2.2), z10, ()) w9)
 (R (.slice s2.1.1 s2.1.2.1 s2.1.2.2) w3)
def H33 : Hints := ⟨[(2, 0, [(0, (.one .slice)), (7, (.one (.int .i64)))])], [], [], []⟩
set_option maxRecDepth 100000 in
theorem S33_eq (out_a : Option Addr) (out_n : Nat) (out_c : Nat) (r_a : Option Addr) (r_n : Nat) (r_c : Nat) (n_ : Int) (w0 : World) (R : Value → World → Prop) : vcFn Try.prog H33 Try.f33 [(.slice out_a out_n out_c), (.slice r_a r_n r_c), (.int .i64 n_)] w0 R = S33 out_a out_n out_c r_a r_n r_c n_ w0 R := by kernel_rfl
set_option maxRecDepth 100000 in
theorem S33_calls (out_a : Option Addr) (out_n : Nat) (out_c : Nat) (r_a : Option Addr) (r_n : Nat) (r_c : Nat) (n_ : Int) (w0 : World) (R : Value → World → Prop) (h : S33 out_a out_n out_c r_a r_n r_c n_ w0 R) : Calls Try.prog 33 #[(.slice out_a out_n out_c), (.slice r_a r_n r_c), (.int .i64 n_)] w0 (ret R) := by
  rw [← S33_eq] at h; exact vcFn_sound follows_ Try.func33 h

/-- querylab/querylabref07.one -/
def S43 (b_ : Bool) (w0 : World) (R : Value → World → Prop) : Prop :=
 br b_ (R (.int .i64 1) w0)
 (R (.int .i64 0) w0)
def H43 : Hints := ⟨[], [], [], []⟩
set_option maxRecDepth 100000 in
theorem S43_eq (b_ : Bool) (w0 : World) (R : Value → World → Prop) : vcFn Try.prog H43 Try.f43 [(.bool b_)] w0 R = S43 b_ w0 R := by kernel_rfl
set_option maxRecDepth 100000 in
theorem S43_calls (b_ : Bool) (w0 : World) (R : Value → World → Prop) (h : S43 b_ w0 R) : Calls Try.prog 43 #[(.bool b_)] w0 (ret R) := by
  rw [← S43_eq] at h; exact vcFn_sound follows_ Try.func43 h

/-- querylab/querylabref07.Union -/
def S14 (a_a : Option Addr) (a_n : Nat) (a_c : Nat) (b_a : Option Addr) (b_n : Nat) (b_c : Nat) (all_ : Bool) (w0 : World) (R : Value → World → Prop) : Prop :=
 call Try.prog 32 [(.slice a_a a_n a_c), (.slice b_a b_n b_c)] (.one (.one .slice)) w0 fun (x1 : (Option Addr × Nat × Nat)) (w2 : World) =>
 loop (T := ((Option Addr × Nat × Nat) × Int × Unit)) ((none, 0, 0), 0, ()) w2 fun (again3 : ((Option Addr × Nat × Nat) × Int × Unit) → World → Prop) (s4 : ((Option Addr × Nat × Nat) × Int × Unit)) w5 => ∀ _ : Nat → Value,
 br (decide (s4.2.1 < ((x1.2.1 : Nat) : Int))) (join (T := ((Option Addr × Nat × Nat) × Unit)) (fun (s7 : ((Option Addr × Nat × Nat) × Unit)) w8 => ∀ _ : Nat → Value,
 z (IntKind.wrap .i64 (s4.2.1 + 1)) fun (z9 : Int) =>
 again3 ((s7.1.1, s7.1.2.1, s7.1.2.2), z9, ()) w8)
  fun (K6 : ((Option Addr × Nat × Nat) × Unit) → World → Prop) =>
 join (T := (Int × Unit)) (fun (s11 : (Int × Unit)) w12 => ∀ _ : Nat → Value,
 rdp Try.prog (Instr.indexAt 40 (.slice x1.1 x1.2.1 x1.2.2) (.int .i64 s4.2.1)) (.one .addr) fun (x13 : Addr) =>
 rd Try.prog (Instr.loadAt 24 (.pointer (some x13))) (.one .slice) w12 fun (x14 : (Option Addr × Nat × Nat)) =>
 call Try.prog 33 [(.slice s4.1.1 s4.1.2.1 s4.1.2.2), (.slice x14.1 x14.2.1 x14.2.2), (.int .i64 s11.1)] (.one (.one .slice)) w12 fun (x15 : (Option Addr × Nat × Nat)) (w16 : World) =>
 K6 ((x15.1, x15.2.1, x15.2.2), ()) w16)
  fun (K10 : (Int × Unit) → World → Prop) =>
 br all_ (drw w5 fun w17 =>
 rdp Try.prog (Instr.indexAt 40 (.slice x1.1 x1.2.1 x1.2.2) (.int .i64 s4.2.1)) (.one .addr) fun (x18 : Addr) =>
 rd Try.prog (Instr.loadAt 3 (.pointer (some (Addr.add x18 1)))) (.one (.int .i64)) w17 fun (x19 : Int) =>
 rdp Try.prog (Instr.indexAt 40 (.slice x1.1 x1.2.1 x1.2.2) (.int .i64 s4.2.1)) (.one .addr) fun (x20 : Addr) =>
 rd Try.prog (Instr.loadAt 3 (.pointer (some (Addr.add x20 2)))) (.one (.int .i64)) w17 fun (x21 : Int) =>
 z (IntKind.wrap .i64 (x19 + x21)) fun (z22 : Int) =>
 K10 (z22, ()) w17)
 (K10 (1, ()) w5))
 (R (.slice s4.1.1 s4.1.2.1 s4.1.2.2) w5)
def H14 : Hints := ⟨[(2, 0, [(8, (.one .slice)), (9, (.one (.int .i64)))]), (0, 20, [(10, (.one (.int .i64)))]), (1, 1, [(8, (.one .slice))])], [(8, 10)], [], []⟩
set_option maxRecDepth 100000 in
theorem S14_eq (a_a : Option Addr) (a_n : Nat) (a_c : Nat) (b_a : Option Addr) (b_n : Nat) (b_c : Nat) (all_ : Bool) (w0 : World) (R : Value → World → Prop) : vcFn Try.prog H14 Try.f14 [(.slice a_a a_n a_c), (.slice b_a b_n b_c), (.bool all_)] w0 R = S14 a_a a_n a_c b_a b_n b_c all_ w0 R := by kernel_rfl
set_option maxRecDepth 100000 in
theorem S14_calls (a_a : Option Addr) (a_n : Nat) (a_c : Nat) (b_a : Option Addr) (b_n : Nat) (b_c : Nat) (all_ : Bool) (w0 : World) (R : Value → World → Prop) (h : S14 a_a a_n a_c b_a b_n b_c all_ w0 R) : Calls Try.prog 14 #[(.slice a_a a_n a_c), (.slice b_a b_n b_c), (.bool all_)] w0 (ret R) := by
  rw [← S14_eq] at h; exact vcFn_sound follows_ Try.func14 h

/-- querylab/querylabref07.Except -/
def S26 (a_a : Option Addr) (a_n : Nat) (a_c : Nat) (b_a : Option Addr) (b_n : Nat) (b_c : Nat) (all_ : Bool) (w0 : World) (R : Value → World → Prop) : Prop :=
 call Try.prog 32 [(.slice a_a a_n a_c), (.slice b_a b_n b_c)] (.one (.one .slice)) w0 fun (x1 : (Option Addr × Nat × Nat)) (w2 : World) =>
 loop (T := ((Option Addr × Nat × Nat) × Int × Unit)) ((none, 0, 0), 0, ()) w2 fun (again3 : ((Option Addr × Nat × Nat) × Int × Unit) → World → Prop) (s4 : ((Option Addr × Nat × Nat) × Int × Unit)) w5 => ∀ _ : Nat → Value,
 br (decide (s4.2.1 < ((x1.2.1 : Nat) : Int))) (join (T := ((Option Addr × Nat × Nat) × Unit)) (fun (s7 : ((Option Addr × Nat × Nat) × Unit)) w8 => ∀ _ : Nat → Value,
 z (IntKind.wrap .i64 (s4.2.1 + 1)) fun (z9 : Int) =>
 again3 ((s7.1.1, s7.1.2.1, s7.1.2.2), z9, ()) w8)
  fun (K6 : ((Option Addr × Nat × Nat) × Unit) → World → Prop) =>
 join (T := (Int × Unit)) (fun (s11 : (Int × Unit)) w12 => ∀ _ : Nat → Value,
 join (T := (Int × Unit)) (fun (s14 : (Int × Unit)) w15 => ∀ _ : Nat → Value,
 rdp Try.prog (Instr.indexAt 40 (.slice x1.1 x1.2.1 x1.2.2) (.int .i64 s4.2.1)) (.one .addr) fun (x16 : Addr) =>
 rd Try.prog (Instr.loadAt 24 (.pointer (some x16))) (.one .slice) w15 fun (x17 : (Option Addr × Nat × Nat)) =>
 call Try.prog 33 [(.slice s4.1.1 s4.1.2.1 s4.1.2.2), (.slice x17.1 x17.2.1 x17.2.2), (.int .i64 s14.1)] (.one (.one .slice)) w15 fun (x18 : (Option Addr × Nat × Nat)) (w19 : World) =>
 K6 ((x18.1, x18.2.1, x18.2.2), ()) w19)
  fun (K13 : (Int × Unit) → World → Prop) =>
 br all_ (drw w12 fun w20 =>
 rdp Try.prog (Instr.indexAt 40 (.slice x1.1 x1.2.1 x1.2.2) (.int .i64 s4.2.1)) (.one .addr) fun (x21 : Addr) =>
 rd Try.prog (Instr.loadAt 3 (.pointer (some (Addr.add x21 1)))) (.one (.int .i64)) w20 fun (x22 : Int) =>
 rdp Try.prog (Instr.indexAt 40 (.slice x1.1 x1.2.1 x1.2.2) (.int .i64 s4.2.1)) (.one .addr) fun (x23 : Addr) =>
 rd Try.prog (Instr.loadAt 3 (.pointer (some (Addr.add x23 2)))) (.one (.int .i64)) w20 fun (x24 : Int) =>
 z (IntKind.wrap .i64 (x22 - x24)) fun (z25 : Int) =>
 K13 (z25, ()) w20)
 (K13 (s11.1, ()) w12))
  fun (K10 : (Int × Unit) → World → Prop) =>
 rdp Try.prog (Instr.indexAt 40 (.slice x1.1 x1.2.1 x1.2.2) (.int .i64 s4.2.1)) (.one .addr) fun (x26 : Addr) =>
 rd Try.prog (Instr.loadAt 3 (.pointer (some (Addr.add x26 1)))) (.one (.int .i64)) w5 fun (x27 : Int) =>
 br (decide (x27 > 0)) (rdp Try.prog (Instr.indexAt 40 (.slice x1.1 x1.2.1 x1.2.2) (.int .i64 s4.2.1)) (.one .addr) fun (x28 : Addr) =>
 rd Try.prog (Instr.loadAt 3 (.pointer (some (Addr.add x28 2)))) (.one (.int .i64)) w5 fun (x29 : Int) =>
 call Try.prog 43 [(.bool (x29 == 0))] (.one (.one (.int .i64))) w5 fun (x30 : Int) (w31 : World) =>
 K10 (x30, ()) w31)
 (call Try.prog 43 [(.bool false)] (.one (.one (.int .i64))) w5 fun (x32 : Int) (w33 : World) =>
 K10 (x32, ()) w33))
 (R (.slice s4.1.1 s4.1.2.1 s4.1.2.2) w5)
def H26 : Hints := ⟨[(2, 0, [(8, (.one .slice)), (9, (.one (.int .i64)))]), (3, 6, [(10, (.one (.int .i64)))]), (0, 35, [(10, (.one (.int .i64)))]), (1, 1, [(8, (.one .slice))])], [(8, 10)], [], []⟩
set_option maxRecDepth 100000 in
theorem S26_eq (a_a : Option Addr) (a_n : Nat) (a_c : Nat) (b_a : Option Addr) (b_n : Nat) (b_c : Nat) (all_ : Bool) (w0 : World) (R : Value → World → Prop) : vcFn Try.prog H26 Try.f26 [(.slice a_a a_n a_c), (.slice b_a b_n b_c), (.bool all_)] w0 R = S26 a_a a_n a_c b_a b_n b_c all_ w0 R := by kernel_rfl
set_option maxRecDepth 100000 in
theorem S26_calls (a_a : Option Addr) (a_n : Nat) (a_c : Nat) (b_a : Option Addr) (b_n : Nat) (b_c : Nat) (all_ : Bool) (w0 : World) (R : Value → World → Prop) (h : S26 a_a a_n a_c b_a b_n b_c all_ w0 R) : Calls Try.prog 26 #[(.slice a_a a_n a_c), (.slice b_a b_n b_c), (.bool all_)] w0 (ret R) := by
  rw [← S26_eq] at h; exact vcFn_sound follows_ Try.func26 h

/-- querylab/querylabref07.Intersect -/
def S27 (a_a : Option Addr) (a_n : Nat) (a_c : Nat) (b_a : Option Addr) (b_n : Nat) (b_c : Nat) (all_ : Bool) (w0 : World) (R : Value → World → Prop) : Prop :=
 call Try.prog 32 [(.slice a_a a_n a_c), (.slice b_a b_n b_c)] (.one (.one .slice)) w0 fun (x1 : (Option Addr × Nat × Nat)) (w2 : World) =>
 loop (T := ((Option Addr × Nat × Nat) × Int × Unit)) ((none, 0, 0), 0, ()) w2 fun (again3 : ((Option Addr × Nat × Nat) × Int × Unit) → World → Prop) (s4 : ((Option Addr × Nat × Nat) × Int × Unit)) w5 => ∀ _ : Nat → Value,
 br (decide (s4.2.1 < ((x1.2.1 : Nat) : Int))) (join (T := ((Option Addr × Nat × Nat) × Unit)) (fun (s7 : ((Option Addr × Nat × Nat) × Unit)) w8 => ∀ _ : Nat → Value,
 z (IntKind.wrap .i64 (s4.2.1 + 1)) fun (z9 : Int) =>
 again3 ((s7.1.1, s7.1.2.1, s7.1.2.2), z9, ()) w8)
  fun (K6 : ((Option Addr × Nat × Nat) × Unit) → World → Prop) =>
 drw w5 fun w10 =>
 rdp Try.prog (Instr.indexAt 40 (.slice x1.1 x1.2.1 x1.2.2) (.int .i64 s4.2.1)) (.one .addr) fun (x11 : Addr) =>
 rd Try.prog (Instr.loadAt 3 (.pointer (some (Addr.add x11 1)))) (.one (.int .i64)) w10 fun (x12 : Int) =>
 rdp Try.prog (Instr.indexAt 40 (.slice x1.1 x1.2.1 x1.2.2) (.int .i64 s4.2.1)) (.one .addr) fun (x13 : Addr) =>
 rd Try.prog (Instr.loadAt 3 (.pointer (some (Addr.add x13 2)))) (.one (.int .i64)) w10 fun (x14 : Int) =>
 z (if x14 < x12 then x14 else x12) fun (z15 : Int) =>
 join (T := (Int × Unit)) (fun (s17 : (Int × Unit)) w18 => ∀ _ : Nat → Value,
 rdp Try.prog (Instr.indexAt 40 (.slice x1.1 x1.2.1 x1.2.2) (.int .i64 s4.2.1)) (.one .addr) fun (x19 : Addr) =>
 rd Try.prog (Instr.loadAt 24 (.pointer (some x19))) (.one .slice) w18 fun (x20 : (Option Addr × Nat × Nat)) =>
 call Try.prog 33 [(.slice s4.1.1 s4.1.2.1 s4.1.2.2), (.slice x20.1 x20.2.1 x20.2.2), (.int .i64 s17.1)] (.one (.one .slice)) w18 fun (x21 : (Option Addr × Nat × Nat)) (w22 : World) =>
 K6 ((x21.1, x21.2.1, x21.2.2), ()) w22)
  fun (K16 : (Int × Unit) → World → Prop) =>
 br (!all_) (call Try.prog 43 [(.bool (decide (z15 > 0)))] (.one (.one (.int .i64))) w10 fun (x23 : Int) (w24 : World) =>
 K16 (x23, ()) w24)
 (K16 (z15, ()) w10))
 (R (.slice s4.1.1 s4.1.2.1 s4.1.2.2) w5)
def H27 : Hints := ⟨[(2, 0, [(8, (.one .slice)), (9, (.one (.int .i64)))]), (0, 32, [(10, (.one (.int .i64)))]), (1, 1, [(8, (.one .slice))])], [(6, 10)], [], []⟩
set_option maxRecDepth 100000 in
theorem S27_eq (a_a : Option Addr) (a_n : Nat) (a_c : Nat) (b_a : Option Addr) (b_n : Nat) (b_c : Nat) (all_ : Bool) (w0 : World) (R : Value → World → Prop) : vcFn Try.prog H27 Try.f27 [(.slice a_a a_n a_c), (.slice b_a b_n b_c), (.bool all_)] w0 R = S27 a_a a_n a_c b_a b_n b_c all_ w0 R := by kernel_rfl
set_option maxRecDepth 100000 in
theorem S27_calls (a_a : Option Addr) (a_n : Nat) (a_c : Nat) (b_a : Option Addr) (b_n : Nat) (b_c : Nat) (all_ : Bool) (w0 : World) (R : Value → World → Prop) (h : S27 a_a a_n a_c b_a b_n b_c all_ w0 R) : Calls Try.prog 27 #[(.slice a_a a_n a_c), (.slice b_a b_n b_c), (.bool all_)] w0 (ret R) := by
  rw [← S27_eq] at h; exact vcFn_sound follows_ Try.func27 h

/-- querylab/querylabref07.Distinct -/
def S13 (rows_a : Option Addr) (rows_n : Nat) (rows_c : Nat) (w0 : World) (R : Value → World → Prop) : Prop :=
 call Try.prog 14 [(.slice rows_a rows_n rows_c), (.slice none 0 0), (.bool false)] (.one (.one .slice)) w0 fun (x1 : (Option Addr × Nat × Nat)) (w2 : World) =>
 R (.slice x1.1 x1.2.1 x1.2.2) w2
def H13 : Hints := ⟨[], [], [], []⟩
set_option maxRecDepth 100000 in
theorem S13_eq (rows_a : Option Addr) (rows_n : Nat) (rows_c : Nat) (w0 : World) (R : Value → World → Prop) : vcFn Try.prog H13 Try.f13 [(.slice rows_a rows_n rows_c)] w0 R = S13 rows_a rows_n rows_c w0 R := by kernel_rfl
set_option maxRecDepth 100000 in
theorem S13_calls (rows_a : Option Addr) (rows_n : Nat) (rows_c : Nat) (w0 : World) (R : Value → World → Prop) (h : S13 rows_a rows_n rows_c w0 R) : Calls Try.prog 13 #[(.slice rows_a rows_n rows_c)] w0 (ret R) := by
  rw [← S13_eq] at h; exact vcFn_sound follows_ Try.func13 h

/-- querylab/querylabref07.Contains -/
def S24 (a_a : Option Addr) (a_n : Nat) (a_c : Nat) (b_a : Option Addr) (b_n : Nat) (b_c : Nat) (w0 : World) (R : Value → World → Prop) : Prop :=
 call Try.prog 32 [(.slice a_a a_n a_c), (.slice b_a b_n b_c)] (.one (.one .slice)) w0 fun (x1 : (Option Addr × Nat × Nat)) (w2 : World) =>
 loop (T := (Int × Unit)) (0, ()) w2 fun (again3 : (Int × Unit) → World → Prop) (s4 : (Int × Unit)) w5 => ∀ _ : Nat → Value,
 br (decide (s4.1 < ((x1.2.1 : Nat) : Int))) (drw w5 fun w6 =>
 rdp Try.prog (Instr.indexAt 40 (.slice x1.1 x1.2.1 x1.2.2) (.int .i64 s4.1)) (.one .addr) fun (x7 : Addr) =>
 rd Try.prog (Instr.loadAt 3 (.pointer (some (Addr.add x7 1)))) (.one (.int .i64)) w6 fun (x8 : Int) =>
 rdp Try.prog (Instr.indexAt 40 (.slice x1.1 x1.2.1 x1.2.2) (.int .i64 s4.1)) (.one .addr) fun (x9 : Addr) =>
 rd Try.prog (Instr.loadAt 3 (.pointer (some (Addr.add x9 2)))) (.one (.int .i64)) w6 fun (x10 : Int) =>
 br (decide (x8 < x10)) (R (.bool false) w6)
 (z (IntKind.wrap .i64 (s4.1 + 1)) fun (z11 : Int) =>
 again3 (z11, ()) w6))
 (R (.bool true) w5)
def H24 : Hints := ⟨[(2, 0, [(6, (.one (.int .i64)))])], [(5, 10)], [], []⟩
set_option maxRecDepth 100000 in
theorem S24_eq (a_a : Option Addr) (a_n : Nat) (a_c : Nat) (b_a : Option Addr) (b_n : Nat) (b_c : Nat) (w0 : World) (R : Value → World → Prop) : vcFn Try.prog H24 Try.f24 [(.slice a_a a_n a_c), (.slice b_a b_n b_c)] w0 R = S24 a_a a_n a_c b_a b_n b_c w0 R := by kernel_rfl
set_option maxRecDepth 100000 in
theorem S24_calls (a_a : Option Addr) (a_n : Nat) (a_c : Nat) (b_a : Option Addr) (b_n : Nat) (b_c : Nat) (w0 : World) (R : Value → World → Prop) (h : S24 a_a a_n a_c b_a b_n b_c w0 R) : Calls Try.prog 24 #[(.slice a_a a_n a_c), (.slice b_a b_n b_c)] w0 (ret R) := by
  rw [← S24_eq] at h; exact vcFn_sound follows_ Try.func24 h

/-- querylab/querylabref07.Difference -/
def S23 (a_a : Option Addr) (a_n : Nat) (a_c : Nat) (b_a : Option Addr) (b_n : Nat) (b_c : Nat) (w0 : World) (R : Value → World → Prop) : Prop :=
 call Try.prog 32 [(.slice a_a a_n a_c), (.slice b_a b_n b_c)] (.one (.one .slice)) w0 fun (x1 : (Option Addr × Nat × Nat)) (w2 : World) =>
 loop (T := (Int × Unit)) (0, ()) w2 fun (again3 : (Int × Unit) → World → Prop) (s4 : (Int × Unit)) w5 => ∀ _ : Nat → Value,
 br (decide (s4.1 < ((x1.2.1 : Nat) : Int))) (drw w5 fun w6 =>
 rdp Try.prog (Instr.indexAt 40 (.slice x1.1 x1.2.1 x1.2.2) (.int .i64 s4.1)) (.one .addr) fun (x7 : Addr) =>
 rd Try.prog (Instr.loadAt 3 (.pointer (some (Addr.add x7 1)))) (.one (.int .i64)) w6 fun (x8 : Int) =>
 rdp Try.prog (Instr.indexAt 40 (.slice x1.1 x1.2.1 x1.2.2) (.int .i64 s4.1)) (.one .addr) fun (x9 : Addr) =>
 rd Try.prog (Instr.loadAt 3 (.pointer (some (Addr.add x9 2)))) (.one (.int .i64)) w6 fun (x10 : Int) =>
 br (x8 != x10) (drw w6 fun w11 =>
 rdp Try.prog (Instr.indexAt 40 (.slice x1.1 x1.2.1 x1.2.2) (.int .i64 s4.1)) (.one .addr) fun (x12 : Addr) =>
 rd Try.prog (Instr.loadAt 24 (.pointer (some x12))) (.one .slice) w11 fun (x13 : (Option Addr × Nat × Nat)) =>
 rdp Try.prog (Instr.indexAt 40 (.slice x1.1 x1.2.1 x1.2.2) (.int .i64 s4.1)) (.one .addr) fun (x14 : Addr) =>
 rd Try.prog (Instr.loadAt 3 (.pointer (some (Addr.add x14 1)))) (.one (.int .i64)) w11 fun (x15 : Int) =>
 rdp Try.prog (Instr.indexAt 40 (.slice x1.1 x1.2.1 x1.2.2) (.int .i64 s4.1)) (.one .addr) fun (x16 : Addr) =>
 rd Try.prog (Instr.loadAt 3 (.pointer (some (Addr.add x16 2)))) (.one (.int .i64)) w11 fun (x17 : Int) =>
 R (.tuple #[(.slice x13.1 x13.2.1 x13.2.2), (.int .i64 x15), (.int .i64 x17)]) w11)
 (z (IntKind.wrap .i64 (s4.1 + 1)) fun (z18 : Int) =>
 again3 (z18, ()) w6))
 (R (.tuple #[(.slice none 0 0), (.int .i64 0), (.int .i64 0)]) w5)
def H23 : Hints := ⟨[(2, 0, [(8, (.one (.int .i64)))])], [(5, 10), (6, 17)], [], []⟩
set_option maxRecDepth 100000 in
theorem S23_eq (a_a : Option Addr) (a_n : Nat) (a_c : Nat) (b_a : Option Addr) (b_n : Nat) (b_c : Nat) (w0 : World) (R : Value → World → Prop) : vcFn Try.prog H23 Try.f23 [(.slice a_a a_n a_c), (.slice b_a b_n b_c)] w0 R = S23 a_a a_n a_c b_a b_n b_c w0 R := by kernel_rfl
set_option maxRecDepth 100000 in
theorem S23_calls (a_a : Option Addr) (a_n : Nat) (a_c : Nat) (b_a : Option Addr) (b_n : Nat) (b_c : Nat) (w0 : World) (R : Value → World → Prop) (h : S23 a_a a_n a_c b_a b_n b_c w0 R) : Calls Try.prog 23 #[(.slice a_a a_n a_c), (.slice b_a b_n b_c)] w0 (ret R) := by
  rw [← S23_eq] at h; exact vcFn_sound follows_ Try.func23 h

/-- querylab/querylabref07.Equal -/
def S16 (a_a : Option Addr) (a_n : Nat) (a_c : Nat) (b_a : Option Addr) (b_n : Nat) (b_c : Nat) (w0 : World) (R : Value → World → Prop) : Prop :=
 br (((a_n : Nat) : Int) != ((b_n : Nat) : Int)) (R (.bool false) w0)
 (loop (T := (Int × Unit)) (0, ()) w0 fun (again1 : (Int × Unit) → World → Prop) (s2 : (Int × Unit)) w3 => ∀ _ : Nat → Value,
 br (decide (s2.1 < ((a_n : Nat) : Int))) (drw w3 fun w4 =>
 rdp Try.prog (Instr.indexAt 22 (.slice a_a a_n a_c) (.int .i64 s2.1)) (.one .addr) fun (x5 : Addr) =>
 rd Try.prog (Instr.loadAt 24 (.pointer (some x5))) (.one .slice) w4 fun (x6 : (Option Addr × Nat × Nat)) =>
 rdp Try.prog (Instr.indexAt 22 (.slice b_a b_n b_c) (.int .i64 s2.1)) (.one .addr) fun (x7 : Addr) =>
 rd Try.prog (Instr.loadAt 24 (.pointer (some x7))) (.one .slice) w4 fun (x8 : (Option Addr × Nat × Nat)) =>
 call Try.prog 15 [(.slice x6.1 x6.2.1 x6.2.2), (.slice x8.1 x8.2.1 x8.2.2)] (.one (.one (.int .i64))) w4 fun (x9 : Int) (w10 : World) =>
 br (x9 != 0) (R (.bool false) w10)
 (z (IntKind.wrap .i64 (s2.1 + 1)) fun (z11 : Int) =>
 again1 (z11, ()) w10))
 (R (.bool true) w3))
def H16 : Hints := ⟨[(2, 0, [(5, (.one (.int .i64)))])], [(6, 8)], [], []⟩
set_option maxRecDepth 100000 in
theorem S16_eq (a_a : Option Addr) (a_n : Nat) (a_c : Nat) (b_a : Option Addr) (b_n : Nat) (b_c : Nat) (w0 : World) (R : Value → World → Prop) : vcFn Try.prog H16 Try.f16 [(.slice a_a a_n a_c), (.slice b_a b_n b_c)] w0 R = S16 a_a a_n a_c b_a b_n b_c w0 R := by kernel_rfl
set_option maxRecDepth 100000 in
theorem S16_calls (a_a : Option Addr) (a_n : Nat) (a_c : Nat) (b_a : Option Addr) (b_n : Nat) (b_c : Nat) (w0 : World) (R : Value → World → Prop) (h : S16 a_a a_n a_c b_a b_n b_c w0 R) : Calls Try.prog 16 #[(.slice a_a a_n a_c), (.slice b_a b_n b_c)] w0 (ret R) := by
  rw [← S16_eq] at h; exact vcFn_sound follows_ Try.func16 h

/-- querylab/querylablaw07.Few -/
def S8 (l_a : Option Addr) (l_n : Nat) (l_c : Nat) (w0 : World) (R : Value → World → Prop) : Prop :=
 br (decide (((l_n : Nat) : Int) > 80)) (R (.bool false) w0)
 (loop (T := (Int × Unit)) (0, ()) w0 fun (again1 : (Int × Unit) → World → Prop) (s2 : (Int × Unit)) w3 => ∀ _ : Nat → Value,
 br (decide (s2.1 < ((l_n : Nat) : Int))) (rdp Try.prog (Instr.indexAt 22 (.slice l_a l_n l_c) (.int .i64 s2.1)) (.one .addr) fun (x4 : Addr) =>
 rd Try.prog (Instr.loadAt 24 (.pointer (some x4))) (.one .slice) w3 fun (x5 : (Option Addr × Nat × Nat)) =>
 br (decide (((x5.2.1 : Nat) : Int) > 20)) (R (.bool false) w3)
 (z (IntKind.wrap .i64 (s2.1 + 1)) fun (z6 : Int) =>
 again1 (z6, ()) w3))
 (R (.bool true) w3))
def H8 : Hints := ⟨[(2, 0, [(3, (.one (.int .i64)))])], [], [], []⟩
set_option maxRecDepth 100000 in
theorem S8_eq (l_a : Option Addr) (l_n : Nat) (l_c : Nat) (w0 : World) (R : Value → World → Prop) : vcFn Try.prog H8 Try.f8 [(.slice l_a l_n l_c)] w0 R = S8 l_a l_n l_c w0 R := by kernel_rfl
set_option maxRecDepth 100000 in
theorem S8_calls (l_a : Option Addr) (l_n : Nat) (l_c : Nat) (w0 : World) (R : Value → World → Prop) (h : S8 l_a l_n l_c w0 R) : Calls Try.prog 8 #[(.slice l_a l_n l_c)] w0 (ret R) := by
  rw [← S8_eq] at h; exact vcFn_sound follows_ Try.func8 h

/-- querylab/querylablaw07.BagTells -/
def S3 (a_a : Option Addr) (a_n : Nat) (a_c : Nat) (b_a : Option Addr) (b_n : Nat) (b_c : Nat) (w0 : World) (R : Value → World → Prop) : Prop :=
 call Try.prog 8 [(.slice a_a a_n a_c)] (.one (.one .bool)) w0 fun (x1 : Bool) (w2 : World) =>
 br (!x1) (R (.bool true) w2)
 (call Try.prog 8 [(.slice b_a b_n b_c)] (.one (.one .bool)) w2 fun (x3 : Bool) (w4 : World) =>
 br (!x3) (R (.bool true) w4)
 (call Try.prog 9 [(.slice a_a a_n a_c), (.slice b_a b_n b_c)] (.many [(.one .slice), (.one (.int .i64)), (.one (.int .i64))]) w4 fun (x5 : ((Option Addr × Nat × Nat) × Int × Int × Unit)) (w6 : World) =>
 br (x5.2.1 == x5.2.2.1) (call Try.prog 10 [(.slice a_a a_n a_c), (.slice b_a b_n b_c)] (.one (.one .bool)) w6 fun (x7 : Bool) (w8 : World) =>
 br x7 (br (x5.2.1 == 0) (br (((x5.1.2.1 : Nat) : Int) == 0) (br (((a_n : Nat) : Int) == ((b_n : Nat) : Int)) (call Try.prog 11 [(.slice a_a a_n a_c), (.slice b_a b_n b_c)] (.one (.one .bool)) w8 fun (x9 : Bool) (w10 : World) =>
 br x9 (call Try.prog 11 [(.slice b_a b_n b_c), (.slice a_a a_n a_c)] (.one (.one .bool)) w10 fun (x11 : Bool) (w12 : World) =>
 R (.bool x11) w12)
 (R (.bool false) w10))
 (R (.bool false) w8))
 (R (.bool false) w8))
 (R (.bool false) w8))
 (R (.bool false) w8))
 (call Try.prog 10 [(.slice a_a a_n a_c), (.slice b_a b_n b_c)] (.one (.one .bool)) w6 fun (x13 : Bool) (w14 : World) =>
 br x13 (R (.bool false) w14)
 (call Try.prog 12 [(.slice a_a a_n a_c), (.slice x5.1.1 x5.1.2.1 x5.1.2.2)] (.one (.one (.int .i64))) w14 fun (x15 : Int) (w16 : World) =>
 br (x15 != x5.2.1) (R (.bool false) w16)
 (call Try.prog 12 [(.slice b_a b_n b_c), (.slice x5.1.1 x5.1.2.1 x5.1.2.2)] (.one (.one (.int .i64))) w16 fun (x17 : Int) (w18 : World) =>
 br (x17 != x5.2.2.1) (R (.bool false) w18)
 (call Try.prog 14 [(.slice a_a a_n a_c), (.slice b_a b_n b_c), (.bool true)] (.one (.one .slice)) w18 fun (x19 : (Option Addr × Nat × Nat)) (w20 : World) =>
 call Try.prog 13 [(.slice x19.1 x19.2.1 x19.2.2)] (.one (.one .slice)) w20 fun (x21 : (Option Addr × Nat × Nat)) (w22 : World) =>
 loop (T := (Int × Unit)) (0, ()) w22 fun (again23 : (Int × Unit) → World → Prop) (s24 : (Int × Unit)) w25 => ∀ _ : Nat → Value,
 br (decide (s24.1 < ((x21.2.1 : Nat) : Int))) (rdp Try.prog (Instr.indexAt 22 (.slice x21.1 x21.2.1 x21.2.2) (.int .i64 s24.1)) (.one .addr) fun (x26 : Addr) =>
 rd Try.prog (Instr.loadAt 24 (.pointer (some x26))) (.one .slice) w25 fun (x27 : (Option Addr × Nat × Nat)) =>
 call Try.prog 15 [(.slice x27.1 x27.2.1 x27.2.2), (.slice x5.1.1 x5.1.2.1 x5.1.2.2)] (.one (.one (.int .i64))) w25 fun (x28 : Int) (w29 : World) =>
 br (decide (x28 < 0)) (drw w29 fun w30 => flEx fun F31 =>
 rdp Try.prog (Instr.indexAt 22 (.slice x21.1 x21.2.1 x21.2.2) (.int .i64 s24.1)) (.one .addr) fun (x32 : Addr) =>
 rd Try.prog (Instr.loadAt 24 (.pointer (some x32))) (.one .slice) w30 fun (x33 : (Option Addr × Nat × Nat)) =>
 flc bel w30 (fun _w35 => True) (fun (w34 : World) =>
   call Try.prog 12 [(.slice a_a a_n a_c), (.slice x33.1 x33.2.1 x33.2.2)] (.one (.one (.int .i64))) w34 fun (x36 : Int) (w37 : World) =>
 (bel w34 w37 ∧ F31 5 [(.slice a_a a_n a_c), (.slice x33.1 x33.2.1 x33.2.2)] (.int .i64 x36) w37))
  fun (x38 : Int) =>
 rdp Try.prog (Instr.indexAt 22 (.slice x21.1 x21.2.1 x21.2.2) (.int .i64 s24.1)) (.one .addr) fun (x39 : Addr) =>
 rd Try.prog (Instr.loadAt 24 (.pointer (some x39))) (.one .slice) w30 fun (x40 : (Option Addr × Nat × Nat)) =>
 flend bel w30 (fun w42 => F31 5 [(.slice a_a a_n a_c), (.slice x33.1 x33.2.1 x33.2.2)] (.int .i64 x38) w42 ∧ True) fun w41 =>
 call Try.prog 12 [(.slice b_a b_n b_c), (.slice x40.1 x40.2.1 x40.2.2)] (.one (.one (.int .i64))) w41 fun (x43 : Int) (w44 : World) =>
 br (x38 != x43) (R (.bool false) w44)
 (z (IntKind.wrap .i64 (s24.1 + 1)) fun (z45 : Int) =>
 again23 (z45, ()) w44))
 (R (.bool true) w29))
 (R (.bool true) w25)))))))
def H3 : Hints := ⟨[(2, 0, [(9, (.one (.int .i64)))])], [(12, 11)], [], []⟩
set_option maxRecDepth 100000 in
theorem S3_eq (a_a : Option Addr) (a_n : Nat) (a_c : Nat) (b_a : Option Addr) (b_n : Nat) (b_c : Nat) (w0 : World) (R : Value → World → Prop) : vcFn Try.prog H3 Try.f3 [(.slice a_a a_n a_c), (.slice b_a b_n b_c)] w0 R = S3 a_a a_n a_c b_a b_n b_c w0 R := by kernel_rfl
set_option maxRecDepth 100000 in
theorem S3_calls (a_a : Option Addr) (a_n : Nat) (a_c : Nat) (b_a : Option Addr) (b_n : Nat) (b_c : Nat) (w0 : World) (R : Value → World → Prop) (h : S3 a_a a_n a_c b_a b_n b_c w0 R) : Calls Try.prog 3 #[(.slice a_a a_n a_c), (.slice b_a b_n b_c)] w0 (ret R) := by
  rw [← S3_eq] at h; exact vcFn_sound follows_ Try.func3 h

/-- querylab/querylablaw07.BagOrders -/
def S4 (a_a : Option Addr) (a_n : Nat) (a_c : Nat) (b_a : Option Addr) (b_n : Nat) (b_c : Nat) (w0 : World) (R : Value → World → Prop) : Prop :=
 call Try.prog 8 [(.slice a_a a_n a_c)] (.one (.one .bool)) w0 fun (x1 : Bool) (w2 : World) =>
 br (!x1) (R (.bool true) w2)
 (call Try.prog 8 [(.slice b_a b_n b_c)] (.one (.one .bool)) w2 fun (x3 : Bool) (w4 : World) =>
 br (!x3) (R (.bool true) w4)
 (z (IntKind.wrap .i64 (((a_n : Nat) : Int) - 1)) fun (z5 : Int) =>
 loop (T := ((Option Addr × Nat × Nat) × Int × Unit)) ((none, 0, 0), z5, ()) w4 fun (again6 : ((Option Addr × Nat × Nat) × Int × Unit) → World → Prop) (s7 : ((Option Addr × Nat × Nat) × Int × Unit)) w8 => ∀ _ : Nat → Value,
 br (decide (s7.2.1 ≥ 0)) (rdp Try.prog (Instr.indexAt 22 (.slice a_a a_n a_c) (.int .i64 s7.2.1)) (.one .addr) fun (x9 : Addr) =>
 rd Try.prog (Instr.loadAt 24 (.pointer (some x9))) (.one .slice) w8 fun (x10 : (Option Addr × Nat × Nat)) =>
 wr Try.prog (Instr.buildSlice 22 1 #[(0, (.slice x10.1 x10.2.1 x10.2.2))]) (.one .slice) w8 fun (x11 : (Option Addr × Nat × Nat)) (w12 : World) =>
 wr Try.prog (Builtin.append_ #[22, 22] 22 #[(.slice s7.1.1 s7.1.2.1 s7.1.2.2), (.slice x11.1 x11.2.1 x11.2.2)]) (.one .slice) w12 fun (x13 : (Option Addr × Nat × Nat)) (w14 : World) =>
 z (IntKind.wrap .i64 (s7.2.1 - 1)) fun (z15 : Int) =>
 again6 ((x13.1, x13.2.1, x13.2.2), z15, ()) w14)
 (call Try.prog 10 [(.slice a_a a_n a_c), (.slice s7.1.1 s7.1.2.1 s7.1.2.2)] (.one (.one .bool)) w8 fun (x16 : Bool) (w17 : World) =>
 br x16 (call Try.prog 17 [(.slice a_a a_n a_c)] (.one (.one .slice)) w17 fun (x18 : (Option Addr × Nat × Nat)) (w19 : World) =>
 call Try.prog 17 [(.slice s7.1.1 s7.1.2.1 s7.1.2.2)] (.one (.one .slice)) w19 fun (x20 : (Option Addr × Nat × Nat)) (w21 : World) =>
 call Try.prog 16 [(.slice x18.1 x18.2.1 x18.2.2), (.slice x20.1 x20.2.1 x20.2.2)] (.one (.one .bool)) w21 fun (x22 : Bool) (w23 : World) =>
 br x22 (call Try.prog 17 [(.slice a_a a_n a_c)] (.one (.one .slice)) w23 fun (x24 : (Option Addr × Nat × Nat)) (w25 : World) =>
 br (((x24.2.1 : Nat) : Int) == ((a_n : Nat) : Int)) (call Try.prog 18 [(.slice a_a a_n a_c), (.slice b_a b_n b_c), (.bool true)] (.one (.one .slice)) w25 fun (x26 : (Option Addr × Nat × Nat)) (w27 : World) =>
 call Try.prog 18 [(.slice s7.1.1 s7.1.2.1 s7.1.2.2), (.slice b_a b_n b_c), (.bool true)] (.one (.one .slice)) w27 fun (x28 : (Option Addr × Nat × Nat)) (w29 : World) =>
 call Try.prog 16 [(.slice x26.1 x26.2.1 x26.2.2), (.slice x28.1 x28.2.1 x28.2.2)] (.one (.one .bool)) w29 fun (x30 : Bool) (w31 : World) =>
 br x30 (call Try.prog 11 [(.slice a_a a_n a_c), (.slice s7.1.1 s7.1.2.1 s7.1.2.2)] (.one (.one .bool)) w31 fun (x32 : Bool) (w33 : World) =>
 R (.bool x32) w33)
 (R (.bool false) w31))
 (R (.bool false) w25))
 (R (.bool false) w23))
 (R (.bool false) w17))))
def H4 : Hints := ⟨[(2, 0, [(5, (.one .slice)), (6, (.one (.int .i64)))])], [], [], []⟩
set_option maxRecDepth 100000 in
theorem S4_eq (a_a : Option Addr) (a_n : Nat) (a_c : Nat) (b_a : Option Addr) (b_n : Nat) (b_c : Nat) (w0 : World) (R : Value → World → Prop) : vcFn Try.prog H4 Try.f4 [(.slice a_a a_n a_c), (.slice b_a b_n b_c)] w0 R = S4 a_a a_n a_c b_a b_n b_c w0 R := by kernel_rfl
set_option maxRecDepth 100000 in
theorem S4_calls (a_a : Option Addr) (a_n : Nat) (a_c : Nat) (b_a : Option Addr) (b_n : Nat) (b_c : Nat) (w0 : World) (R : Value → World → Prop) (h : S4 a_a a_n a_c b_a b_n b_c w0 R) : Calls Try.prog 4 #[(.slice a_a a_n a_c), (.slice b_a b_n b_c)] w0 (ret R) := by
  rw [← S4_eq] at h; exact vcFn_sound follows_ Try.func4 h

/-- querylab/querylablaw07.BagCounts -/
def S5 (a_a : Option Addr) (a_n : Nat) (a_c : Nat) (b_a : Option Addr) (b_n : Nat) (b_c : Nat) (row_a : Option Addr) (row_n : Nat) (row_c : Nat) (w0 : World) (R : Value → World → Prop) : Prop :=
 call Try.prog 8 [(.slice a_a a_n a_c)] (.one (.one .bool)) w0 fun (x1 : Bool) (w2 : World) =>
 br (!x1) (R (.bool true) w2)
 (call Try.prog 8 [(.slice b_a b_n b_c)] (.one (.one .bool)) w2 fun (x3 : Bool) (w4 : World) =>
 br (!x3) (R (.bool true) w4)
 (br (decide (((row_n : Nat) : Int) > 20)) (R (.bool true) w4)
 (wr Try.prog (Builtin.append_ #[22, 22] 22 #[(.slice none 0 0), (.slice a_a a_n a_c)]) (.one .slice) w4 fun (x5 : (Option Addr × Nat × Nat)) (w6 : World) =>
 wr Try.prog (Instr.buildSlice 22 1 #[(0, (.slice row_a row_n row_c))]) (.one .slice) w6 fun (x7 : (Option Addr × Nat × Nat)) (w8 : World) =>
 wr Try.prog (Builtin.append_ #[22, 22] 22 #[(.slice x5.1 x5.2.1 x5.2.2), (.slice x7.1 x7.2.1 x7.2.2)]) (.one .slice) w8 fun (x9 : (Option Addr × Nat × Nat)) (w10 : World) =>
 call Try.prog 19 [(.slice x9.1 x9.2.1 x9.2.2), (.slice row_a row_n row_c)] (.one (.one (.int .i64))) w10 fun (x11 : Int) (w12 : World) =>
 call Try.prog 19 [(.slice b_a b_n b_c), (.slice row_a row_n row_c)] (.one (.one (.int .i64))) w12 fun (x13 : Int) (w14 : World) =>
 call Try.prog 12 [(.slice a_a a_n a_c), (.slice row_a row_n row_c)] (.one (.one (.int .i64))) w14 fun (x15 : Int) (w16 : World) =>
 z (IntKind.wrap .i64 (x15 + 1)) fun (z17 : Int) =>
 br (x11 != z17) (R (.bool false) w16)
 (call Try.prog 12 [(.slice b_a b_n b_c), (.slice row_a row_n row_c)] (.one (.one (.int .i64))) w16 fun (x18 : Int) (w19 : World) =>
 br (x13 != x18) (R (.bool false) w19)
 (call Try.prog 20 [(.slice x9.1 x9.2.1 x9.2.2), (.slice b_a b_n b_c), (.bool true)] (.one (.one .slice)) w19 fun (x20 : (Option Addr × Nat × Nat)) (w21 : World) =>
 call Try.prog 19 [(.slice x20.1 x20.2.1 x20.2.2), (.slice row_a row_n row_c)] (.one (.one (.int .i64))) w21 fun (x22 : Int) (w23 : World) =>
 z (IntKind.wrap .i64 (x11 + x13)) fun (z24 : Int) =>
 br (x22 == z24) (call Try.prog 18 [(.slice x9.1 x9.2.1 x9.2.2), (.slice b_a b_n b_c), (.bool true)] (.one (.one .slice)) w23 fun (x25 : (Option Addr × Nat × Nat)) (w26 : World) =>
 call Try.prog 19 [(.slice x25.1 x25.2.1 x25.2.2), (.slice row_a row_n row_c)] (.one (.one (.int .i64))) w26 fun (x27 : Int) (w28 : World) =>
 z (IntKind.wrap .i64 (x11 - x13)) fun (z29 : Int) =>
 z (if z29 > 0 then z29 else 0) fun (z30 : Int) =>
 br (x27 == z30) (call Try.prog 21 [(.slice x9.1 x9.2.1 x9.2.2), (.slice b_a b_n b_c), (.bool true)] (.one (.one .slice)) w28 fun (x31 : (Option Addr × Nat × Nat)) (w32 : World) =>
 call Try.prog 19 [(.slice x31.1 x31.2.1 x31.2.2), (.slice row_a row_n row_c)] (.one (.one (.int .i64))) w32 fun (x33 : Int) (w34 : World) =>
 z (if x13 < x11 then x13 else x11) fun (z35 : Int) =>
 br (x33 == z35) (call Try.prog 22 [(.slice x9.1 x9.2.1 x9.2.2)] (.one (.one .slice)) w34 fun (x36 : (Option Addr × Nat × Nat)) (w37 : World) =>
 call Try.prog 19 [(.slice x36.1 x36.2.1 x36.2.2), (.slice row_a row_n row_c)] (.one (.one (.int .i64))) w37 fun (x38 : Int) (w39 : World) =>
 R (.bool (x38 == 1)) w39)
 (R (.bool false) w34))
 (R (.bool false) w28))
 (R (.bool false) w23))))))
def H5 : Hints := ⟨[], [], [], []⟩
set_option maxRecDepth 100000 in
theorem S5_eq (a_a : Option Addr) (a_n : Nat) (a_c : Nat) (b_a : Option Addr) (b_n : Nat) (b_c : Nat) (row_a : Option Addr) (row_n : Nat) (row_c : Nat) (w0 : World) (R : Value → World → Prop) : vcFn Try.prog H5 Try.f5 [(.slice a_a a_n a_c), (.slice b_a b_n b_c), (.slice row_a row_n row_c)] w0 R = S5 a_a a_n a_c b_a b_n b_c row_a row_n row_c w0 R := by kernel_rfl
set_option maxRecDepth 100000 in
theorem S5_calls (a_a : Option Addr) (a_n : Nat) (a_c : Nat) (b_a : Option Addr) (b_n : Nat) (b_c : Nat) (row_a : Option Addr) (row_n : Nat) (row_c : Nat) (w0 : World) (R : Value → World → Prop) (h : S5 a_a a_n a_c b_a b_n b_c row_a row_n row_c w0 R) : Calls Try.prog 5 #[(.slice a_a a_n a_c), (.slice b_a b_n b_c), (.slice row_a row_n row_c)] w0 (ret R) := by
  rw [← S5_eq] at h; exact vcFn_sound follows_ Try.func5 h

/-- querylab/querylablaw07.BagLaws -/
def S6 (a_a : Option Addr) (a_n : Nat) (a_c : Nat) (b_a : Option Addr) (b_n : Nat) (b_c : Nat) (w0 : World) (R : Value → World → Prop) : Prop :=
 call Try.prog 8 [(.slice a_a a_n a_c)] (.one (.one .bool)) w0 fun (x1 : Bool) (w2 : World) =>
 br (!x1) (R (.bool true) w2)
 (call Try.prog 8 [(.slice b_a b_n b_c)] (.one (.one .bool)) w2 fun (x3 : Bool) (w4 : World) =>
 br (!x3) (R (.bool true) w4)
 (call Try.prog 20 [(.slice a_a a_n a_c), (.slice b_a b_n b_c), (.bool true)] (.one (.one .slice)) w4 fun (x5 : (Option Addr × Nat × Nat)) (w6 : World) =>
 z (IntKind.wrap .i64 (((a_n : Nat) : Int) + ((b_n : Nat) : Int))) fun (z7 : Int) =>
 br (((x5.2.1 : Nat) : Int) != z7) (R (.bool false) w6)
 (call Try.prog 20 [(.slice b_a b_n b_c), (.slice a_a a_n a_c), (.bool true)] (.one (.one .slice)) w6 fun (x8 : (Option Addr × Nat × Nat)) (w9 : World) =>
 call Try.prog 10 [(.slice x5.1 x5.2.1 x5.2.2), (.slice x8.1 x8.2.1 x8.2.2)] (.one (.one .bool)) w9 fun (x10 : Bool) (w11 : World) =>
 br (!x10) (R (.bool false) w11)
 (call Try.prog 21 [(.slice a_a a_n a_c), (.slice b_a b_n b_c), (.bool true)] (.one (.one .slice)) w11 fun (x12 : (Option Addr × Nat × Nat)) (w13 : World) =>
 call Try.prog 21 [(.slice b_a b_n b_c), (.slice a_a a_n a_c), (.bool true)] (.one (.one .slice)) w13 fun (x14 : (Option Addr × Nat × Nat)) (w15 : World) =>
 call Try.prog 10 [(.slice x12.1 x12.2.1 x12.2.2), (.slice x14.1 x14.2.1 x14.2.2)] (.one (.one .bool)) w15 fun (x16 : Bool) (w17 : World) =>
 br (!x16) (R (.bool false) w17)
 (call Try.prog 21 [(.slice a_a a_n a_c), (.slice b_a b_n b_c), (.bool true)] (.one (.one .slice)) w17 fun (x18 : (Option Addr × Nat × Nat)) (w19 : World) =>
 call Try.prog 18 [(.slice a_a a_n a_c), (.slice b_a b_n b_c), (.bool true)] (.one (.one .slice)) w19 fun (x20 : (Option Addr × Nat × Nat)) (w21 : World) =>
 call Try.prog 20 [(.slice x18.1 x18.2.1 x18.2.2), (.slice x20.1 x20.2.1 x20.2.2), (.bool true)] (.one (.one .slice)) w21 fun (x22 : (Option Addr × Nat × Nat)) (w23 : World) =>
 call Try.prog 10 [(.slice x22.1 x22.2.1 x22.2.2), (.slice a_a a_n a_c)] (.one (.one .bool)) w23 fun (x24 : Bool) (w25 : World) =>
 br x24 (call Try.prog 18 [(.slice x5.1 x5.2.1 x5.2.2), (.slice b_a b_n b_c), (.bool true)] (.one (.one .slice)) w25 fun (x26 : (Option Addr × Nat × Nat)) (w27 : World) =>
 call Try.prog 10 [(.slice x26.1 x26.2.1 x26.2.2), (.slice a_a a_n a_c)] (.one (.one .bool)) w27 fun (x28 : Bool) (w29 : World) =>
 br x28 (call Try.prog 22 [(.slice x5.1 x5.2.1 x5.2.2)] (.one (.one .slice)) w29 fun (x30 : (Option Addr × Nat × Nat)) (w31 : World) =>
 call Try.prog 20 [(.slice a_a a_n a_c), (.slice b_a b_n b_c), (.bool false)] (.one (.one .slice)) w31 fun (x32 : (Option Addr × Nat × Nat)) (w33 : World) =>
 call Try.prog 10 [(.slice x30.1 x30.2.1 x30.2.2), (.slice x32.1 x32.2.1 x32.2.2)] (.one (.one .bool)) w33 fun (x34 : Bool) (w35 : World) =>
 br x34 (call Try.prog 11 [(.slice x5.1 x5.2.1 x5.2.2), (.slice a_a a_n a_c)] (.one (.one .bool)) w35 fun (x36 : Bool) (w37 : World) =>
 br x36 (call Try.prog 17 [(.slice a_a a_n a_c)] (.one (.one .slice)) w37 fun (x38 : (Option Addr × Nat × Nat)) (w39 : World) =>
 call Try.prog 10 [(.slice a_a a_n a_c), (.slice x38.1 x38.2.1 x38.2.2)] (.one (.one .bool)) w39 fun (x40 : Bool) (w41 : World) =>
 R (.bool x40) w41)
 (R (.bool false) w37))
 (R (.bool false) w35))
 (R (.bool false) w29))
 (R (.bool false) w25))))))
def H6 : Hints := ⟨[], [], [], []⟩
set_option maxRecDepth 100000 in
theorem S6_eq (a_a : Option Addr) (a_n : Nat) (a_c : Nat) (b_a : Option Addr) (b_n : Nat) (b_c : Nat) (w0 : World) (R : Value → World → Prop) : vcFn Try.prog H6 Try.f6 [(.slice a_a a_n a_c), (.slice b_a b_n b_c)] w0 R = S6 a_a a_n a_c b_a b_n b_c w0 R := by kernel_rfl
set_option maxRecDepth 100000 in
theorem S6_calls (a_a : Option Addr) (a_n : Nat) (a_c : Nat) (b_a : Option Addr) (b_n : Nat) (b_c : Nat) (w0 : World) (R : Value → World → Prop) (h : S6 a_a a_n a_c b_a b_n b_c w0 R) : Calls Try.prog 6 #[(.slice a_a a_n a_c), (.slice b_a b_n b_c)] w0 (ret R) := by
  rw [← S6_eq] at h; exact vcFn_sound follows_ Try.func6 h

/-- querylab/querylablaw07.BagExact -/
def S7 (a_a : Option Addr) (a_n : Nat) (a_c : Nat) (b_a : Option Addr) (b_n : Nat) (b_c : Nat) (all_ : Bool) (w0 : World) (R : Value → World → Prop) : Prop :=
 call Try.prog 8 [(.slice a_a a_n a_c)] (.one (.one .bool)) w0 fun (x1 : Bool) (w2 : World) =>
 br (!x1) (R (.bool true) w2)
 (call Try.prog 8 [(.slice b_a b_n b_c)] (.one (.one .bool)) w2 fun (x3 : Bool) (w4 : World) =>
 br (!x3) (R (.bool true) w4)
 (call Try.prog 9 [(.slice a_a a_n a_c), (.slice b_a b_n b_c)] (.many [(.one .slice), (.one (.int .i64)), (.one (.int .i64))]) w4 fun (x5 : ((Option Addr × Nat × Nat) × Int × Int × Unit)) (w6 : World) =>
 call Try.prog 23 [(.slice a_a a_n a_c), (.slice b_a b_n b_c)] (.many [(.one .slice), (.one (.int .i64)), (.one (.int .i64))]) w6 fun (x7 : ((Option Addr × Nat × Nat) × Int × Int × Unit)) (w8 : World) =>
 call Try.prog 15 [(.slice x5.1.1 x5.1.2.1 x5.1.2.2), (.slice x7.1.1 x7.1.2.1 x7.1.2.2)] (.one (.one (.int .i64))) w8 fun (x9 : Int) (w10 : World) =>
 br (x9 != 0) (R (.bool false) w10)
 (br (x5.2.1 != x7.2.1) (R (.bool false) w10)
 (br (x5.2.2.1 != x7.2.2.1) (R (.bool false) w10)
 (call Try.prog 10 [(.slice a_a a_n a_c), (.slice b_a b_n b_c)] (.one (.one .bool)) w10 fun (x11 : Bool) (w12 : World) =>
 br (!(x11 == (x7.2.1 == x7.2.2.1))) (R (.bool false) w12)
 (call Try.prog 11 [(.slice a_a a_n a_c), (.slice b_a b_n b_c)] (.one (.one .bool)) w12 fun (x13 : Bool) (w14 : World) =>
 call Try.prog 24 [(.slice a_a a_n a_c), (.slice b_a b_n b_c)] (.one (.one .bool)) w14 fun (x15 : Bool) (w16 : World) =>
 br (!(x13 == x15)) (R (.bool false) w16)
 (call Try.prog 17 [(.slice a_a a_n a_c)] (.one (.one .slice)) w16 fun (x17 : (Option Addr × Nat × Nat)) (w18 : World) =>
 call Try.prog 25 [(.slice a_a a_n a_c)] (.one (.one .slice)) w18 fun (x19 : (Option Addr × Nat × Nat)) (w20 : World) =>
 call Try.prog 16 [(.slice x17.1 x17.2.1 x17.2.2), (.slice x19.1 x19.2.1 x19.2.2)] (.one (.one .bool)) w20 fun (x21 : Bool) (w22 : World) =>
 br x21 (call Try.prog 20 [(.slice a_a a_n a_c), (.slice b_a b_n b_c), (.bool all_)] (.one (.one .slice)) w22 fun (x23 : (Option Addr × Nat × Nat)) (w24 : World) =>
 call Try.prog 14 [(.slice a_a a_n a_c), (.slice b_a b_n b_c), (.bool all_)] (.one (.one .slice)) w24 fun (x25 : (Option Addr × Nat × Nat)) (w26 : World) =>
 call Try.prog 16 [(.slice x23.1 x23.2.1 x23.2.2), (.slice x25.1 x25.2.1 x25.2.2)] (.one (.one .bool)) w26 fun (x27 : Bool) (w28 : World) =>
 br x27 (call Try.prog 18 [(.slice a_a a_n a_c), (.slice b_a b_n b_c), (.bool all_)] (.one (.one .slice)) w28 fun (x29 : (Option Addr × Nat × Nat)) (w30 : World) =>
 call Try.prog 26 [(.slice a_a a_n a_c), (.slice b_a b_n b_c), (.bool all_)] (.one (.one .slice)) w30 fun (x31 : (Option Addr × Nat × Nat)) (w32 : World) =>
 call Try.prog 16 [(.slice x29.1 x29.2.1 x29.2.2), (.slice x31.1 x31.2.1 x31.2.2)] (.one (.one .bool)) w32 fun (x33 : Bool) (w34 : World) =>
 br x33 (call Try.prog 21 [(.slice a_a a_n a_c), (.slice b_a b_n b_c), (.bool all_)] (.one (.one .slice)) w34 fun (x35 : (Option Addr × Nat × Nat)) (w36 : World) =>
 call Try.prog 27 [(.slice a_a a_n a_c), (.slice b_a b_n b_c), (.bool all_)] (.one (.one .slice)) w36 fun (x37 : (Option Addr × Nat × Nat)) (w38 : World) =>
 call Try.prog 16 [(.slice x35.1 x35.2.1 x35.2.2), (.slice x37.1 x37.2.1 x37.2.2)] (.one (.one .bool)) w38 fun (x39 : Bool) (w40 : World) =>
 br x39 (call Try.prog 22 [(.slice a_a a_n a_c)] (.one (.one .slice)) w40 fun (x41 : (Option Addr × Nat × Nat)) (w42 : World) =>
 call Try.prog 13 [(.slice a_a a_n a_c)] (.one (.one .slice)) w42 fun (x43 : (Option Addr × Nat × Nat)) (w44 : World) =>
 call Try.prog 16 [(.slice x41.1 x41.2.1 x41.2.2), (.slice x43.1 x43.2.1 x43.2.2)] (.one (.one .bool)) w44 fun (x45 : Bool) (w46 : World) =>
 R (.bool x45) w46)
 (R (.bool false) w40))
 (R (.bool false) w34))
 (R (.bool false) w28))
 (R (.bool false) w22))))))))
def H7 : Hints := ⟨[], [], [], []⟩
set_option maxRecDepth 100000 in
theorem S7_eq (a_a : Option Addr) (a_n : Nat) (a_c : Nat) (b_a : Option Addr) (b_n : Nat) (b_c : Nat) (all_ : Bool) (w0 : World) (R : Value → World → Prop) : vcFn Try.prog H7 Try.f7 [(.slice a_a a_n a_c), (.slice b_a b_n b_c), (.bool all_)] w0 R = S7 a_a a_n a_c b_a b_n b_c all_ w0 R := by kernel_rfl
set_option maxRecDepth 100000 in
theorem S7_calls (a_a : Option Addr) (a_n : Nat) (a_c : Nat) (b_a : Option Addr) (b_n : Nat) (b_c : Nat) (all_ : Bool) (w0 : World) (R : Value → World → Prop) (h : S7 a_a a_n a_c b_a b_n b_c all_ w0 R) : Calls Try.prog 7 #[(.slice a_a a_n a_c), (.slice b_a b_n b_c), (.bool all_)] w0 (ret R) := by
  rw [← S7_eq] at h; exact vcFn_sound follows_ Try.func7 h

end Go.Proofs
