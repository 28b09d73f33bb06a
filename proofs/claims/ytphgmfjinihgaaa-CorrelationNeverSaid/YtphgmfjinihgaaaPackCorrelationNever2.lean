import Derived.Laws.CopyRow
import Derived.Test.YtphgmfjinihgaaaProg
import Derived.KernelRfl
import Derived.Lib.AppendZeros
import Derived.Test.YtphgmfjinihgaaaPackCorrelationNever1

/- Loops in the calculus: counting loops, the search of slices.IndexFunc. -/

namespace Go.V
open Go Go.RowKit Go.Q

theorem _root_.Go.Q.Sl.up {w w' : World} {a : Option Addr} {n c sz : Nat} {xs : List Value} (h : Sl w a n c sz xs) (hb : bel w w') : Sl w' a n c sz xs := h.kept hb
/-- a loop that counts from 0 to n -/
theorem loop_up {w0 : World} {body : ((Int × Unit) → World → Prop) → (Int × Unit) → World → Prop} (n : Nat) (I : Nat → World → Prop) (h0 : I 0 w0)
    (h : ∀ i w, i ≤ n → I i w → ∀ again : (Int × Unit) → World → Prop, (∀ w', i < n → I (i + 1) w' → again ((i : Int) + 1, ()) w') → body again ((i : Int), ()) w) : loop (0, ()) w0 body := by
  refine loop_gh (G := Nat) (fun i s w' => s = ((i : Int), ()) ∧ i ≤ n ∧ I i w') (fun i => n - i) 0 ⟨rfl, Nat.zero_le _, h0⟩ ?_
  rintro i s w ⟨rfl, hi, hI⟩ again hag
  exact h i w hi hI again fun w' hlt hI' => hag (i + 1) _ _ ⟨rfl, hlt, hI'⟩ (by omega)
/-- the same with a value that is built; the counter stands behind it -/
theorem loop_upA {A : Type} {a0 : A} {w0 : World} {body : ((A × Int × Unit) → World → Prop) → (A × Int × Unit) → World → Prop} (n : Nat) (I : Nat → A → World → Prop) (h0 : I 0 a0 w0)
    (h : ∀ i a w, i ≤ n → I i a w → ∀ again : (A × Int × Unit) → World → Prop, (∀ a' w', i < n → I (i + 1) a' w' → again (a', (i : Int) + 1, ()) w') → body again (a, (i : Int), ()) w) : loop (a0, 0, ()) w0 body := by
  refine loop_gh (G := Nat) (fun i s w' => s.2 = ((i : Int), ()) ∧ i ≤ n ∧ I i s.1 w') (fun i => n - i) 0 ⟨rfl, Nat.zero_le _, h0⟩ ?_
  rintro i ⟨a, s⟩ w ⟨rfl, hi, hI⟩ again hag
  exact h i a w hi hI again fun a' w' hlt hI' => hag (i + 1) _ _ ⟨rfl, hlt, hI'⟩ (by omega)
/-- the counter stands ahead -/
theorem loop_upB {A : Type} {a0 : A} {w0 : World} {body : ((Int × A × Unit) → World → Prop) → (Int × A × Unit) → World → Prop} (n : Nat) (I : Nat → A → World → Prop) (h0 : I 0 a0 w0)
    (h : ∀ i a w, i ≤ n → I i a w → ∀ again : (Int × A × Unit) → World → Prop, (∀ a' w', i < n → I (i + 1) a' w' → again ((i : Int) + 1, a', ()) w') → body again ((i : Int), a, ()) w) : loop (0, a0, ()) w0 body := by
  refine loop_gh (G := Nat) (fun i s w' => s.1 = (i : Int) ∧ i ≤ n ∧ I i s.2.1 w') (fun i => n - i) 0 ⟨rfl, Nat.zero_le _, h0⟩ ?_
  rintro i ⟨_, a, _⟩ w ⟨rfl, hi, hI⟩ again hag
  exact h i a w hi hI again fun a' w' hlt hI' => hag (i + 1) _ _ ⟨rfl, hlt, hI'⟩ (by omega)

/-- what holds of the first elements -/
theorem pre_step {α : Type} {p : α → Prop} {l : List α} {i : Nat} {y : α} (h : ∀ j, j < i → ∀ x, l[j]? = some x → p x) (hy : l[i]? = some y) (hp : p y) : ∀ j, j < i + 1 → ∀ x, l[j]? = some x → p x := by
  intro j hj x hx
  rcases Nat.lt_or_ge j i with q | q
  · exact h j q x hx
  · have : j = i := by omega
    subst this
    rw [hy] at hx; cases hx; exact hp
theorem pre_zero {α : Type} {p : α → Prop} {l : List α} : ∀ j, j < 0 → ∀ x, l[j]? = some x → p x := fun j h => by omega
theorem pre_all {α : Type} {p : α → Prop} {l : List α} {n : Nat} (h : ∀ j, j < n → ∀ x, l[j]? = some x → p x) (hn : l.length ≤ n) : ∀ x ∈ l, p x := by
  intro x hx
  obtain ⟨j, hj, rfl⟩ := List.mem_iff_getElem.1 hx
  exact h j (by omega) _ (List.getElem?_eq_getElem hj)
theorem mem_at {α : Type} {l : List α} {i : Nat} {y : α} (h : l[i]? = some y) : y ∈ l := List.mem_of_getElem? h

/-- a function is read from memory, and called -/
theorem rdF_box0 {P : Program} {t : TypeId} {w : World} {a : Addr} {cs : List Value} {h : Nat} {fi ca : Array Value} {k : Nat → Array Value → Array Value → Prop} (ht : scal P t = true) (hb : Box w a cs) (hi : cs[0]? = some (.func (.func h) fi ca)) (hk : k h fi ca) :
    rdF P bel (Instr.loadAt t (.pointer (some a))) w k := ⟨h, fi, ca, fun w' hw => by rw [run_loadAt, run_loadVar1 ht (hw.cell (hb.cell0 hi))], hk⟩
theorem callX_of {P : Program} {h : Nat} {args args' : List Value} {r : RS} {w : World} {k : r.T → World → Prop} {fn : Func} (hf : P.funcs[h]? = some fn) (hp : plainF fn = true) (ha : args = args') (hc : call P h args' r w k) : callX P h args r w k := by
  unfold callX; rw [hf]; dsimp only; rw [hp]; subst ha; exact hc

/-- a variable is made and written at once -/
theorem var_mk {P : Program} {e : TypeId} {z v : Value} {w : World} {k : Addr → World → Prop} (hz : zeroOf P e = some z) (hs : sizeIs P e v.cells.size = true) (hl : v.cells.size = z.cells.size) (hp : plainV v.cells.toList = true)
    (hk : ∀ a w', Box w' a v.cells.toList → bel w w' → a.block = w.heap.size → k a w') :
    wr P (Instr.alloc e true (.tuple #[])) (.one .addr) w fun x w1 => wu P (Instr.storeAt e (.pointer (some x)) v) w1 fun w2 => k x w2 := by
  refine wr_alloc hz fun a w1 Z h ha _ => ?_
  refine wu_box Z hs (by rw [hl]; simp) hp fun w2 Z hg _ => ?_
  have e2 : putAt z.cells.toList 0 v.cells.toList = v.cells.toList := by
    have key : ∀ (vs pre cs : List Value), cs.length = vs.length → putAt (pre ++ cs) pre.length vs = pre ++ vs := by
      intro vs
      induction vs with
      | nil => intro pre cs h; rw [List.eq_nil_of_length_eq_zero h]; rfl
      | cons x vs ih =>
        intro pre cs h
        cases cs with
        | nil => simp at h
        | cons c cs =>
          simp only [putAt]
          have h1 : (pre ++ c :: cs).set pre.length x = (pre ++ [x]) ++ cs := by simp
          rw [h1]
          have := ih (pre ++ [x]) cs (by simpa using h)
          simp only [List.length_append, List.length_cons, List.length_nil, Nat.zero_add] at this
          rw [this]; simp
    have := key v.cells.toList [] z.cells.toList (by simp [hl])
    simpa using this
  rw [e2] at Z
  exact hk _ _ Z (h.grownAt hg (by omega)) ha

/-- where a test first holds; -1: nowhere -/
def idxI {β : Type} (q : β → Bool) (ys : List β) : Int :=
  match ys.findIdx? q with
  | some i => (i : Int) | none => -1
theorem idxI_any {β : Type} (q : β → Bool) (ys : List β) : decide (idxI q ys ≥ 0) = ys.any q := by
  unfold idxI
  rw [← List.findIdx?_isSome]
  cases ys.findIdx? q with
  | none => rfl
  | some i => simp
/-- the loop of slices.IndexFunc -/
theorem idx_loop {P : Program} {t e : TypeId} {vs : VS} {f : FuncId} {fargs : vs.T → List Value} {a : Option Addr} {n c : Nat} {R : Value → World → Prop} {w0 : World} {β : Type} (xs : List vs.T) (ys : List β) (q : β → Bool) (hn : xs.length = n) (hy : ys.length = n) (hm : n ≤ 9223372036854775807)
    (RD : ∀ (j : Nat) (x : vs.T), xs[j]? = some x → ∀ w', bel w0 w' → ∀ K : vs.T → Prop, K x → rdp P (Instr.indexAt t (.slice a n c) (.int .i64 (j : Int))) (.one .addr) fun ad => rd P (Instr.loadAt e (.pointer (some ad))) vs w' K)
    (CALL : ∀ (j : Nat) (x : vs.T) (y : β), xs[j]? = some x → ys[j]? = some y → ∀ w', bel w0 w' → call P f (fargs x) (.one (.one .bool)) w' fun b w'' => b = q y ∧ bel w' w'')
    (hk : ∀ w', bel w0 w' → R (.int .i64 (idxI q ys)) w') :
    loop (T := (Int × Unit)) (0, ()) w0 fun (again1 : (Int × Unit) → World → Prop) (s2 : (Int × Unit)) w3 => ∀ _ : Nat → Value,
      br (decide (s2.1 < ((n : Nat) : Int))) (rdp P (Instr.indexAt t (.slice a n c) (.int .i64 s2.1)) (.one .addr) fun (x4 : Addr) =>
      rd P (Instr.loadAt e (.pointer (some x4))) vs w3 fun x5 =>
      call P f (fargs x5) (.one (.one .bool)) w3 fun (x6 : Bool) (w7 : World) =>
      br x6 (R (.int .i64 s2.1) w7)
      (z (IntKind.wrap .i64 (s2.1 + 1)) fun (z8 : Int) =>
      again1 (z8, ()) w7))
      (R (.int .i64 (-1)) w3) := by
  refine loop_up n (fun i w' => bel w0 w' ∧ ∀ j, j < i → ∀ y, ys[j]? = some y → q y = false) ⟨bel.refl _, fun j h => by omega⟩ ?_
  rintro i w hi ⟨hb, hq⟩ again hag _
  refine br_dec (fun e => ?_) (fun e => ?_)
  · dsimp only at e
    have hi' : i < n := by omega
    have hx : xs[i]? = some (xs[i]'(by omega)) := List.getElem?_eq_getElem (by omega)
    have hy' : ys[i]? = some (ys[i]'(by omega)) := List.getElem?_eq_getElem (by omega)
    refine RD i _ hx w hb _ ?_
    refine call_mono (CALL i _ _ hx hy' w hb) ?_
    rintro b w2 ⟨rfl, hb2⟩
    refine br_mk (fun hq' => ?_) (fun hq' => ?_)
    · have : idxI q ys = (i : Int) := by
        unfold idxI
        rw [List.findIdx?_eq_some_iff_getElem.2 ⟨by omega, hq', fun j hj => by
          have := hq j hj _ (List.getElem?_eq_getElem (by omega))
          simp [this]⟩]
      rw [← this]
      exact hk _ (hb.trans hb2)
    · refine z_i64 (by dsimp only; omega) ?_
      refine hag _ hi' ⟨hb.trans hb2, fun j hj y hy2 => ?_⟩
      rcases Nat.lt_or_ge j i with h | h
      · exact hq j h y hy2
      · have : j = i := by omega
        subst this
        rw [hy'] at hy2; cases hy2; exact hq'
  · dsimp only at e
    have hi' : i = n := by omega
    have : idxI q ys = -1 := by
      unfold idxI
      rw [List.findIdx?_eq_none_iff.2 fun y hy' => by
        obtain ⟨j, hj, rfl⟩ := List.mem_iff_getElem.1 hy'
        exact hq j (by omega) _ (List.getElem?_eq_getElem hj)]
    rw [← this]
    exact hk _ hb
/-- .. over numbers -/
theorem idx_ints {P : Program} {t e : TypeId} {z0 : Value} {bytes : Nat} (TS : TyS P t e z0 1 bytes) (he : scal P e = true) {kk : IntKind} {f : FuncId} {fargs : Int → List Value} {a : Option Addr} {n c : Nat} {w0 : World} {xs : List Int} (H : Sl w0 a n c 1 (ints kk xs)) (q : Int → Bool)
    (CALL : ∀ (j : Nat) (x : Int), xs[j]? = some x → ∀ w', bel w0 w' → call P f (fargs x) (.one (.one .bool)) w' fun b w'' => b = q x ∧ bel w' w'') :
    loop (T := (Int × Unit)) (0, ()) w0 fun (again1 : (Int × Unit) → World → Prop) (s2 : (Int × Unit)) w3 => ∀ _ : Nat → Value,
      br (decide (s2.1 < ((n : Nat) : Int))) (rdp P (Instr.indexAt t (.slice a n c) (.int .i64 s2.1)) (.one .addr) fun (x4 : Addr) =>
      rd P (Instr.loadAt e (.pointer (some x4))) (.one (.int kk)) w3 fun (x5 : Int) =>
      call P f (fargs x5) (.one (.one .bool)) w3 fun (x6 : Bool) (w7 : World) =>
      br x6 ((fun (v : Value) (w' : World) => ∃ x : Int, v = (RS.one (.one (.int .i64))).val x ∧ x = idxI q xs ∧ bel w0 w') (.int .i64 s2.1) w7)
      (z (IntKind.wrap .i64 (s2.1 + 1)) fun (z8 : Int) =>
      again1 (z8, ()) w7))
      ((fun (v : Value) (w' : World) => ∃ x : Int, v = (RS.one (.one (.int .i64))).val x ∧ x = idxI q xs ∧ bel w0 w') (.int .i64 (-1)) w3) := by
  have hl := H.int
  refine idx_loop (R := (fun (v : Value) (w' : World) => ∃ x : Int, v = (RS.one (.one (.int .i64))).val x ∧ x = idxI q xs ∧ bel w0 w')) (vs := .one (.int kk)) (fargs := fargs) xs xs q hl hl H.le (fun j x hx w' hb K hk => ?_) (fun j x y hx hy w' hb => ?_) (fun w' hb => ⟨_, rfl, rfl, hb⟩)
  · have hx' : (xs : List Int)[j]? = some (x : Int) := hx
    exact at_int TS he (H.kept hb) rfl (by have := (List.getElem?_eq_some_iff.1 hx').1; omega) (fun y hy => by rw [hx'] at hy; cases hy; exact hk)
  · have hx' : (xs : List Int)[j]? = some (x : Int) := hx
    rw [hx'] at hy; cases hy
    exact CALL j x hx' w' hb
/-- .. over the rows of a table -/
theorem idx_tab {P : Program} {t e : TypeId} {z0 : Value} {bytes : Nat} (TS : TyS P t e z0 1 bytes) (he : scal P e = true) {α : Type} {g : α → Value} {f : FuncId} {fargs : Hdr → List Value} {r : Hdr} {w0 : World} {T : List (List α)} (H : Tab g w0 r T) (q : List α → Bool)
    (CALL : ∀ (j : Nat) (x : Hdr) (y : List α), T[j]? = some y → Sl w0 x.1 x.2.1 x.2.2 1 (y.map g) → ∀ w', bel w0 w' → call P f (fargs x) (.one (.one .bool)) w' fun b w'' => b = q y ∧ bel w' w'') :
    loop (T := (Int × Unit)) (0, ()) w0 fun (again1 : (Int × Unit) → World → Prop) (s2 : (Int × Unit)) w3 => ∀ _ : Nat → Value,
      br (decide (s2.1 < ((r.2.1 : Nat) : Int))) (rdp P (Instr.indexAt t (.slice r.1 r.2.1 r.2.2) (.int .i64 s2.1)) (.one .addr) fun (x4 : Addr) =>
      rd P (Instr.loadAt e (.pointer (some x4))) (.one .slice) w3 fun (x5 : Option Addr × Nat × Nat) =>
      call P f (fargs x5) (.one (.one .bool)) w3 fun (x6 : Bool) (w7 : World) =>
      br x6 ((fun (v : Value) (w' : World) => ∃ x : Int, v = (RS.one (.one (.int .i64))).val x ∧ x = idxI q T ∧ bel w0 w') (.int .i64 s2.1) w7)
      (z (IntKind.wrap .i64 (s2.1 + 1)) fun (z8 : Int) =>
      again1 (z8, ()) w7))
      ((fun (v : Value) (w' : World) => ∃ x : Int, v = (RS.one (.one (.int .i64))).val x ∧ x = idxI q T ∧ bel w0 w') (.int .i64 (-1)) w3) := by
  obtain ⟨hs, h1, h2, h3⟩ := H.ex
  have hl : hs.length = r.2.1 := by have := h1.len; simpa using this
  refine idx_loop (R := (fun (v : Value) (w' : World) => ∃ x : Int, v = (RS.one (.one (.int .i64))).val x ∧ x = idxI q T ∧ bel w0 w')) (vs := .one .slice) (fargs := fargs) hs T q hl (by omega) h1.le (fun j x hx w' hb K hk => ?_) (fun j x y hx hy w' hb => ?_) (fun w' hb => ⟨_, rfl, rfl, hb⟩)
  · have hx' : (hs : List Hdr)[j]? = some (x : Hdr) := hx
    exact at_hdr TS he (h1.kept hb) rfl (by have := (List.getElem?_eq_some_iff.1 hx').1; omega) (fun y hy => by rw [hx'] at hy; cases hy; exact hk)
  · have hx' : (hs : List Hdr)[j]? = some (x : Hdr) := hx
    exact CALL j x y hy (h3 j x y hx' hy) w' hb
/-- .. over records -/
theorem idx_aggs {P : Program} {t e : TypeId} {z0 : Value} {sz bytes : Nat} (TS : TyS P t e z0 sz bytes) (ht : aggOf P e sz = true) {α : Type} {enc : α → List Value} (he : ∀ a, (enc a).length = sz) (h0 : 0 < sz) {l : List Sh} {dec : α → LT l} (hd : ∀ a, Lget l (enc a) = some (dec a)) {f : FuncId} {fargs : LT l → List Value} {a : Option Addr} {n c : Nat} {w0 : World} {L : List α} (H : Sl w0 a n c sz (L.flatMap enc)) (q : α → Bool)
    (CALL : ∀ (j : Nat) (x : α), L[j]? = some x → ∀ w', bel w0 w' → call P f (fargs (dec x)) (.one (.one .bool)) w' fun b w'' => b = q x ∧ bel w' w'') :
    loop (T := (Int × Unit)) (0, ()) w0 fun (again1 : (Int × Unit) → World → Prop) (s2 : (Int × Unit)) w3 => ∀ _ : Nat → Value,
      br (decide (s2.1 < ((n : Nat) : Int))) (rdp P (Instr.indexAt t (.slice a n c) (.int .i64 s2.1)) (.one .addr) fun (x4 : Addr) =>
      rd P (Instr.loadAt e (.pointer (some x4))) (.agg l) w3 fun (x5 : LT l) =>
      call P f (fargs x5) (.one (.one .bool)) w3 fun (x6 : Bool) (w7 : World) =>
      br x6 ((fun (v : Value) (w' : World) => ∃ x : Int, v = (RS.one (.one (.int .i64))).val x ∧ x = idxI q L ∧ bel w0 w') (.int .i64 s2.1) w7)
      (z (IntKind.wrap .i64 (s2.1 + 1)) fun (z8 : Int) =>
      again1 (z8, ()) w7))
      ((fun (v : Value) (w' : World) => ∃ x : Int, v = (RS.one (.one (.int .i64))).val x ∧ x = idxI q L ∧ bel w0 w') (.int .i64 (-1)) w3) := by
  have hl : L.length = n := by
    have := H.len
    rw [flat_len he] at this
    exact Nat.eq_of_mul_eq_mul_right h0 this
  refine idx_loop (R := (fun (v : Value) (w' : World) => ∃ x : Int, v = (RS.one (.one (.int .i64))).val x ∧ x = idxI q L ∧ bel w0 w')) (vs := .agg l) (fargs := fargs) (L.map dec) L q ((List.length_map ..).trans hl) hl H.le (fun j x hx w' hb K hk => ?_) (fun j x y hx hy w' hb => ?_) (fun w' hb => ⟨_, rfl, rfl, hb⟩)
  · have hx' : (L.map dec)[j]? = some x := hx
    rw [List.getElem?_map] at hx'
    cases hp : L[j]? with
    | none => rw [hp] at hx'; cases hx'
    | some p =>
      rw [hp] at hx'
      cases hx'
      exact at_agg TS ht he h0 (H.kept hb) rfl hp (hd p) hk
  · have hx' : (L.map dec)[j]? = some x := hx
    rw [List.getElem?_map, hy] at hx'
    cases hx'
    exact CALL j y hy w' hb
end Go.V

/- A block of one's own that others may write: relations for regions that tell their states. -/

namespace Go.V
open Go Go.RowKit Go.Q

/-- only one block that was there may have turned -/
abbrev Xg (b : Nat) : Rel := fun w w' => w.grownBy w' (some b)
theorem bel.xg {w w' : World} (h : bel w w') (b : Nat) : Xg b w w' := grown_of_bel h _
theorem Box.xg {w w' : World} {a : Addr} {cs : List Value} {b : Nat} (X : Box w a cs) (h : Xg b w w') (hne : a.block ≠ b) : Box w' a cs := X.grown h (by intro e; injection e; omega)
theorem _root_.Go.Q.Sl.xg {w w' : World} {a : Option Addr} {n c sz : Nat} {xs : List Value} {b : Nat} (S : Sl w a n c sz xs) (h : Xg b w w') (hne : ∀ ad, a = some ad → xs ≠ [] → ad.block ≠ b) : Sl w' a n c sz xs :=
  S.grown h fun ad ha hx e => hne ad ha hx (by injection e)
theorem Own.xg {w w' : World} {B : Nat} {e : TypeId} {sz : Nat} {a : Option Addr} {n c : Nat} {xs : List Value} {b : Nat} (O : Own w B e sz a n c xs) (h : Xg b w w') (hb : b < B) : Own w' B e sz a n c xs := by
  refine O.keptBy h ?_
  cases hk : blk a with
  | none => exact .inl rfl
  | some k => exact .inr fun q => by have := (O.lt k hk).1; injection q; omega
theorem rdE_box0 {P : Program} {E : Rel} {t : TypeId} {s : Sh} {w : World} {a : Addr} {cs : List Value} {v : Value} {x : s.T} {k : s.T → Prop} (ht : scal P t = true) (h : ∀ w', E w w' → Box w' a cs) (hi : cs[0]? = some v) (hx : s.get v = some x) (hk : k x) :
    rdE P E (Instr.loadAt t (.pointer (some a))) (.one s) w k := ⟨x, fun w' hw => by rw [run_loadAt, run_loadVar1 ht ((h w' hw).cell0 hi), Sh.get_spec hx]; rfl, hk⟩
theorem rdE_box {P : Program} {E : Rel} {t : TypeId} {s : Sh} {w : World} {a : Addr} {cs : List Value} {i : Nat} {v : Value} {x : s.T} {k : s.T → Prop} (ht : scal P t = true) (h : ∀ w', E w w' → Box w' a cs) (hi : cs[i]? = some v) (hx : s.get v = some x) (hk : k x) :
    rdE P E (Instr.loadAt t (.pointer (some (a.add i)))) (.one s) w k := ⟨x, fun w' hw => by rw [run_loadAt, run_loadVar1 ht ((h w' hw).cell hi), Sh.get_spec hx]; rfl, hk⟩
theorem flExC_mk {w0 : World} {B : Rel → (Nat → Rel) → ((Nat → Bool) → World → Prop) → Facts → Prop} (E : Rel) (G : Nat → Rel) (St : (Nat → Bool) → World → Prop) (Φ : Facts) (h1 : ∀ w, E w w) (h2 : ∀ a b c, E a b → E b c → E a c)
    (h3 : ∀ i j ags v w w', i ≠ j → Φ i ags v w → E w w' → G j w w' → Φ i ags v w') (h4 : St (fun _ => false) w0) (h5 : B E G St Φ) : flExC w0 B := ⟨E, G, St, Φ, h1, h2, h3, h4, h5⟩
theorem flcC_mk {St : (Nat → Bool) → World → Prop} {j : Nat} {E : Rel} {w0 : World} {pre : World → Prop} {ob : (Nat → Bool) → World → Prop} {T : Type} {nxt : T → Prop} (h1 : ∀ D w, D j = false → E w0 w → St D w → pre w → ob D w) (h2 : ∀ x, nxt x) : flcC St j E w0 pre ob nxt := ⟨h1, h2⟩
theorem flendC_mk {St : (Nat → Bool) → World → Prop} {L : List Nat} {E : Rel} {w0 : World} {pre k : World → Prop} (h : ∀ w, E w0 w → St (fun i => L.contains i) w → pre w → k w) : flendC St L E w0 pre k := h
theorem setD_self (D : Nat → Bool) (j : Nat) : setD D j j = true := by simp [setD]
theorem setD_ne {D : Nat → Bool} {i j : Nat} (h : i ≠ j) : setD D j i = D i := by simp [setD, h]
/-- frames over several blocks -/
structure Xb (S : Nat → Prop) (w w' : World) : Prop where
  os : w'.os = w.os
  tape : w'.tape = w.tape
  output : w'.output = w.output
  size : w.heap.size ≤ w'.heap.size
  block : ∀ k, k < w.heap.size → ¬ S k → w'.heap[k]? = w.heap[k]?
theorem Xb.refl (S : Nat → Prop) (w : World) : Xb S w w := ⟨rfl, rfl, rfl, Nat.le_refl _, fun _ _ _ => rfl⟩
theorem Xb.trans {S : Nat → Prop} {a b c : World} (h : Xb S a b) (h' : Xb S b c) : Xb S a c :=
  ⟨h'.os.trans h.os, h'.tape.trans h.tape, h'.output.trans h.output, Nat.le_trans h.size h'.size, fun k hk hs => by rw [h'.block k (by have := h.size; omega) hs, h.block k hk hs]⟩
theorem Xb.of {S : Nat → Prop} {w w' : World} {o : Option Nat} (h : w.grownBy w' o) (ho : ∀ k, o = some k → S k) : Xb S w w' :=
  ⟨h.os, h.tape, h.output, h.size, fun k hk hs => h.block k hk (fun e => hs (ho k e.symm))⟩
theorem Xb.bel {S : Nat → Prop} {a w w' : World} (h : bel a w) (h' : Xb S w w') (hs : ∀ k, S k → a.heap.size ≤ k) : bel a w' :=
  ⟨h'.os.trans h.os, h'.tape.trans h.tape, h'.output.trans h.output, Nat.le_trans h.size h'.size, fun k hk => by rw [h'.block k (by have := h.size; omega) (fun q => by have := hs k q; omega), h.block k hk]⟩
theorem Xb.grown {S : Nat → Prop} {w w' : World} (h : Xb S w w') {o : Option Nat} (hs : ∀ k, S k → k < w.heap.size → o = some k) : w.grownBy w' o :=
  ⟨h.os, h.tape, h.output, h.size, fun k hk hne => h.block k hk fun q => hne (hs k q hk).symm⟩
theorem Xb.more {S S' : Nat → Prop} {a w w' : World} (h : Xb S a w) (h' : Xb S' w w') (hs : ∀ k, S' k → S k ∨ a.heap.size ≤ k) : Xb S a w' :=
  ⟨h'.os.trans h.os, h'.tape.trans h.tape, h'.output.trans h.output, Nat.le_trans h.size h'.size, fun k hk hn => by
    rw [h'.block k (by have := h.size; omega) (fun q => by
      rcases hs k q with q | q
      · exact hn q
      · omega), h.block k hk hn]⟩
theorem _root_.Go.Q.Sl.xb {S : Nat → Prop} {w w' : World} {a : Option Addr} {n c sz : Nat} {xs : List Value} (H : Sl w a n c sz xs) (hX : Xb S w w') (hne : ∀ ad, a = some ad → xs ≠ [] → ¬ S ad.block) : Sl w' a n c sz xs := by
  refine ⟨H.len, H.cap, H.most, H.nil', fun k u hu => ?_⟩
  obtain ⟨ad, q1, q2, q3⟩ := H.at' k u hu
  have hx : xs ≠ [] := by rintro rfl; simp at hu
  refine ⟨ad, q1, ?_, by have := hX.size; omega⟩
  have := hX.block ad.block q3 (hne ad q1 hx)
  unfold World.cell? at q2 ⊢
  rw [add_block] at q2 ⊢
  rw [this]; exact q2
theorem Box.xb {S : Nat → Prop} {w w' : World} {a : Addr} {cs : List Value} (X : Box w a cs) (hX : Xb S w w') (hne : ¬ S a.block) : Box w' a cs :=
  ⟨X.off, X.spot, by obtain ⟨T, hT⟩ := X.blk; exact ⟨T, by rw [hX.block _ X.lt hne]; exact hT⟩⟩
/-- slices of different kinds of elements do not lie in one block -/
theorem Own.apart {w : World} {B B' : Nat} {e e' : TypeId} {sz sz' : Nat} {a a' : Option Addr} {n c n' c' : Nat} {xs ys : List Value} (h : Own w B e sz a n c xs) (h' : Own w B' e' sz' a' n' c' ys) (hne : e ≠ e') : ∀ k, blk a = some k → blk a' = some k → False := by
  intro k hk hk'
  obtain ⟨_, h2⟩ := h
  obtain ⟨_, h2'⟩ := h'
  rcases h2 with ⟨hv, _⟩ | ⟨g, cap, cur, hv, _, hh, _⟩
  · injection hv with ha; rw [ha] at hk; cases hk
  · rcases h2' with ⟨hv', _⟩ | ⟨g', cap', cur', hv', _, hh', _⟩
    · injection hv' with ha'; rw [ha'] at hk'; cases hk'
    · injection hv with ha
      injection hv' with ha'
      subst ha ha'
      have q1 : g = k := by simpa [blk] using hk
      have q2 : g' = k := by simpa [blk] using hk'
      subst q1
      subst q2
      rw [hh] at hh'
      injection hh' with hh'
      injection hh' with _ he _
      exact hne he
theorem xg_put {w w' w'' : World} {t : Nat} {o : Option Nat} (h : w.grownBy w' (some t)) (hg : w'.grownBy w'' o) (ho : ∀ k, o = some k → w.heap.size ≤ k ∨ k = t) : w.grownBy w'' (some t) :=
  ⟨hg.os.trans h.os, hg.tape.trans h.tape, hg.output.trans h.output, Nat.le_trans h.size hg.size, fun k hk hne => by
    rw [hg.block k (by have := h.size; omega) (fun e => by
      rcases ho k e.symm with q | q
      · omega
      · exact hne (by rw [q])), h.block k hk hne]⟩
end Go.V

/- copy, and regions with a relation. -/


namespace Go.V
open Go Go.RowKit Go.Q

theorem putAt_at : ∀ (vs pre cs : List Value), vs.length ≤ cs.length → putAt (pre ++ cs) pre.length vs = pre ++ vs ++ cs.drop vs.length
  | [], pre, cs, _ => by simp [putAt]
  | v :: vs, pre, [], h => by simp at h
  | v :: vs, pre, c :: cs, h => by
    simp only [putAt]
    have h1 : (pre ++ c :: cs).set pre.length v = (pre ++ [v]) ++ cs := by simp
    rw [h1]
    have := putAt_at vs (pre ++ [v]) cs (by simpa using h)
    simp only [List.length_append, List.length_cons, List.length_nil, Nat.zero_add] at this
    rw [this]; simp
theorem run_storeOwn {P : Program} {B : Nat} {e : TypeId} {ad : Addr} {n c : Nat} : ∀ (vs : List Value) (i : Nat) (w : World) (xs : List Value), Own w B e 1 (some ad) n c xs → i + vs.length ≤ xs.length → plainV vs = true →
    ∃ w', (storeCells ad vs i).run P w = .ok () w' ∧ Own w' B e 1 (some ad) n c (putAt xs i vs) ∧ w.grownBy w' (some ad.block) ∧ w'.heap.size = w.heap.size
  | [], i, w, xs, hb, _, _ => ⟨w, rfl, hb, grown_refl _ _, rfl⟩
  | v :: vs, i, w, xs, hb, hl, hp => by
    simp only [plainV, List.all_cons, Bool.and_eq_true] at hp
    simp only [List.length_cons] at hl
    obtain ⟨u, hu⟩ : ∃ u, xs[i]? = some u := ⟨_, List.getElem?_eq_getElem (by omega)⟩
    obtain ⟨ad', h1, hc, hfz, _⟩ := hb.cell (j := i) hu
    cases h1
    obtain ⟨w', h1, h2, h3, h4⟩ := run_storeOwn (P := P) vs (i + 1) (w.setCell (ad.add i) v) (xs.set i v) (hb.set i v) (by simp; omega) hp.2
    refine ⟨w', ?_, h2, ?_, by rw [h4, setCell_size]⟩
    · simp only [storeCells, Sem.run_bind]
      rw [run_store P w (ad.add i) v .plain hp.1, hc]
      simp only [hfz, Bool.false_eq_true, if_false, Result.andThen_ok, h1]
    · refine World.grownBy.trans ?_ h3
      have := setCell_grown w (ad.add i) v
      rwa [add_block] at this
/-- copy into a slice of one's own -/
theorem wr_copy {P : Program} {t e : TypeId} {z : Value} {bytes : Nat} (T : TyS P t e z 1 bytes) {w : World} {B : Nat} {a b : Option Addr} {n c m c' : Nat} {xs ys : List Value} {ty : TypeId} {k : Int → World → Prop}
    (O : Own w B e 1 a n c xs) (S : Sl w b m c' 1 ys) (hp : plainV ys = true)
    (hk : ∀ w', Own w' B e 1 a n c (ys.take n ++ xs.drop m) → w.grownBy w' (blk a) → w'.heap.size = w.heap.size → k ((Nat.min m n : Nat) : Int) w') :
    wr P (Builtin.copy_ #[t, t] ty #[.slice a n c, .slice b m c']) (.one (.int .i64)) w k := by
  obtain ⟨i, h1, _, h2, _⟩ := info_parts T.hi
  have hxs : xs.length = n := by have := O.1; omega
  have hys : ys.length = m := by have := S.len; omega
  have hi : i.size = 1 := h2
  have hmin : (Nat.min m n) = min m n := rfl
  have hcl : (ys.take n).length = Nat.min m n := by rw [List.length_take, hys, hmin]; omega
  have key : putAt xs 0 (ys.take n) = ys.take n ++ xs.drop m := by
    have := putAt_at (ys.take n) [] xs (by rw [hcl, hmin]; omega)
    simp only [List.nil_append, List.length_nil] at this
    rw [this, hcl, hmin]
    rcases Nat.le_total m n with q | q
    · rw [show min m n = m by omega]
    · rw [show min m n = n by omega, List.drop_of_length_le (by omega), List.drop_of_length_le (by omega)]
  have hpl : plainV (ys.take n) = true := by
    unfold plainV at hp ⊢
    rw [List.all_eq_true] at hp ⊢
    exact fun x hx => hp x (List.mem_of_mem_take hx)
  cases a with
  | none =>
    have hn0 : n = 0 := by
      rcases O.2 with ⟨hv, _⟩ | ⟨g, cap, cur, hv, _⟩
      · injection hv
      · cases hv
    subst hn0
    have hx0 : xs = [] := List.eq_nil_of_length_eq_zero hxs
    subst hx0
    refine ⟨(0 : Int), w, ?_, ?_⟩
    · cases b with
      | none => simp [Builtin.copy_, run_underlying T.ht, Builtin.lenOf, Builtin.firstCells, sizeOf, typeInfo, h1, goInt]; rfl
      | some b =>
        have hl := run_loadCells_list (P := P) w b [] (fun j v h => by simp at h)
        simp [Builtin.copy_, run_underlying T.ht, Builtin.lenOf, Builtin.firstCells, sizeOf, typeInfo, h1] at hl ⊢
        simp [hl, goInt]; rfl
    · have := hk w (by simpa using O) (grown_refl _ _) rfl
      simpa [hmin] using this
  | some ad =>
    obtain ⟨w', r1, r2, r3, r4⟩ := run_storeOwn (P := P) (ys.take n) 0 w xs O (by rw [hcl, hmin]; omega) hpl
    rw [key] at r2
    refine ⟨((Nat.min m n : Nat) : Int), w', ?_, hk w' r2 r3 r4⟩
    cases b with
    | none =>
      have hm0 : m = 0 := (S.nil' rfl).1
      subst hm0
      have hy0 : ys = [] := List.eq_nil_of_length_eq_zero hys
      subst hy0
      simp at r1
      simp [Builtin.copy_, run_underlying T.ht, Builtin.lenOf, Builtin.firstCells, sizeOf, typeInfo, h1, goInt, r1]; rfl
    | some b =>
      have hl := run_loadCells_list (P := P) w b (ys.take n) (fun j v h => by
        have hj : ys[j]? = some v := by
          rw [List.getElem?_take] at h
          split at h
          · exact h
          · cases h
        obtain ⟨ad', q1, q2, _⟩ := S.at' j v hj
        cases q1; exact q2)
      rw [hcl] at hl
      simp [Builtin.copy_, run_underlying T.ht, Builtin.lenOf, Builtin.firstCells, sizeOf, typeInfo, h1, hi, hl, r1, goInt]; rfl
theorem Own.putNew {w w' : World} {B : Nat} {e : TypeId} {sz : Nat} {a : Option Addr} {n c : Nat} {xs : List Value} {k : Nat} (O : Own w B e sz a n c xs) (h : w.grownBy w' (some k)) (hk : ∀ j, blk a = some j → j ≠ k) : Own w' B e sz a n c xs := by
  refine O.keptBy h ?_
  cases hj : blk a with
  | none => exact .inl rfl
  | some j => exact .inr fun q => hk j hj (by injection q)
theorem flExE_mk {B : Rel → Facts → Prop} (E : Rel) (Φ : Facts) (h1 : ∀ w, E w w) (h2 : ∀ a b c, E a b → E b c → E a c) (h3 : ∀ i ags v w w', Φ i ags v w → E w w' → Φ i ags v w') (h4 : B E Φ) : flExE B := ⟨E, Φ, h1, h2, h3, h4⟩
end Go.V

/- Sums over tables: no program in sight. -/

namespace Go.Proofs.Ytphgmfjinihgaaa

/-- the sum of the first n -/
def S : Nat → (Nat → Int) → Int
  | 0, _ => 0
  | n + 1, f => S n f + f n
theorem S_congr {n : Nat} {f g : Nat → Int} (h : ∀ i, i < n → f i = g i) : S n f = S n g := by
  induction n with
  | zero => rfl
  | succ n ih => simp only [S]; rw [ih fun i hi => h i (by omega), h n (by omega)]
theorem S_add (n : Nat) (f g : Nat → Int) : S n (fun i => f i + g i) = S n f + S n g := by
  induction n with
  | zero => rfl
  | succ n ih => simp only [S]; rw [ih]; omega
theorem S_zero (n : Nat) : S n (fun _ => 0) = 0 := by
  induction n with
  | zero => rfl
  | succ n ih => simp only [S]; rw [ih]; rfl
theorem S_le {n : Nat} {f g : Nat → Int} (h : ∀ i, i < n → f i ≤ g i) : S n f ≤ S n g := by
  induction n with
  | zero => exact Int.le_refl _
  | succ n ih => simp only [S]; have := ih fun i hi => h i (by omega); have := h n (by omega); omega
theorem S_nonneg {n : Nat} {f : Nat → Int} (h : ∀ i, i < n → 0 ≤ f i) : 0 ≤ S n f := by
  have := S_le (n := n) (f := fun _ => 0) (g := f) h
  rwa [S_zero] at this
theorem S_bound {n : Nat} {f : Nat → Int} {b : Int} (h : ∀ i, i < n → f i ≤ b) : S n f ≤ n * b := by
  induction n with
  | zero => simp [S]
  | succ n ih =>
    simp only [S]
    have := ih fun i hi => h i (by omega)
    have := h n (by omega)
    rw [show ((n + 1 : Nat) : Int) = (n : Int) + 1 by omega, Int.add_mul]
    omega
theorem S_swap (n m : Nat) (f : Nat → Nat → Int) : S n (fun i => S m (f i)) = S m (fun k => S n fun i => f i k) := by
  induction n with
  | zero => simp only [S]; rw [S_zero]
  | succ n ih => simp only [S]; rw [ih, ← S_add]
theorem S_if (m : Nat) (p : Prop) [Decidable p] (f : Nat → Int) : (if p then S m f else 0) = S m (fun k => if p then f k else 0) := by
  by_cases h : p
  · simp [h]
  · simp [h, S_zero]
theorem S_get {n : Nat} {f : Nat → Int} (h : ∀ i, i < n → 0 ≤ f i) {k : Nat} (hk : k < n) : f k ≤ S n f := by
  induction n with
  | zero => omega
  | succ n ih =>
    simp only [S]
    have h0 := S_nonneg (n := n) (f := f) fun i hi => h i (by omega)
    have h1 := h n (by omega)
    rcases Nat.lt_or_ge k n with q | q
    · have := ih (fun i hi => h i (by omega)) q; omega
    · have : k = n := by omega
      subst this; omega
theorem S_pos {n : Nat} {f : Nat → Int} (h : ∀ i, i < n → 0 ≤ f i) (hp : 0 < S n f) : ∃ i, i < n ∧ 0 < f i := by
  induction n with
  | zero => simp [S] at hp
  | succ n ih =>
    simp only [S] at hp
    by_cases q : 0 < f n
    · exact ⟨n, by omega, q⟩
    · obtain ⟨i, h1, h2⟩ := ih (fun i hi => h i (by omega)) (by omega)
      exact ⟨i, by omega, h2⟩
/-- one place changes -/
theorem S_upd {n k : Nat} {f g : Nat → Int} (hk : k < n) (h : ∀ i, i < n → i ≠ k → g i = f i) : S n g = S n f + (g k - f k) := by
  induction n with
  | zero => omega
  | succ n ih =>
    simp only [S]
    rcases Nat.lt_or_ge k n with q | q
    · rw [ih q fun i hi hne => h i (by omega) hne, h n (by omega) (by omega)]; omega
    · have : k = n := by omega
      subst this
      rw [S_congr (g := f) fun i hi => h i (by omega) (by omega)]; omega

/-! ### tables as lists -/
def g1 (l : List Int) (i : Nat) : Int := l.getD i 0
def g2 (T : List (List Int)) (i k : Nat) : Int := g1 (T.getD i []) k
def gb (l : List Bool) (i : Nat) : Bool := l.getD i false
theorem g1_at {l : List Int} {i : Nat} {x : Int} (h : l[i]? = some x) : g1 l i = x := by unfold g1; rw [List.getD_eq_getElem?_getD, h]; rfl
theorem g2_at {T : List (List Int)} {i k : Nat} {r : List Int} {x : Int} (h : T[i]? = some r) (h' : r[k]? = some x) : g2 T i k = x := by unfold g2; rw [List.getD_eq_getElem?_getD, h]; exact g1_at h'
theorem g2_row {T : List (List Int)} {i : Nat} {r : List Int} (h : T[i]? = some r) (k : Nat) : g2 T i k = g1 r k := by unfold g2; rw [List.getD_eq_getElem?_getD, h]; rfl
theorem gb_at {l : List Bool} {i : Nat} {x : Bool} (h : l[i]? = some x) : gb l i = x := by unfold gb; rw [List.getD_eq_getElem?_getD, h]; rfl
abbrev Out (n : Int) : Prop := n < 0 ∨ 1000000 < n
abbrev OutT (T : List (List Int)) : Prop := ∃ r ∈ T, ∃ x ∈ r, Out x
open Classical in
/-- what is wrong with a grid -/
noncomputable def validG (R C : List Int) (B : List (List Int)) : Int :=
  if R.length = 0 ∨ C.length = 0 ∨ 64 < R.length ∨ 64 < C.length then 8
  else if B.length ≠ R.length ∨ ∃ r ∈ B, r.length ≠ C.length then 9
  else if (∃ x ∈ R, Out x) ∨ (∃ x ∈ C, Out x) ∨ OutT B then 1 else 0
structure ValidP (R C : List Int) (B : List (List Int)) : Prop where
  r0 : 0 < R.length
  c0 : 0 < C.length
  r64 : R.length ≤ 64
  c64 : C.length ≤ 64
  b : B.length = R.length
  row : ∀ r ∈ B, r.length = C.length
  R : ∀ x ∈ R, ¬ Out x
  C : ∀ x ∈ C, ¬ Out x
  B : ∀ r ∈ B, ∀ x ∈ r, ¬ Out x
theorem validG_iff {R C : List Int} {B : List (List Int)} : validG R C B = 0 ↔ ValidP R C B := by
  unfold validG
  constructor
  · intro h
    split at h
    · cases h
    · rename_i h1
      split at h
      · cases h
      · rename_i h2
        split at h
        · cases h
        · rename_i h3
          exact ⟨by omega, by omega, by omega, by omega, Classical.byContradiction fun q => h2 (.inl q), fun r hr => Classical.byContradiction fun q => h2 (.inr ⟨r, hr, q⟩), fun x hx q => h3 (.inl ⟨x, hx, q⟩), fun x hx q => h3 (.inr (.inl ⟨x, hx, q⟩)), fun r hr x hx q => h3 (.inr (.inr ⟨r, hr, x, hx, q⟩))⟩
  · intro h
    rw [if_neg (by have := h.r0; have := h.c0; have := h.r64; have := h.c64; omega), if_neg (by
      rintro (q | ⟨r, hr, q⟩)
      · exact q h.b
      · exact q (h.row r hr)), if_neg (by
      rintro (⟨x, hx, q⟩ | ⟨x, hx, q⟩ | ⟨r, hr, x, hx, q⟩)
      · exact h.R x hx q
      · exact h.C x hx q
      · exact h.B r hr x hx q)]
theorem validG_8 {R C : List Int} {B : List (List Int)} (h : R.length = 0 ∨ C.length = 0 ∨ 64 < R.length ∨ 64 < C.length) : validG R C B = 8 := by unfold validG; rw [if_pos h]
theorem validG_9 {R C : List Int} {B : List (List Int)} (h : ¬ (R.length = 0 ∨ C.length = 0 ∨ 64 < R.length ∨ 64 < C.length)) (h' : B.length ≠ R.length ∨ ∃ r ∈ B, r.length ≠ C.length) : validG R C B = 9 := by unfold validG; rw [if_neg h, if_pos h']
theorem validG_1 {R C : List Int} {B : List (List Int)} (h : ¬ (R.length = 0 ∨ C.length = 0 ∨ 64 < R.length ∨ 64 < C.length)) (h' : ¬ (B.length ≠ R.length ∨ ∃ r ∈ B, r.length ≠ C.length)) (h2 : (∃ x ∈ R, Out x) ∨ (∃ x ∈ C, Out x) ∨ OutT B) : validG R C B = 1 := by unfold validG; rw [if_neg h, if_neg h', if_pos h2]
theorem out_g1 {l : List Int} (h : ∀ x ∈ l, ¬ Out x) (i : Nat) : 0 ≤ g1 l i ∧ g1 l i ≤ 1000000 := by
  unfold g1
  rw [List.getD_eq_getElem?_getD]
  cases hx : l[i]? with
  | none => exact ⟨Int.le_refl _, by decide⟩
  | some x => have := h x (List.mem_of_getElem? hx); simp only [Option.getD_some]; omega
theorem out_g2 {T : List (List Int)} (h : ∀ r ∈ T, ∀ x ∈ r, ¬ Out x) (i k : Nat) : 0 ≤ g2 T i k ∧ g2 T i k ≤ 1000000 := by
  unfold g2
  rw [List.getD_eq_getElem?_getD]
  cases hx : T[i]? with
  | none => exact out_g1 (by simp) k
  | some r => exact out_g1 (h r (List.mem_of_getElem? hx)) k
/-- a table that has sums -/
structure MargOk (T : List (List Int)) (m : Nat) : Prop where
  t0 : 0 < T.length
  t64 : T.length ≤ 64
  m0 : 0 < m
  m64 : m ≤ 64
  row : ∀ r ∈ T, r.length = m
  fine : ∀ r ∈ T, ∀ x ∈ r, ¬ Out x
def rsums (T : List (List Int)) (m : Nat) : List Int := (List.range T.length).map fun i => S m (g2 T i)
def csums (T : List (List Int)) (m : Nat) : List Int := (List.range m).map fun k => S T.length fun i => g2 T i k
theorem rsums_len (T : List (List Int)) (m : Nat) : (rsums T m).length = T.length := by simp [rsums]
theorem csums_len (T : List (List Int)) (m : Nat) : (csums T m).length = m := by simp [csums]
theorem rsums_at {T : List (List Int)} {m i : Nat} (h : i < T.length) : (rsums T m)[i]? = some (S m (g2 T i)) := by simp [rsums, h]
theorem csums_at {T : List (List Int)} {m k : Nat} (h : k < m) : (csums T m)[k]? = some (S T.length fun i => g2 T i k) := by simp [csums, h]
/-- a table for a grid -/
structure TabP (R C : List Int) (B T : List (List Int)) : Prop where
  v : ValidP R C B
  m : MargOk T C.length
  n : T.length = R.length
  r : ∀ i, i < R.length → S C.length (g2 T i) = g1 R i
  c : ∀ k, k < C.length → (S R.length fun i => g2 T i k) = g1 C k
  b : ∀ i k, i < R.length → k < C.length → g2 T i k ≤ g2 B i k
/-- a cut -/
structure CutP (R C : List Int) (B : List (List Int)) (cr cc : List Bool) : Prop where
  v : ValidP R C B
  s : S R.length (g1 R) = S C.length (g1 C)
  r : cr.length = R.length
  c : cc.length = C.length
  out : (S C.length fun k => if gb cc k = true then g1 C k else 0) + (S R.length fun i => if gb cr i = true then S C.length fun k => if gb cc k = true then 0 else g2 B i k else 0) < S R.length fun i => if gb cr i = true then g1 R i else 0

/-- a flow whose search ends gives a cut -/
theorem cut_of {n m : Nat} {R C r c : Nat → Int} {T B : Nat → Nat → Int} {cr cc : Nat → Bool} (hR : ∀ i, i < n → R i = S m (T i) + r i) (hC : ∀ k, k < m → C k = (S n fun i => T i k) + c k)
    (h1 : ∀ i, i < n → cr i = false → r i = 0) (h2 : ∀ k, k < m → cc k = true → c k = 0) (h3 : ∀ i k, i < n → k < m → cr i = true → cc k = false → T i k = B i k) (h4 : ∀ i k, i < n → k < m → cr i = false → cc k = true → T i k = 0) (hp : 0 < S n r) :
    (S m fun k => if cc k = true then C k else 0) + (S n fun i => if cr i = true then S m fun k => if cc k = true then 0 else B i k else 0) < S n fun i => if cr i = true then R i else 0 := by
  have e1 : (S n fun i => if cr i = true then R i else 0) = (S n fun i => S m fun k => if cr i = true then T i k else 0) + S n r := by
    rw [← S_add]
    refine S_congr fun i hi => ?_
    cases hc : cr i with
    | true => simp only [if_true]; exact hR i hi
    | false => simp only [Bool.false_eq_true, if_false]; rw [S_zero, h1 i hi hc]; rfl
  have e2 : (S m fun k => if cc k = true then C k else 0) = S n fun i => S m fun k => if cc k = true then T i k else 0 := by
    rw [S_swap]
    refine S_congr fun k hk => ?_
    cases hc : cc k with
    | true => simp only [if_true]; rw [hC k hk, h2 k hk hc]; omega
    | false => simp only [Bool.false_eq_true, if_false]; rw [S_zero]
  rw [e1, e2, ← S_add]
  have e3 : (S n fun i => (S m fun k => if cc k = true then T i k else 0) + if cr i = true then S m fun k => if cc k = true then 0 else B i k else 0) = S n fun i => S m fun k => if cr i = true then T i k else 0 := by
    refine S_congr fun i hi => ?_
    rw [S_if, ← S_add]
    refine S_congr fun k hk => ?_
    cases ha : cr i with
    | true => cases hb : cc k with
      | true => simp
      | false => simp [h3 i k hi hk ha hb]
    | false => cases hb : cc k with
      | true => simp [h4 i k hi hk ha hb]
      | false => simp
  rw [e3]; omega
/-- a table refutes every cut -/
theorem no_cut {n m : Nat} {R C : Nat → Int} {T B : Nat → Nat → Int} (cr cc : Nat → Bool) (hR : ∀ i, i < n → R i = S m (T i)) (hC : ∀ k, k < m → C k = S n fun i => T i k) (h0 : ∀ i k, i < n → k < m → 0 ≤ T i k) (hB : ∀ i k, i < n → k < m → T i k ≤ B i k) :
    (S n fun i => if cr i = true then R i else 0) ≤ (S m fun k => if cc k = true then C k else 0) + (S n fun i => if cr i = true then S m fun k => if cc k = true then 0 else B i k else 0) := by
  have e1 : (S n fun i => if cr i = true then R i else 0) = (S n fun i => S m fun k => if cr i = true then T i k else 0) := by
    refine S_congr fun i hi => ?_
    rw [← S_if]
    cases cr i with
    | true => simp only [if_true]; exact hR i hi
    | false => simp
  have e2 : (S m fun k => if cc k = true then C k else 0) = S n fun i => S m fun k => if cc k = true then T i k else 0 := by
    rw [S_swap]
    refine S_congr fun k hk => ?_
    rw [← S_if]
    cases cc k with
    | true => simp only [if_true]; exact hC k hk
    | false => simp
  rw [e1, e2, ← S_add]
  refine S_le fun i hi => ?_
  rw [S_if, ← S_add]
  refine S_le fun k hk => ?_
  have q0 := h0 i k hi hk
  have q1 := hB i k hi hk
  cases cr i with
  | true => cases cc k with
    | true => simp
    | false => simp; exact q1
  | false => cases cc k with
    | true => simp; exact q0
    | false => simp
end Go.Proofs.Ytphgmfjinihgaaa

/- What a search has found: no program in sight. -/

namespace Go.Proofs.Ytphgmfjinihgaaa

theorem gb_set {l : List Bool} {i : Nat} {v : Bool} (h : i < l.length) (j : Nat) : gb (l.set i v) j = if j = i then v else gb l j := by
  unfold gb
  rw [List.getD_eq_getElem?_getD, List.getD_eq_getElem?_getD, List.getElem?_set]
  by_cases e : i = j
  · subst e; simp [h]
  · rw [if_neg e, if_neg (fun q => e q.symm)]
theorem g1_set {l : List Int} {i : Nat} {v : Int} (h : i < l.length) (j : Nat) : g1 (l.set i v) j = if j = i then v else g1 l j := by
  unfold g1
  rw [List.getD_eq_getElem?_getD, List.getD_eq_getElem?_getD, List.getElem?_set]
  by_cases e : i = j
  · subst e; simp [h]
  · rw [if_neg e, if_neg (fun q => e q.symm)]
/-- how many are not -/
def nf : List Bool → Nat
  | [] => 0
  | b :: l => (if b then 0 else 1) + nf l
theorem nf_set : ∀ (l : List Bool) (i : Nat), i < l.length → gb l i = false → nf (l.set i true) + 1 = nf l
  | [], i, h, _ => by simp at h
  | b :: l, 0, _, h => by
    have : b = false := by simpa [gb] using h
    subst this; simp [nf]; omega
  | b :: l, i + 1, h, h' => by
    have := nf_set l i (by simpa using h) (by simpa [gb] using h')
    simp only [List.set_cons_succ, nf]; omega
theorem gb_rep (n i : Nat) : gb (List.replicate n false) i = false := by
  unfold gb; rw [List.getD_eq_getElem?_getD, List.getElem?_replicate]; split <;> rfl

def upd (f : Nat → Nat) (i v : Nat) : Nat → Nat := fun j => if j = i then v else f j
section
variable (n m : Nat) (rr cl : List Int) (T B : List (List Int)) (vr vc : List Bool) (pr pc : List Int)
def FromR (kr kc : Nat → Nat) (i : Nat) : Prop := (g1 pr i = -1 ∧ 0 < g1 rr i) ∨ ∃ k, k < m ∧ g1 pr i = (k : Int) ∧ gb vc k = true ∧ 0 < g2 T i k ∧ kc k < kr i
def FromC (kr kc : Nat → Nat) (k : Nat) : Prop := ∃ i, i < n ∧ g1 pc k = (i : Int) ∧ gb vr i = true ∧ g2 T i k < g2 B i k ∧ kr i < kc k
structure Dims : Prop where
  vr : vr.length = n
  vc : vc.length = m
  pr : pr.length = n
  pc : pc.length = m
structure Reach (t : Nat) (kr kc : Nat → Nat) : Prop where
  row : ∀ i, i < n → gb vr i = true → FromR m rr T vc pr kr kc i
  col : ∀ k, k < m → gb vc k = true → FromC n T B vr pc kr kc k
  tr : ∀ i, i < n → gb vr i = true → kr i < t
  tc : ∀ k, k < m → gb vc k = true → kc k < t
/-- visited rows that do not wait are closed -/
def ClR (xs : List Int) : Prop := ∀ i, i < n → gb vr i = true → (i : Int) ∉ xs → ∀ k, k < m → gb vc k = false → g2 B i k ≤ g2 T i k
def ClC : Prop := ∀ k, k < m → gb vc k = true → g1 cl k ≤ 0 ∧ ∀ j, j < n → gb vr j = false → g2 T j k ≤ 0
def Sta : Prop := ∀ i, i < n → 0 < g1 rr i → gb vr i = true
def QOk (xs : List Int) : Prop := ∀ x ∈ xs, ∃ i, i < n ∧ x = (i : Int) ∧ gb vr i = true
/-- what a search answers -/
def SearchP (last : Int) : Prop :=
  Dims n m vr vc pr pc ∧ ((last = -1 ∧ Sta n rr vr ∧ ClR n m T B vr vc [] ∧ ClC n m cl T vr vc) ∨ ∃ k, k < m ∧ last = (k : Int) ∧ gb vc k = true ∧ 0 < g1 cl k ∧ ∃ t kr kc, Reach n m rr T B vr vc pr pc t kr kc)
end
section
variable {n m : Nat} {rr cl : List Int} {T B : List (List Int)} {vr vc : List Bool} {pr pc : List Int}
theorem Dims.row (D : Dims n m vr vc pr pc) (i : Nat) (b : Bool) (p : Int) : Dims n m (vr.set i b) vc (pr.set i p) pc := ⟨by simp [D.vr], D.vc, by simp [D.pr], D.pc⟩
theorem Dims.col (D : Dims n m vr vc pr pc) (i : Nat) (b : Bool) (p : Int) : Dims n m vr (vc.set i b) pr (pc.set i p) := ⟨D.vr, by simp [D.vc], D.pr, by simp [D.pc]⟩
theorem Reach.addRow {t : Nat} {kr kc : Nat → Nat} (R : Reach n m rr T B vr vc pr pc t kr kc) (D : Dims n m vr vc pr pc) {i : Nat} (hi : i < n) (hv : gb vr i = false) {p : Int} (hp : (p = -1 ∧ 0 < g1 rr i) ∨ ∃ k, k < m ∧ p = (k : Int) ∧ gb vc k = true ∧ 0 < g2 T i k) :
    Reach n m rr T B (vr.set i true) vc (pr.set i p) pc (t + 1) (upd kr i t) kc := by
  have l1 : i < vr.length := by rw [D.vr]; exact hi
  have l2 : i < pr.length := by rw [D.pr]; exact hi
  refine ⟨fun j hj hg => ?_, fun k hk hg => ?_, fun j hj hg => ?_, fun k hk hg => ?_⟩
  · unfold FromR upd
    rw [g1_set l2]
    by_cases e : j = i
    · subst e
      rw [if_pos rfl, if_pos rfl]
      rcases hp with h | ⟨k, h1, h2, h3, h4⟩
      · exact .inl h
      · exact .inr ⟨k, h1, h2, h3, h4, R.tc k h1 h3⟩
    · rw [if_neg e, if_neg e]
      rw [gb_set l1, if_neg e] at hg
      exact R.row j hj hg
  · obtain ⟨j, h1, h2, h3, h4, h5⟩ := R.col k hk hg
    have e : j ≠ i := by rintro rfl; rw [hv] at h3; cases h3
    exact ⟨j, h1, h2, by rw [gb_set l1, if_neg e]; exact h3, h4, by unfold upd; rw [if_neg e]; exact h5⟩
  · unfold upd
    by_cases e : j = i
    · rw [if_pos e]; omega
    · rw [if_neg e]
      rw [gb_set l1, if_neg e] at hg
      have := R.tr j hj hg; omega
  · have := R.tc k hk hg; omega
theorem Reach.addCol {t : Nat} {kr kc : Nat → Nat} (R : Reach n m rr T B vr vc pr pc t kr kc) (D : Dims n m vr vc pr pc) {k : Nat} (hk : k < m) (hv : gb vc k = false) {i : Nat} (hi : i < n) (hr : gb vr i = true) (ht : g2 T i k < g2 B i k) :
    Reach n m rr T B vr (vc.set k true) pr (pc.set k (i : Int)) (t + 1) kr (upd kc k t) := by
  have l1 : k < vc.length := by rw [D.vc]; exact hk
  have l2 : k < pc.length := by rw [D.pc]; exact hk
  refine ⟨fun j hj hg => ?_, fun j hj hg => ?_, fun j hj hg => ?_, fun j hj hg => ?_⟩
  · rcases R.row j hj hg with h | ⟨q, h1, h2, h3, h4, h5⟩
    · exact .inl h
    · have e : q ≠ k := by rintro rfl; rw [hv] at h3; cases h3
      exact .inr ⟨q, h1, h2, by rw [gb_set l1, if_neg e]; exact h3, h4, by unfold upd; rw [if_neg e]; exact h5⟩
  · unfold FromC upd
    rw [g1_set l2]
    by_cases e : j = k
    · subst e
      rw [if_pos rfl, if_pos rfl]
      exact ⟨i, hi, rfl, hr, ht, R.tr i hi hr⟩
    · rw [if_neg e, if_neg e]
      rw [gb_set l1, if_neg e] at hg
      exact R.col j hj hg
  · have := R.tr j hj hg; omega
  · unfold upd
    by_cases e : j = k
    · rw [if_pos e]; omega
    · rw [if_neg e]
      rw [gb_set l1, if_neg e] at hg
      have := R.tc j hj hg; omega
theorem ClR.addRow {xs : List Int} (h : ClR n m T B vr vc xs) (D : Dims n m vr vc pr pc) {i : Nat} (hi : i < n) : ClR n m T B (vr.set i true) vc (xs ++ [(i : Int)]) := by
  intro j hj hg hx k hk hc
  rw [gb_set (by rw [D.vr]; exact hi)] at hg
  have e : j ≠ i := by rintro rfl; simp at hx
  rw [if_neg e] at hg
  exact h j hj hg (fun q => hx (List.mem_append.2 (.inl q))) k hk hc
theorem ClR.addCol {xs : List Int} (h : ClR n m T B vr vc xs) (D : Dims n m vr vc pr pc) {i : Nat} (hi : i < m) : ClR n m T B vr (vc.set i true) xs := by
  intro j hj hg hx k hk hc
  rw [gb_set (by rw [D.vc]; exact hi)] at hc
  split at hc
  · cases hc
  · exact h j hj hg hx k hk hc
theorem gb_mono (D : Dims n m vr vc pr pc) {i : Nat} (hi : i < n) {j : Nat} (h : gb (vr.set i true) j = false) : gb vr j = false := by
  rw [gb_set (by rw [D.vr]; exact hi)] at h
  split at h
  · cases h
  · exact h
theorem gb_mono' (D : Dims n m vr vc pr pc) {i : Nat} (hi : i < n) {j : Nat} (h : gb vr j = true) : gb (vr.set i true) j = true := by
  rw [gb_set (by rw [D.vr]; exact hi)]
  split
  · rfl
  · exact h
theorem ClC.addRow {vc' : List Bool} (h : ClC n m cl T vr vc) (D : Dims n m vr vc' pr pc) {i : Nat} (hi : i < n) : ClC n m cl T (vr.set i true) vc :=
  fun k hk hg => ⟨(h k hk hg).1, fun j hj hv => (h k hk hg).2 j hj (gb_mono D hi hv)⟩
theorem Sta.addRow (h : Sta n rr vr) (D : Dims n m vr vc pr pc) {i : Nat} (hi : i < n) : Sta n rr (vr.set i true) := fun j hj hg => gb_mono' D hi (h j hj hg)
theorem QOk.addRow {xs : List Int} (h : QOk n vr xs) (D : Dims n m vr vc pr pc) {i : Nat} (hi : i < n) : QOk n (vr.set i true) (xs ++ [(i : Int)]) := by
  intro x hx
  rcases List.mem_append.1 hx with q | q
  · obtain ⟨j, h1, h2, h3⟩ := h x q
    exact ⟨j, h1, h2, gb_mono' D hi h3⟩
  · simp at q
    exact ⟨i, hi, q, by rw [gb_set (by rw [D.vr]; exact hi), if_pos rfl]⟩
end
end Go.Proofs.Ytphgmfjinihgaaa

/- What the seat's program may turn (asked by every condition). -/



namespace Go.Proofs
open Go Go.RowKit
theorem follows_ : Try.prog.follows .mixedOrders = true := by kernel_rfl
end Go.Proofs

/- The conditions of functions, printed by our tool; each is checked against the code by the kernel. -/



namespace Go.Proofs
open Go Go.V Go.RowKit
/-- querylab/correlation.outside -/
def S23 (n_ : Int) (w0 : World) (R : Value → World → Prop) : Prop :=
 br (decide (n_ < 0)) (R (.bool true) w0)
 (R (.bool (decide (n_ > 1000000))) w0)
def H23 : Hints := ⟨[], [], [], []⟩
set_option maxRecDepth 100000 in
theorem S23_eq (n_ : Int) (w0 : World) (R : Value → World → Prop) : vcFn Try.prog H23 Try.f23 [(.int .i64 n_)] w0 R = S23 n_ w0 R := by kernel_rfl
set_option maxRecDepth 100000 in
theorem S23_calls (n_ : Int) (w0 : World) (R : Value → World → Prop) (h : S23 n_ w0 R) : Calls Try.prog 23 #[(.int .i64 n_)] w0 (ret R) := by
  rw [← S23_eq] at h; exact vcFn_sound follows_ Try.func23 h

/-- slices.IndexFunc[[]int,int] -/
def S32o (s_a : Option Addr) (s_n : Nat) (s_c : Nat) (w0 : World) (R : Value → World → Prop) : Prop :=
 loop (T := (Int × Unit)) (0, ()) w0 fun (again1 : (Int × Unit) → World → Prop) (s2 : (Int × Unit)) w3 => ∀ _ : Nat → Value,
 br (decide (s2.1 < ((s_n : Nat) : Int))) (rdp Try.prog (Instr.indexAt 22 (.slice s_a s_n s_c) (.int .i64 s2.1)) (.one .addr) fun (x4 : Addr) =>
 rd Try.prog (Instr.loadAt 3 (.pointer (some x4))) (.one (.int .i64)) w3 fun (x5 : Int) =>
 call Try.prog 23 [(.int .i64 x5)] (.one (.one .bool)) w3 fun (x6 : Bool) (w7 : World) =>
 br x6 (R (.int .i64 s2.1) w7)
 (z (IntKind.wrap .i64 (s2.1 + 1)) fun (z8 : Int) =>
 again1 (z8, ()) w7))
 (R (.int .i64 (-1)) w3)
def H32o : Hints := ⟨[(2, 0, [(8, (.one (.int .i64)))])], [], [], []⟩
set_option maxRecDepth 100000 in
theorem S32o_eq (s_a : Option Addr) (s_n : Nat) (s_c : Nat) (w0 : World) (R : Value → World → Prop) : vcFn Try.prog H32o Try.f32 [(.slice s_a s_n s_c), (.func (.func 23) #[] #[])] w0 R = S32o s_a s_n s_c w0 R := by kernel_rfl
set_option maxRecDepth 100000 in
theorem S32o_calls (s_a : Option Addr) (s_n : Nat) (s_c : Nat) (w0 : World) (R : Value → World → Prop) (h : S32o s_a s_n s_c w0 R) : Calls Try.prog 32 #[(.slice s_a s_n s_c), (.func (.func 23) #[] #[])] w0 (ret R) := by
  rw [← S32o_eq] at h; exact vcFn_sound follows_ Try.func32 h

/-- slices.ContainsFunc[[]int,int] -/
def S22o (s_a : Option Addr) (s_n : Nat) (s_c : Nat) (w0 : World) (R : Value → World → Prop) : Prop :=
 call Try.prog 32 [(.slice s_a s_n s_c), (.func (.func 23) #[] #[])] (.one (.one (.int .i64))) w0 fun (x1 : Int) (w2 : World) =>
 R (.bool (decide (x1 ≥ 0))) w2
def H22o : Hints := ⟨[], [], [], []⟩
set_option maxRecDepth 100000 in
theorem S22o_eq (s_a : Option Addr) (s_n : Nat) (s_c : Nat) (w0 : World) (R : Value → World → Prop) : vcFn Try.prog H22o Try.f22 [(.slice s_a s_n s_c), (.func (.func 23) #[] #[])] w0 R = S22o s_a s_n s_c w0 R := by kernel_rfl
set_option maxRecDepth 100000 in
theorem S22o_calls (s_a : Option Addr) (s_n : Nat) (s_c : Nat) (w0 : World) (R : Value → World → Prop) (h : S22o s_a s_n s_c w0 R) : Calls Try.prog 22 #[(.slice s_a s_n s_c), (.func (.func 23) #[] #[])] w0 (ret R) := by
  rw [← S22o_eq] at h; exact vcFn_sound follows_ Try.func22 h

/-- querylab/correlation.formed$1 -/
def S34 (_r_a : Option Addr) (r_n : Nat) (_r_c : Nat) (cap0 : Addr) (w0 : World) (R : Value → World → Prop) : Prop :=
 rd Try.prog (Instr.loadAt 22 (.pointer (some (Addr.add cap0 1)))) (.one .slice) w0 fun (x1 : (Option Addr × Nat × Nat)) =>
 R (.bool (((r_n : Nat) : Int) != ((x1.2.1 : Nat) : Int))) w0
def H34 : Hints := ⟨[], [], [], []⟩
set_option maxRecDepth 100000 in
theorem S34_eq (r_a : Option Addr) (r_n : Nat) (r_c : Nat) (cap0 : Addr) (w0 : World) (R : Value → World → Prop) : vcFn Try.prog H34 Try.f34 [(.slice r_a r_n r_c), (.pointer (some cap0))] w0 R = S34 r_a r_n r_c cap0 w0 R := by kernel_rfl
set_option maxRecDepth 100000 in
theorem S34_calls (r_a : Option Addr) (r_n : Nat) (r_c : Nat) (cap0 : Addr) (w0 : World) (R : Value → World → Prop) (h : S34 r_a r_n r_c cap0 w0 R) : Calls Try.prog 34 #[(.slice r_a r_n r_c), (.pointer (some cap0))] w0 (ret R) := by
  rw [← S34_eq] at h; exact vcFn_sound follows_ Try.func34 h

/-- slices.IndexFunc[[][]int,[]int] -/
def S36f (s_a : Option Addr) (s_n : Nat) (s_c : Nat) (cap1_0 : Addr) (w0 : World) (R : Value → World → Prop) : Prop :=
 loop (T := (Int × Unit)) (0, ()) w0 fun (again1 : (Int × Unit) → World → Prop) (s2 : (Int × Unit)) w3 => ∀ _ : Nat → Value,
 br (decide (s2.1 < ((s_n : Nat) : Int))) (rdp Try.prog (Instr.indexAt 23 (.slice s_a s_n s_c) (.int .i64 s2.1)) (.one .addr) fun (x4 : Addr) =>
 rd Try.prog (Instr.loadAt 22 (.pointer (some x4))) (.one .slice) w3 fun (x5 : (Option Addr × Nat × Nat)) =>
 call Try.prog 34 [(.slice x5.1 x5.2.1 x5.2.2), (.pointer (some cap1_0))] (.one (.one .bool)) w3 fun (x6 : Bool) (w7 : World) =>
 br x6 (R (.int .i64 s2.1) w7)
 (z (IntKind.wrap .i64 (s2.1 + 1)) fun (z8 : Int) =>
 again1 (z8, ()) w7))
 (R (.int .i64 (-1)) w3)
def H36f : Hints := ⟨[(2, 0, [(8, (.one (.int .i64)))])], [], [], []⟩
set_option maxRecDepth 100000 in
theorem S36f_eq (s_a : Option Addr) (s_n : Nat) (s_c : Nat) (cap1_0 : Addr) (w0 : World) (R : Value → World → Prop) : vcFn Try.prog H36f Try.f36 [(.slice s_a s_n s_c), (.func (.func 34) #[] #[(.pointer (some cap1_0))])] w0 R = S36f s_a s_n s_c cap1_0 w0 R := by kernel_rfl
set_option maxRecDepth 100000 in
theorem S36f_calls (s_a : Option Addr) (s_n : Nat) (s_c : Nat) (cap1_0 : Addr) (w0 : World) (R : Value → World → Prop) (h : S36f s_a s_n s_c cap1_0 w0 R) : Calls Try.prog 36 #[(.slice s_a s_n s_c), (.func (.func 34) #[] #[(.pointer (some cap1_0))])] w0 (ret R) := by
  rw [← S36f_eq] at h; exact vcFn_sound follows_ Try.func36 h

/-- slices.ContainsFunc[[][]int,[]int] -/
def S33f (s_a : Option Addr) (s_n : Nat) (s_c : Nat) (cap1_0 : Addr) (w0 : World) (R : Value → World → Prop) : Prop :=
 call Try.prog 36 [(.slice s_a s_n s_c), (.func (.func 34) #[] #[(.pointer (some cap1_0))])] (.one (.one (.int .i64))) w0 fun (x1 : Int) (w2 : World) =>
 R (.bool (decide (x1 ≥ 0))) w2
def H33f : Hints := ⟨[], [], [], []⟩
set_option maxRecDepth 100000 in
theorem S33f_eq (s_a : Option Addr) (s_n : Nat) (s_c : Nat) (cap1_0 : Addr) (w0 : World) (R : Value → World → Prop) : vcFn Try.prog H33f Try.f33 [(.slice s_a s_n s_c), (.func (.func 34) #[] #[(.pointer (some cap1_0))])] w0 R = S33f s_a s_n s_c cap1_0 w0 R := by kernel_rfl
set_option maxRecDepth 100000 in
theorem S33f_calls (s_a : Option Addr) (s_n : Nat) (s_c : Nat) (cap1_0 : Addr) (w0 : World) (R : Value → World → Prop) (h : S33f s_a s_n s_c cap1_0 w0 R) : Calls Try.prog 33 #[(.slice s_a s_n s_c), (.func (.func 34) #[] #[(.pointer (some cap1_0))])] w0 (ret R) := by
  rw [← S33f_eq] at h; exact vcFn_sound follows_ Try.func33 h

/-- querylab/correlation.formed -/
def S26 (g_0a : Option Addr) (g_0n : Nat) (g_0c : Nat) (g_1a : Option Addr) (g_1n : Nat) (g_1c : Nat) (g_2a : Option Addr) (g_2n : Nat) (g_2c : Nat) (t_a : Option Addr) (t_n : Nat) (t_c : Nat) (w0 : World) (R : Value → World → Prop) : Prop :=
 wr Try.prog (Instr.box 25 (.agg #[(.slice g_0a g_0n g_0c), (.slice g_1a g_1n g_1c), (.slice g_2a g_2n g_2c)])) (.one .addr) w0 fun (x1 : Addr) (w2 : World) =>
 rd Try.prog (Instr.loadAt 22 (.pointer (some x1))) (.one .slice) w2 fun (x3 : (Option Addr × Nat × Nat)) =>
 br (((t_n : Nat) : Int) == ((x3.2.1 : Nat) : Int)) (call Try.prog 33 [(.slice t_a t_n t_c), (.func (.func 34) #[] #[(.pointer (some x1))])] (.one (.one .bool)) w2 fun (x4 : Bool) (w5 : World) =>
 R (.bool (!x4)) w5)
 (R (.bool false) w2)
def H26 : Hints := ⟨[], [], [], []⟩
set_option maxRecDepth 100000 in
theorem S26_eq (g_0a : Option Addr) (g_0n : Nat) (g_0c : Nat) (g_1a : Option Addr) (g_1n : Nat) (g_1c : Nat) (g_2a : Option Addr) (g_2n : Nat) (g_2c : Nat) (t_a : Option Addr) (t_n : Nat) (t_c : Nat) (w0 : World) (R : Value → World → Prop) : vcFn Try.prog H26 Try.f26 [(.agg #[(.slice g_0a g_0n g_0c), (.slice g_1a g_1n g_1c), (.slice g_2a g_2n g_2c)]), (.slice t_a t_n t_c)] w0 R = S26 g_0a g_0n g_0c g_1a g_1n g_1c g_2a g_2n g_2c t_a t_n t_c w0 R := by kernel_rfl
set_option maxRecDepth 100000 in
theorem S26_calls (g_0a : Option Addr) (g_0n : Nat) (g_0c : Nat) (g_1a : Option Addr) (g_1n : Nat) (g_1c : Nat) (g_2a : Option Addr) (g_2n : Nat) (g_2c : Nat) (t_a : Option Addr) (t_n : Nat) (t_c : Nat) (w0 : World) (R : Value → World → Prop) (h : S26 g_0a g_0n g_0c g_1a g_1n g_1c g_2a g_2n g_2c t_a t_n t_c w0 R) : Calls Try.prog 26 #[(.agg #[(.slice g_0a g_0n g_0c), (.slice g_1a g_1n g_1c), (.slice g_2a g_2n g_2c)]), (.slice t_a t_n t_c)] w0 (ret R) := by
  rw [← S26_eq] at h; exact vcFn_sound follows_ Try.func26 h

/-- slices.Grow[[]int,int] -/
def S35 (s_a : Option Addr) (s_n : Nat) (s_c : Nat) (n_ : Int) (w0 : World) (R : Value → World → Prop) : Prop :=
 join (T := (Unit)) (fun (_s2 : (Unit)) w3 => ∀ _ : Nat → Value,
 z (IntKind.wrap .i64 (((s_c : Nat) : Int) - ((s_n : Nat) : Int))) fun (z4 : Int) =>
 z (IntKind.wrap .i64 (n_ - z4)) fun (z5 : Int) =>
 br (decide (z5 > 0)) (rdp Try.prog (Instr.sliceAt 22 (.slice s_a s_n s_c) none (some (.int .i64 ((s_c : Nat) : Int))) none) (.one .slice) fun (x6 : (Option Addr × Nat × Nat)) =>
 wr Try.prog (Builtin.append_ #[22, 3] 22 #[(.slice x6.1 x6.2.1 x6.2.2), (.int .i64 z5)]) (.one .slice) w3 fun (x7 : (Option Addr × Nat × Nat)) (w8 : World) =>
 rdp Try.prog (Instr.sliceAt 22 (.slice x7.1 x7.2.1 x7.2.2) none (some (.int .i64 ((s_n : Nat) : Int))) none) (.one .slice) fun (x9 : (Option Addr × Nat × Nat)) =>
 R (.slice x9.1 x9.2.1 x9.2.2) w8)
 (R (.slice s_a s_n s_c) w3))
  fun (K1 : (Unit) → World → Prop) =>
 br (decide (n_ < 0)) (False)
 (K1 (()) w0)
def H35 : Hints := ⟨[(0, 6, [])], [], [], []⟩
set_option maxRecDepth 100000 in
theorem S35_eq (s_a : Option Addr) (s_n : Nat) (s_c : Nat) (n_ : Int) (w0 : World) (R : Value → World → Prop) : vcFn Try.prog H35 Try.f35 [(.slice s_a s_n s_c), (.int .i64 n_)] w0 R = S35 s_a s_n s_c n_ w0 R := by kernel_rfl
set_option maxRecDepth 100000 in
theorem S35_calls (s_a : Option Addr) (s_n : Nat) (s_c : Nat) (n_ : Int) (w0 : World) (R : Value → World → Prop) (h : S35 s_a s_n s_c n_ w0 R) : Calls Try.prog 35 #[(.slice s_a s_n s_c), (.int .i64 n_)] w0 (ret R) := by
  rw [← S35_eq] at h; exact vcFn_sound follows_ Try.func35 h

/-- slices.Concat[[]int,int] -/
def S27 (slices_a : Option Addr) (slices_n : Nat) (slices_c : Nat) (w0 : World) (R : Value → World → Prop) : Prop :=
 loop (T := (Int × Int × Unit)) (0, 0, ()) w0 fun (again1 : (Int × Int × Unit) → World → Prop) (s2 : (Int × Int × Unit)) w3 => ∀ _ : Nat → Value,
 br (decide (s2.2.1 < ((slices_n : Nat) : Int))) (join (T := (Int × Unit)) (fun (s5 : (Int × Unit)) w6 => ∀ _ : Nat → Value,
 z (IntKind.wrap .i64 (s2.2.1 + 1)) fun (z7 : Int) =>
 again1 (s5.1, z7, ()) w6)
  fun (K4 : (Int × Unit) → World → Prop) =>
 rdp Try.prog (Instr.indexAt 23 (.slice slices_a slices_n slices_c) (.int .i64 s2.2.1)) (.one .addr) fun (x8 : Addr) =>
 rd Try.prog (Instr.loadAt 22 (.pointer (some x8))) (.one .slice) w3 fun (x9 : (Option Addr × Nat × Nat)) =>
 z (IntKind.wrap .i64 (s2.1 + ((x9.2.1 : Nat) : Int))) fun (z10 : Int) =>
 br (decide (z10 < 0)) (False)
 (K4 (z10, ()) w3))
 (call Try.prog 35 [(.slice none 0 0), (.int .i64 s2.1)] (.one (.one .slice)) w3 fun (x11 : (Option Addr × Nat × Nat)) (w12 : World) =>
 loop (T := ((Option Addr × Nat × Nat) × Int × Unit)) ((x11.1, x11.2.1, x11.2.2), 0, ()) w12 fun (again13 : ((Option Addr × Nat × Nat) × Int × Unit) → World → Prop) (s14 : ((Option Addr × Nat × Nat) × Int × Unit)) w15 => ∀ _ : Nat → Value,
 br (decide (s14.2.1 < ((slices_n : Nat) : Int))) (rdp Try.prog (Instr.indexAt 23 (.slice slices_a slices_n slices_c) (.int .i64 s14.2.1)) (.one .addr) fun (x16 : Addr) =>
 rd Try.prog (Instr.loadAt 22 (.pointer (some x16))) (.one .slice) w15 fun (x17 : (Option Addr × Nat × Nat)) =>
 wr Try.prog (Builtin.append_ #[22, 22] 22 #[(.slice s14.1.1 s14.1.2.1 s14.1.2.2), (.slice x17.1 x17.2.1 x17.2.2)]) (.one .slice) w15 fun (x18 : (Option Addr × Nat × Nat)) (w19 : World) =>
 z (IntKind.wrap .i64 (s14.2.1 + 1)) fun (z20 : Int) =>
 again13 ((x18.1, x18.2.1, x18.2.2), z20, ()) w19)
 (R (.slice s14.1.1 s14.1.2.1 s14.1.2.2) w15))
def H27 : Hints := ⟨[(2, 0, [(3, (.one (.int .i64))), (11, (.one (.int .i64)))]), (1, 1, [(3, (.one (.int .i64)))]), (2, 2, [(6, (.one .slice)), (27, (.one (.int .i64)))])], [], [], []⟩
set_option maxRecDepth 100000 in
theorem S27_eq (slices_a : Option Addr) (slices_n : Nat) (slices_c : Nat) (w0 : World) (R : Value → World → Prop) : vcFn Try.prog H27 Try.f27 [(.slice slices_a slices_n slices_c)] w0 R = S27 slices_a slices_n slices_c w0 R := by kernel_rfl
set_option maxRecDepth 100000 in
theorem S27_calls (slices_a : Option Addr) (slices_n : Nat) (slices_c : Nat) (w0 : World) (R : Value → World → Prop) (h : S27 slices_a slices_n slices_c w0 R) : Calls Try.prog 27 #[(.slice slices_a slices_n slices_c)] w0 (ret R) := by
  rw [← S27_eq] at h; exact vcFn_sound follows_ Try.func27 h

/-- slices.Equal[[]int,int] -/
def S28 (s1_a : Option Addr) (s1_n : Nat) (s1_c : Nat) (s2_a : Option Addr) (s2_n : Nat) (s2_c : Nat) (w0 : World) (R : Value → World → Prop) : Prop :=
 br (((s1_n : Nat) : Int) != ((s2_n : Nat) : Int)) (R (.bool false) w0)
 (loop (T := (Int × Unit)) (0, ()) w0 fun (again1 : (Int × Unit) → World → Prop) (s2 : (Int × Unit)) w3 => ∀ _ : Nat → Value,
 br (decide (s2.1 < ((s1_n : Nat) : Int))) (drw w3 fun w4 =>
 rdp Try.prog (Instr.indexAt 22 (.slice s1_a s1_n s1_c) (.int .i64 s2.1)) (.one .addr) fun (x5 : Addr) =>
 rd Try.prog (Instr.loadAt 3 (.pointer (some x5))) (.one (.int .i64)) w4 fun (x6 : Int) =>
 rdp Try.prog (Instr.indexAt 22 (.slice s2_a s2_n s2_c) (.int .i64 s2.1)) (.one .addr) fun (x7 : Addr) =>
 rd Try.prog (Instr.loadAt 3 (.pointer (some x7))) (.one (.int .i64)) w4 fun (x8 : Int) =>
 br (x6 != x8) (R (.bool false) w4)
 (z (IntKind.wrap .i64 (s2.1 + 1)) fun (z9 : Int) =>
 again1 (z9, ()) w4))
 (R (.bool true) w3))
def H28 : Hints := ⟨[(2, 0, [(13, (.one (.int .i64)))])], [(6, 8)], [], []⟩
set_option maxRecDepth 100000 in
theorem S28_eq (s1_a : Option Addr) (s1_n : Nat) (s1_c : Nat) (s2_a : Option Addr) (s2_n : Nat) (s2_c : Nat) (w0 : World) (R : Value → World → Prop) : vcFn Try.prog H28 Try.f28 [(.slice s1_a s1_n s1_c), (.slice s2_a s2_n s2_c)] w0 R = S28 s1_a s1_n s1_c s2_a s2_n s2_c w0 R := by kernel_rfl
set_option maxRecDepth 100000 in
theorem S28_calls (s1_a : Option Addr) (s1_n : Nat) (s1_c : Nat) (s2_a : Option Addr) (s2_n : Nat) (s2_c : Nat) (w0 : World) (R : Value → World → Prop) (h : S28 s1_a s1_n s1_c s2_a s2_n s2_c w0 R) : Calls Try.prog 28 #[(.slice s1_a s1_n s1_c), (.slice s2_a s2_n s2_c)] w0 (ret R) := by
  rw [← S28_eq] at h; exact vcFn_sound follows_ Try.func28 h

/-- slices.Clone[[]int,int] -/
def S29 (s_a : Option Addr) (s_n : Nat) (s_c : Nat) (w0 : World) (R : Value → World → Prop) : Prop :=
 rd Try.prog (cmpS .eql 22 (.tmp 3) (.const (.slice none 0 0)) (.slice s_a s_n s_c) (.slice none 0 0)) (.one .bool) w0 fun (x1 : Bool) =>
 br x1 (R (.slice none 0 0) w0)
 (wr Try.prog (Instr.buildSlice 22 0 #[]) (.one .slice) w0 fun (x2 : (Option Addr × Nat × Nat)) (w3 : World) =>
 wr Try.prog (Builtin.append_ #[22, 22] 22 #[(.slice x2.1 x2.2.1 x2.2.2), (.slice s_a s_n s_c)]) (.one .slice) w3 fun (x4 : (Option Addr × Nat × Nat)) (w5 : World) =>
 R (.slice x4.1 x4.2.1 x4.2.2) w5)
def H29 : Hints := ⟨[], [], [], []⟩
set_option maxRecDepth 100000 in
theorem S29_eq (s_a : Option Addr) (s_n : Nat) (s_c : Nat) (w0 : World) (R : Value → World → Prop) : vcFn Try.prog H29 Try.f29 [(.slice s_a s_n s_c)] w0 R = S29 s_a s_n s_c w0 R := by kernel_rfl
set_option maxRecDepth 100000 in
theorem S29_calls (s_a : Option Addr) (s_n : Nat) (s_c : Nat) (w0 : World) (R : Value → World → Prop) (h : S29 s_a s_n s_c w0 R) : Calls Try.prog 29 #[(.slice s_a s_n s_c)] w0 (ret R) := by
  rw [← S29_eq] at h; exact vcFn_sound follows_ Try.func29 h

/-- querylab/correlation.Valid -/
def S11 (g_0a : Option Addr) (g_0n : Nat) (g_0c : Nat) (g_1a : Option Addr) (g_1n : Nat) (g_1c : Nat) (g_2a : Option Addr) (g_2n : Nat) (g_2c : Nat) (w0 : World) (R : Value → World → Prop) : Prop :=
 wr Try.prog (Instr.box 25 (.agg #[(.slice g_0a g_0n g_0c), (.slice g_1a g_1n g_1c), (.slice g_2a g_2n g_2c)])) (.one .addr) w0 fun (x1 : Addr) (w2 : World) =>
 rd Try.prog (Instr.loadAt 22 (.pointer (some x1))) (.one .slice) w2 fun (x3 : (Option Addr × Nat × Nat)) =>
 br (((x3.2.1 : Nat) : Int) == 0) (R (.int .i64 8) w2)
 (rd Try.prog (Instr.loadAt 22 (.pointer (some (Addr.add x1 1)))) (.one .slice) w2 fun (x4 : (Option Addr × Nat × Nat)) =>
 br (((x4.2.1 : Nat) : Int) == 0) (R (.int .i64 8) w2)
 (rd Try.prog (Instr.loadAt 22 (.pointer (some x1))) (.one .slice) w2 fun (x5 : (Option Addr × Nat × Nat)) =>
 br (decide (((x5.2.1 : Nat) : Int) > 64)) (R (.int .i64 8) w2)
 (rd Try.prog (Instr.loadAt 22 (.pointer (some (Addr.add x1 1)))) (.one .slice) w2 fun (x6 : (Option Addr × Nat × Nat)) =>
 br (decide (((x6.2.1 : Nat) : Int) > 64)) (R (.int .i64 8) w2)
 (rd Try.prog (Instr.loadAt 25 (.pointer (some x1))) (.agg [.slice, .slice, .slice]) w2 fun (x7 : ((Option Addr × Nat × Nat) × (Option Addr × Nat × Nat) × (Option Addr × Nat × Nat) × Unit)) =>
 rd Try.prog (Instr.loadAt 23 (.pointer (some (Addr.add x1 2)))) (.one .slice) w2 fun (x8 : (Option Addr × Nat × Nat)) =>
 call Try.prog 26 [(.agg #[(.slice x7.1.1 x7.1.2.1 x7.1.2.2), (.slice x7.2.1.1 x7.2.1.2.1 x7.2.1.2.2), (.slice x7.2.2.1.1 x7.2.2.1.2.1 x7.2.2.1.2.2)]), (.slice x8.1 x8.2.1 x8.2.2)] (.one (.one .bool)) w2 fun (x9 : Bool) (w10 : World) =>
 br (!x9) (R (.int .i64 9) w10)
 (rd Try.prog (Instr.loadAt 22 (.pointer (some x1))) (.one .slice) w10 fun (x11 : (Option Addr × Nat × Nat)) =>
 rd Try.prog (Instr.loadAt 22 (.pointer (some (Addr.add x1 1)))) (.one .slice) w10 fun (x12 : (Option Addr × Nat × Nat)) =>
 wr Try.prog (Instr.buildSlice 23 2 #[(0, (.slice x11.1 x11.2.1 x11.2.2)), (1, (.slice x12.1 x12.2.1 x12.2.2))]) (.one .slice) w10 fun (x13 : (Option Addr × Nat × Nat)) (w14 : World) =>
 rd Try.prog (Instr.loadAt 23 (.pointer (some (Addr.add x1 2)))) (.one .slice) w14 fun (x15 : (Option Addr × Nat × Nat)) =>
 wr Try.prog (Builtin.append_ #[23, 23] 23 #[(.slice x13.1 x13.2.1 x13.2.2), (.slice x15.1 x15.2.1 x15.2.2)]) (.one .slice) w14 fun (x16 : (Option Addr × Nat × Nat)) (w17 : World) =>
 call Try.prog 27 [(.slice x16.1 x16.2.1 x16.2.2)] (.one (.one .slice)) w17 fun (x18 : (Option Addr × Nat × Nat)) (w19 : World) =>
 call Try.prog 22 [(.slice x18.1 x18.2.1 x18.2.2), (.func (.func 23) #[] #[])] (.one (.one .bool)) w19 fun (x20 : Bool) (w21 : World) =>
 br x20 (R (.int .i64 1) w21)
 (R (.int .i64 0) w21))))))
def H11 : Hints := ⟨[], [], [], []⟩
set_option maxRecDepth 100000 in
theorem S11_eq (g_0a : Option Addr) (g_0n : Nat) (g_0c : Nat) (g_1a : Option Addr) (g_1n : Nat) (g_1c : Nat) (g_2a : Option Addr) (g_2n : Nat) (g_2c : Nat) (w0 : World) (R : Value → World → Prop) : vcFn Try.prog H11 Try.f11 [(.agg #[(.slice g_0a g_0n g_0c), (.slice g_1a g_1n g_1c), (.slice g_2a g_2n g_2c)])] w0 R = S11 g_0a g_0n g_0c g_1a g_1n g_1c g_2a g_2n g_2c w0 R := by kernel_rfl
set_option maxRecDepth 100000 in
theorem S11_calls (g_0a : Option Addr) (g_0n : Nat) (g_0c : Nat) (g_1a : Option Addr) (g_1n : Nat) (g_1c : Nat) (g_2a : Option Addr) (g_2n : Nat) (g_2c : Nat) (w0 : World) (R : Value → World → Prop) (h : S11 g_0a g_0n g_0c g_1a g_1n g_1c g_2a g_2n g_2c w0 R) : Calls Try.prog 11 #[(.agg #[(.slice g_0a g_0n g_0c), (.slice g_1a g_1n g_1c), (.slice g_2a g_2n g_2c)])] w0 (ret R) := by
  rw [← S11_eq] at h; exact vcFn_sound follows_ Try.func11 h

/-- querylab/correlation.sum -/
def S24 (l_a : Option Addr) (l_n : Nat) (l_c : Nat) (w0 : World) (R : Value → World → Prop) : Prop :=
 loop (T := (Int × Int × Unit)) (0, 0, ()) w0 fun (again1 : (Int × Int × Unit) → World → Prop) (s2 : (Int × Int × Unit)) w3 => ∀ _ : Nat → Value,
 br (decide (s2.2.1 < ((l_n : Nat) : Int))) (rdp Try.prog (Instr.indexAt 22 (.slice l_a l_n l_c) (.int .i64 s2.2.1)) (.one .addr) fun (x4 : Addr) =>
 rd Try.prog (Instr.loadAt 3 (.pointer (some x4))) (.one (.int .i64)) w3 fun (x5 : Int) =>
 z (IntKind.wrap .i64 (s2.1 + x5)) fun (z6 : Int) =>
 z (IntKind.wrap .i64 (s2.2.1 + 1)) fun (z7 : Int) =>
 again1 (z6, z7, ()) w3)
 (R (.int .i64 s2.1) w3)
def H24 : Hints := ⟨[(2, 0, [(3, (.one (.int .i64))), (8, (.one (.int .i64)))])], [], [], []⟩
set_option maxRecDepth 100000 in
theorem S24_eq (l_a : Option Addr) (l_n : Nat) (l_c : Nat) (w0 : World) (R : Value → World → Prop) : vcFn Try.prog H24 Try.f24 [(.slice l_a l_n l_c)] w0 R = S24 l_a l_n l_c w0 R := by kernel_rfl
set_option maxRecDepth 100000 in
theorem S24_calls (l_a : Option Addr) (l_n : Nat) (l_c : Nat) (w0 : World) (R : Value → World → Prop) (h : S24 l_a l_n l_c w0 R) : Calls Try.prog 24 #[(.slice l_a l_n l_c)] w0 (ret R) := by
  rw [← S24_eq] at h; exact vcFn_sound follows_ Try.func24 h

/-- querylab/correlation.Margins -/
def S9 (t_a : Option Addr) (t_n : Nat) (t_c : Nat) (w0 : World) (R : Value → World → Prop) : Prop :=
 br (((t_n : Nat) : Int) == 0) (R (.tuple #[(.slice none 0 0), (.slice none 0 0), (.bool false)]) w0)
 (br (decide (((t_n : Nat) : Int) > 64)) (R (.tuple #[(.slice none 0 0), (.slice none 0 0), (.bool false)]) w0)
 (rdp Try.prog (Instr.indexAt 23 (.slice t_a t_n t_c) (.int .i64 0)) (.one .addr) fun (x1 : Addr) =>
 rd Try.prog (Instr.loadAt 22 (.pointer (some x1))) (.one .slice) w0 fun (x2 : (Option Addr × Nat × Nat)) =>
 br (((x2.2.1 : Nat) : Int) == 0) (R (.tuple #[(.slice none 0 0), (.slice none 0 0), (.bool false)]) w0)
 (rdp Try.prog (Instr.indexAt 23 (.slice t_a t_n t_c) (.int .i64 0)) (.one .addr) fun (x3 : Addr) =>
 rd Try.prog (Instr.loadAt 22 (.pointer (some x3))) (.one .slice) w0 fun (x4 : (Option Addr × Nat × Nat)) =>
 br (decide (((x4.2.1 : Nat) : Int) > 64)) (R (.tuple #[(.slice none 0 0), (.slice none 0 0), (.bool false)]) w0)
 (rdp Try.prog (Instr.indexAt 23 (.slice t_a t_n t_c) (.int .i64 0)) (.one .addr) fun (x5 : Addr) =>
 rd Try.prog (Instr.loadAt 22 (.pointer (some x5))) (.one .slice) w0 fun (x6 : (Option Addr × Nat × Nat)) =>
 wr Try.prog (Instr.makeSlice 22 (.int .i64 ((x6.2.1 : Nat) : Int)) (.int .i64 ((x6.2.1 : Nat) : Int))) (.one .slice) w0 fun (x7 : (Option Addr × Nat × Nat)) (w8 : World) =>
 loop (T := ((Option Addr × Nat × Nat) × Int × Unit)) ((none, 0, 0), 0, ()) w8 fun (again9 : ((Option Addr × Nat × Nat) × Int × Unit) → World → Prop) (s10 : ((Option Addr × Nat × Nat) × Int × Unit)) w11 => ∀ _ : Nat → Value,
 br (decide (s10.2.1 < ((t_n : Nat) : Int))) (rdp Try.prog (Instr.indexAt 23 (.slice t_a t_n t_c) (.int .i64 s10.2.1)) (.one .addr) fun (x12 : Addr) =>
 rd Try.prog (Instr.loadAt 22 (.pointer (some x12))) (.one .slice) w11 fun (x13 : (Option Addr × Nat × Nat)) =>
 br (((x13.2.1 : Nat) : Int) != ((x7.2.1 : Nat) : Int)) (R (.tuple #[(.slice none 0 0), (.slice none 0 0), (.bool false)]) w11)
 (call Try.prog 22 [(.slice x13.1 x13.2.1 x13.2.2), (.func (.func 23) #[] #[])] (.one (.one .bool)) w11 fun (x14 : Bool) (w15 : World) =>
 br x14 (R (.tuple #[(.slice none 0 0), (.slice none 0 0), (.bool false)]) w15)
 (call Try.prog 24 [(.slice x13.1 x13.2.1 x13.2.2)] (.one (.one (.int .i64))) w15 fun (x16 : Int) (w17 : World) =>
 wr Try.prog (Instr.buildSlice 22 1 #[(0, (.int .i64 x16))]) (.one .slice) w17 fun (x18 : (Option Addr × Nat × Nat)) (w19 : World) =>
 wr Try.prog (Builtin.append_ #[22, 22] 22 #[(.slice s10.1.1 s10.1.2.1 s10.1.2.2), (.slice x18.1 x18.2.1 x18.2.2)]) (.one .slice) w19 fun (x20 : (Option Addr × Nat × Nat)) (w21 : World) =>
 loop (T := (Int × Unit)) (0, ()) w21 fun (again22 : (Int × Unit) → World → Prop) (s23 : (Int × Unit)) w24 => ∀ _ : Nat → Value,
 br (decide (s23.1 < ((x13.2.1 : Nat) : Int))) (rdp Try.prog (Instr.indexAt 22 (.slice x13.1 x13.2.1 x13.2.2) (.int .i64 s23.1)) (.one .addr) fun (x25 : Addr) =>
 rd Try.prog (Instr.loadAt 3 (.pointer (some x25))) (.one (.int .i64)) w24 fun (x26 : Int) =>
 rdp Try.prog (Instr.indexAt 22 (.slice x7.1 x7.2.1 x7.2.2) (.int .i64 s23.1)) (.one .addr) fun (x27 : Addr) =>
 rd Try.prog (Instr.loadAt 3 (.pointer (some x27))) (.one (.int .i64)) w24 fun (x28 : Int) =>
 z (IntKind.wrap .i64 (x28 + x26)) fun (z29 : Int) =>
 rdp Try.prog (Instr.indexAt 22 (.slice x7.1 x7.2.1 x7.2.2) (.int .i64 s23.1)) (.one .addr) fun (x30 : Addr) =>
 wu Try.prog (Instr.storeAt 3 (.pointer (some x30)) (.int .i64 z29)) w24 fun (w31 : World) =>
 z (IntKind.wrap .i64 (s23.1 + 1)) fun (z32 : Int) =>
 again22 (z32, ()) w31)
 (z (IntKind.wrap .i64 (s10.2.1 + 1)) fun (z33 : Int) =>
 again9 ((x20.1, x20.2.1, x20.2.2), z33, ()) w24))))
 (R (.tuple #[(.slice s10.1.1 s10.1.2.1 s10.1.2.2), (.slice x7.1 x7.2.1 x7.2.2), (.bool true)]) w11)))))
def H9 : Hints := ⟨[(2, 0, [(5, (.one .slice)), (40, (.one (.int .i64)))]), (2, 2, [(60, (.one (.int .i64)))])], [], [], []⟩
set_option maxRecDepth 100000 in
theorem S9_eq (t_a : Option Addr) (t_n : Nat) (t_c : Nat) (w0 : World) (R : Value → World → Prop) : vcFn Try.prog H9 Try.f9 [(.slice t_a t_n t_c)] w0 R = S9 t_a t_n t_c w0 R := by kernel_rfl
set_option maxRecDepth 100000 in
theorem S9_calls (t_a : Option Addr) (t_n : Nat) (t_c : Nat) (w0 : World) (R : Value → World → Prop) (h : S9 t_a t_n t_c w0 R) : Calls Try.prog 9 #[(.slice t_a t_n t_c)] w0 (ret R) := by
  rw [← S9_eq] at h; exact vcFn_sound follows_ Try.func9 h

/-- querylab/correlation.CheckTable -/
def S13 (g_0a : Option Addr) (g_0n : Nat) (g_0c : Nat) (g_1a : Option Addr) (g_1n : Nat) (g_1c : Nat) (g_2a : Option Addr) (g_2n : Nat) (g_2c : Nat) (t_a : Option Addr) (t_n : Nat) (t_c : Nat) (w0 : World) (R : Value → World → Prop) : Prop :=
 wr Try.prog (Instr.box 25 (.agg #[(.slice g_0a g_0n g_0c), (.slice g_1a g_1n g_1c), (.slice g_2a g_2n g_2c)])) (.one .addr) w0 fun (x1 : Addr) (w2 : World) =>
 rd Try.prog (Instr.loadAt 25 (.pointer (some x1))) (.agg [.slice, .slice, .slice]) w2 fun (x3 : ((Option Addr × Nat × Nat) × (Option Addr × Nat × Nat) × (Option Addr × Nat × Nat) × Unit)) =>
 call Try.prog 11 [(.agg #[(.slice x3.1.1 x3.1.2.1 x3.1.2.2), (.slice x3.2.1.1 x3.2.1.2.1 x3.2.1.2.2), (.slice x3.2.2.1.1 x3.2.2.1.2.1 x3.2.2.1.2.2)])] (.one (.one (.int .i64))) w2 fun (x4 : Int) (w5 : World) =>
 br (x4 != 0) (R (.bool false) w5)
 (rd Try.prog (Instr.loadAt 25 (.pointer (some x1))) (.agg [.slice, .slice, .slice]) w5 fun (x6 : ((Option Addr × Nat × Nat) × (Option Addr × Nat × Nat) × (Option Addr × Nat × Nat) × Unit)) =>
 call Try.prog 26 [(.agg #[(.slice x6.1.1 x6.1.2.1 x6.1.2.2), (.slice x6.2.1.1 x6.2.1.2.1 x6.2.1.2.2), (.slice x6.2.2.1.1 x6.2.2.1.2.1 x6.2.2.1.2.2)]), (.slice t_a t_n t_c)] (.one (.one .bool)) w5 fun (x7 : Bool) (w8 : World) =>
 br (!x7) (R (.bool false) w8)
 (call Try.prog 9 [(.slice t_a t_n t_c)] (.many [(.one .slice), (.one .slice), (.one .bool)]) w8 fun (x9 : ((Option Addr × Nat × Nat) × (Option Addr × Nat × Nat) × Bool × Unit)) (w10 : World) =>
 br (!x9.2.2.1) (R (.bool false) w10)
 (rd Try.prog (Instr.loadAt 22 (.pointer (some x1))) (.one .slice) w10 fun (x11 : (Option Addr × Nat × Nat)) =>
 call Try.prog 28 [(.slice x9.1.1 x9.1.2.1 x9.1.2.2), (.slice x11.1 x11.2.1 x11.2.2)] (.one (.one .bool)) w10 fun (x12 : Bool) (w13 : World) =>
 br (!x12) (R (.bool false) w13)
 (rd Try.prog (Instr.loadAt 22 (.pointer (some (Addr.add x1 1)))) (.one .slice) w13 fun (x14 : (Option Addr × Nat × Nat)) =>
 call Try.prog 28 [(.slice x9.2.1.1 x9.2.1.2.1 x9.2.1.2.2), (.slice x14.1 x14.2.1 x14.2.2)] (.one (.one .bool)) w13 fun (x15 : Bool) (w16 : World) =>
 br (!x15) (R (.bool false) w16)
 (loop (T := (Int × Unit)) (0, ()) w16 fun (again17 : (Int × Unit) → World → Prop) (s18 : (Int × Unit)) w19 => ∀ _ : Nat → Value,
 br (decide (s18.1 < ((t_n : Nat) : Int))) (rdp Try.prog (Instr.indexAt 23 (.slice t_a t_n t_c) (.int .i64 s18.1)) (.one .addr) fun (x20 : Addr) =>
 rd Try.prog (Instr.loadAt 22 (.pointer (some x20))) (.one .slice) w19 fun (x21 : (Option Addr × Nat × Nat)) =>
 loop (T := (Int × Unit)) (0, ()) w19 fun (again22 : (Int × Unit) → World → Prop) (s23 : (Int × Unit)) w24 => ∀ _ : Nat → Value,
 br (decide (s23.1 < ((x21.2.1 : Nat) : Int))) (rdp Try.prog (Instr.indexAt 22 (.slice x21.1 x21.2.1 x21.2.2) (.int .i64 s23.1)) (.one .addr) fun (x25 : Addr) =>
 rd Try.prog (Instr.loadAt 3 (.pointer (some x25))) (.one (.int .i64)) w24 fun (x26 : Int) =>
 rd Try.prog (Instr.loadAt 23 (.pointer (some (Addr.add x1 2)))) (.one .slice) w24 fun (x27 : (Option Addr × Nat × Nat)) =>
 rdp Try.prog (Instr.indexAt 23 (.slice x27.1 x27.2.1 x27.2.2) (.int .i64 s18.1)) (.one .addr) fun (x28 : Addr) =>
 rd Try.prog (Instr.loadAt 22 (.pointer (some x28))) (.one .slice) w24 fun (x29 : (Option Addr × Nat × Nat)) =>
 rdp Try.prog (Instr.indexAt 22 (.slice x29.1 x29.2.1 x29.2.2) (.int .i64 s23.1)) (.one .addr) fun (x30 : Addr) =>
 rd Try.prog (Instr.loadAt 3 (.pointer (some x30))) (.one (.int .i64)) w24 fun (x31 : Int) =>
 br (decide (x26 > x31)) (R (.bool false) w24)
 (z (IntKind.wrap .i64 (s23.1 + 1)) fun (z32 : Int) =>
 again22 (z32, ()) w24))
 (z (IntKind.wrap .i64 (s18.1 + 1)) fun (z33 : Int) =>
 again17 (z33, ()) w24))
 (R (.bool true) w19))))))
def H13 : Hints := ⟨[(2, 0, [(45, (.one (.int .i64)))]), (2, 2, [(52, (.one (.int .i64)))])], [], [], []⟩
set_option maxRecDepth 100000 in
theorem S13_eq (g_0a : Option Addr) (g_0n : Nat) (g_0c : Nat) (g_1a : Option Addr) (g_1n : Nat) (g_1c : Nat) (g_2a : Option Addr) (g_2n : Nat) (g_2c : Nat) (t_a : Option Addr) (t_n : Nat) (t_c : Nat) (w0 : World) (R : Value → World → Prop) : vcFn Try.prog H13 Try.f13 [(.agg #[(.slice g_0a g_0n g_0c), (.slice g_1a g_1n g_1c), (.slice g_2a g_2n g_2c)]), (.slice t_a t_n t_c)] w0 R = S13 g_0a g_0n g_0c g_1a g_1n g_1c g_2a g_2n g_2c t_a t_n t_c w0 R := by kernel_rfl
set_option maxRecDepth 100000 in
theorem S13_calls (g_0a : Option Addr) (g_0n : Nat) (g_0c : Nat) (g_1a : Option Addr) (g_1n : Nat) (g_1c : Nat) (g_2a : Option Addr) (g_2n : Nat) (g_2c : Nat) (t_a : Option Addr) (t_n : Nat) (t_c : Nat) (w0 : World) (R : Value → World → Prop) (h : S13 g_0a g_0n g_0c g_1a g_1n g_1c g_2a g_2n g_2c t_a t_n t_c w0 R) : Calls Try.prog 13 #[(.agg #[(.slice g_0a g_0n g_0c), (.slice g_1a g_1n g_1c), (.slice g_2a g_2n g_2c)]), (.slice t_a t_n t_c)] w0 (ret R) := by
  rw [← S13_eq] at h; exact vcFn_sound follows_ Try.func13 h

/-- querylab/correlation.CheckCut -/
def S15 (g_0a : Option Addr) (g_0n : Nat) (g_0c : Nat) (g_1a : Option Addr) (g_1n : Nat) (g_1c : Nat) (g_2a : Option Addr) (g_2n : Nat) (g_2c : Nat) (c_0a : Option Addr) (c_0n : Nat) (c_0c : Nat) (c_1a : Option Addr) (c_1n : Nat) (c_1c : Nat) (w0 : World) (R : Value → World → Prop) : Prop :=
 wr Try.prog (Instr.box 25 (.agg #[(.slice g_0a g_0n g_0c), (.slice g_1a g_1n g_1c), (.slice g_2a g_2n g_2c)])) (.one .addr) w0 fun (x1 : Addr) (w2 : World) =>
 wr Try.prog (Instr.box 28 (.agg #[(.slice c_0a c_0n c_0c), (.slice c_1a c_1n c_1c)])) (.one .addr) w2 fun (x3 : Addr) (w4 : World) =>
 drw w4 fun w5 => flEx fun F6 =>
 rd Try.prog (Instr.loadAt 25 (.pointer (some x1))) (.agg [.slice, .slice, .slice]) w5 fun (x7 : ((Option Addr × Nat × Nat) × (Option Addr × Nat × Nat) × (Option Addr × Nat × Nat) × Unit)) =>
 flc bel w5 (fun _w9 => True) (fun (w8 : World) =>
   call Try.prog 11 [(.agg #[(.slice x7.1.1 x7.1.2.1 x7.1.2.2), (.slice x7.2.1.1 x7.2.1.2.1 x7.2.1.2.2), (.slice x7.2.2.1.1 x7.2.2.1.2.1 x7.2.2.1.2.2)])] (.one (.one (.int .i64))) w8 fun (x10 : Int) (w11 : World) =>
 (bel w8 w11 ∧ F6 1 [(.agg #[(.slice x7.1.1 x7.1.2.1 x7.1.2.2), (.slice x7.2.1.1 x7.2.1.2.1 x7.2.1.2.2), (.slice x7.2.2.1.1 x7.2.2.1.2.1 x7.2.2.1.2.2)])] (.int .i64 x10) w11))
  fun (x12 : Int) =>
 br (x12 != 0) (flend bel w5 (fun w14 => F6 1 [(.agg #[(.slice x7.1.1 x7.1.2.1 x7.1.2.2), (.slice x7.2.1.1 x7.2.1.2.1 x7.2.1.2.2), (.slice x7.2.2.1.1 x7.2.2.1.2.1 x7.2.2.1.2.2)])] (.int .i64 x12) w14 ∧ True) fun w13 =>
 R (.bool false) w13)
 (rd Try.prog (Instr.loadAt 22 (.pointer (some x1))) (.one .slice) w5 fun (x15 : (Option Addr × Nat × Nat)) =>
 flc bel w5 (fun w17 => F6 1 [(.agg #[(.slice x7.1.1 x7.1.2.1 x7.1.2.2), (.slice x7.2.1.1 x7.2.1.2.1 x7.2.1.2.2), (.slice x7.2.2.1.1 x7.2.2.1.2.1 x7.2.2.1.2.2)])] (.int .i64 x12) w17 ∧ True) (fun (w16 : World) =>
   call Try.prog 24 [(.slice x15.1 x15.2.1 x15.2.2)] (.one (.one (.int .i64))) w16 fun (x18 : Int) (w19 : World) =>
 (bel w16 w19 ∧ F6 6 [(.slice x15.1 x15.2.1 x15.2.2)] (.int .i64 x18) w19))
  fun (x20 : Int) =>
 rd Try.prog (Instr.loadAt 22 (.pointer (some (Addr.add x1 1)))) (.one .slice) w5 fun (x21 : (Option Addr × Nat × Nat)) =>
 flc bel w5 (fun w23 => F6 6 [(.slice x15.1 x15.2.1 x15.2.2)] (.int .i64 x20) w23 ∧ F6 1 [(.agg #[(.slice x7.1.1 x7.1.2.1 x7.1.2.2), (.slice x7.2.1.1 x7.2.1.2.1 x7.2.1.2.2), (.slice x7.2.2.1.1 x7.2.2.1.2.1 x7.2.2.1.2.2)])] (.int .i64 x12) w23 ∧ True) (fun (w22 : World) =>
   call Try.prog 24 [(.slice x21.1 x21.2.1 x21.2.2)] (.one (.one (.int .i64))) w22 fun (x24 : Int) (w25 : World) =>
 (bel w22 w25 ∧ F6 9 [(.slice x21.1 x21.2.1 x21.2.2)] (.int .i64 x24) w25))
  fun (x26 : Int) =>
 br (x20 != x26) (flend bel w5 (fun w28 => F6 9 [(.slice x21.1 x21.2.1 x21.2.2)] (.int .i64 x26) w28 ∧ F6 6 [(.slice x15.1 x15.2.1 x15.2.2)] (.int .i64 x20) w28 ∧ F6 1 [(.agg #[(.slice x7.1.1 x7.1.2.1 x7.1.2.2), (.slice x7.2.1.1 x7.2.1.2.1 x7.2.1.2.2), (.slice x7.2.2.1.1 x7.2.2.1.2.1 x7.2.2.1.2.2)])] (.int .i64 x12) w28 ∧ True) fun w27 =>
 R (.bool false) w27)
 (rd Try.prog (Instr.loadAt 26 (.pointer (some x3))) (.one .slice) w5 fun (x29 : (Option Addr × Nat × Nat)) =>
 rd Try.prog (Instr.loadAt 22 (.pointer (some x1))) (.one .slice) w5 fun (x30 : (Option Addr × Nat × Nat)) =>
 br (((x29.2.1 : Nat) : Int) != ((x30.2.1 : Nat) : Int)) (flend bel w5 (fun w32 => F6 9 [(.slice x21.1 x21.2.1 x21.2.2)] (.int .i64 x26) w32 ∧ F6 6 [(.slice x15.1 x15.2.1 x15.2.2)] (.int .i64 x20) w32 ∧ F6 1 [(.agg #[(.slice x7.1.1 x7.1.2.1 x7.1.2.2), (.slice x7.2.1.1 x7.2.1.2.1 x7.2.1.2.2), (.slice x7.2.2.1.1 x7.2.2.1.2.1 x7.2.2.1.2.2)])] (.int .i64 x12) w32 ∧ True) fun w31 =>
 R (.bool false) w31)
 (rd Try.prog (Instr.loadAt 26 (.pointer (some (Addr.add x3 1)))) (.one .slice) w5 fun (x33 : (Option Addr × Nat × Nat)) =>
 rd Try.prog (Instr.loadAt 22 (.pointer (some (Addr.add x1 1)))) (.one .slice) w5 fun (x34 : (Option Addr × Nat × Nat)) =>
 flend bel w5 (fun w36 => F6 9 [(.slice x21.1 x21.2.1 x21.2.2)] (.int .i64 x26) w36 ∧ F6 6 [(.slice x15.1 x15.2.1 x15.2.2)] (.int .i64 x20) w36 ∧ F6 1 [(.agg #[(.slice x7.1.1 x7.1.2.1 x7.1.2.2), (.slice x7.2.1.1 x7.2.1.2.1 x7.2.1.2.2), (.slice x7.2.2.1.1 x7.2.2.1.2.1 x7.2.2.1.2.2)])] (.int .i64 x12) w36 ∧ True) fun w35 =>
 br (((x33.2.1 : Nat) : Int) != ((x34.2.1 : Nat) : Int)) (R (.bool false) w35)
 (rd Try.prog (Instr.loadAt 26 (.pointer (some (Addr.add x3 1)))) (.one .slice) w35 fun (x37 : (Option Addr × Nat × Nat)) =>
 loop (T := (Int × Int × Unit)) (0, 0, ()) w35 fun (again38 : (Int × Int × Unit) → World → Prop) (s39 : (Int × Int × Unit)) w40 => ∀ _ : Nat → Value,
 br (decide (s39.2.1 < ((x37.2.1 : Nat) : Int))) (join (T := (Int × Unit)) (fun (s42 : (Int × Unit)) w43 => ∀ _ : Nat → Value,
 z (IntKind.wrap .i64 (s39.2.1 + 1)) fun (z44 : Int) =>
 again38 (s42.1, z44, ()) w43)
  fun (K41 : (Int × Unit) → World → Prop) =>
 rdp Try.prog (Instr.indexAt 26 (.slice x37.1 x37.2.1 x37.2.2) (.int .i64 s39.2.1)) (.one .addr) fun (x45 : Addr) =>
 rd Try.prog (Instr.loadAt 4 (.pointer (some x45))) (.one .bool) w40 fun (x46 : Bool) =>
 br x46 (rd Try.prog (Instr.loadAt 22 (.pointer (some (Addr.add x1 1)))) (.one .slice) w40 fun (x47 : (Option Addr × Nat × Nat)) =>
 rdp Try.prog (Instr.indexAt 22 (.slice x47.1 x47.2.1 x47.2.2) (.int .i64 s39.2.1)) (.one .addr) fun (x48 : Addr) =>
 rd Try.prog (Instr.loadAt 3 (.pointer (some x48))) (.one (.int .i64)) w40 fun (x49 : Int) =>
 z (IntKind.wrap .i64 (s39.1 + x49)) fun (z50 : Int) =>
 K41 (z50, ()) w40)
 (K41 (s39.1, ()) w40))
 (rd Try.prog (Instr.loadAt 26 (.pointer (some x3))) (.one .slice) w40 fun (x51 : (Option Addr × Nat × Nat)) =>
 loop (T := (Int × Int × Int × Unit)) (0, s39.1, 0, ()) w40 fun (again52 : (Int × Int × Int × Unit) → World → Prop) (s53 : (Int × Int × Int × Unit)) w54 => ∀ _ : Nat → Value,
 br (decide (s53.2.2.1 < ((x51.2.1 : Nat) : Int))) (join (T := (Int × Int × Unit)) (fun (s56 : (Int × Int × Unit)) w57 => ∀ _ : Nat → Value,
 z (IntKind.wrap .i64 (s53.2.2.1 + 1)) fun (z58 : Int) =>
 again52 (s56.1, s56.2.1, z58, ()) w57)
  fun (K55 : (Int × Int × Unit) → World → Prop) =>
 rdp Try.prog (Instr.indexAt 26 (.slice x51.1 x51.2.1 x51.2.2) (.int .i64 s53.2.2.1)) (.one .addr) fun (x59 : Addr) =>
 rd Try.prog (Instr.loadAt 4 (.pointer (some x59))) (.one .bool) w54 fun (x60 : Bool) =>
 br (!x60) (K55 (s53.1, s53.2.1, ()) w54)
 (rd Try.prog (Instr.loadAt 22 (.pointer (some x1))) (.one .slice) w54 fun (x61 : (Option Addr × Nat × Nat)) =>
 rdp Try.prog (Instr.indexAt 22 (.slice x61.1 x61.2.1 x61.2.2) (.int .i64 s53.2.2.1)) (.one .addr) fun (x62 : Addr) =>
 rd Try.prog (Instr.loadAt 3 (.pointer (some x62))) (.one (.int .i64)) w54 fun (x63 : Int) =>
 z (IntKind.wrap .i64 (s53.1 + x63)) fun (z64 : Int) =>
 rd Try.prog (Instr.loadAt 26 (.pointer (some (Addr.add x3 1)))) (.one .slice) w54 fun (x65 : (Option Addr × Nat × Nat)) =>
 loop (T := (Int × Int × Unit)) (s53.2.1, 0, ()) w54 fun (again66 : (Int × Int × Unit) → World → Prop) (s67 : (Int × Int × Unit)) w68 => ∀ _ : Nat → Value,
 br (decide (s67.2.1 < ((x65.2.1 : Nat) : Int))) (join (T := (Int × Unit)) (fun (s70 : (Int × Unit)) w71 => ∀ _ : Nat → Value,
 z (IntKind.wrap .i64 (s67.2.1 + 1)) fun (z72 : Int) =>
 again66 (s70.1, z72, ()) w71)
  fun (K69 : (Int × Unit) → World → Prop) =>
 rdp Try.prog (Instr.indexAt 26 (.slice x65.1 x65.2.1 x65.2.2) (.int .i64 s67.2.1)) (.one .addr) fun (x73 : Addr) =>
 rd Try.prog (Instr.loadAt 4 (.pointer (some x73))) (.one .bool) w68 fun (x74 : Bool) =>
 br (!x74) (rd Try.prog (Instr.loadAt 23 (.pointer (some (Addr.add x1 2)))) (.one .slice) w68 fun (x75 : (Option Addr × Nat × Nat)) =>
 rdp Try.prog (Instr.indexAt 23 (.slice x75.1 x75.2.1 x75.2.2) (.int .i64 s53.2.2.1)) (.one .addr) fun (x76 : Addr) =>
 rd Try.prog (Instr.loadAt 22 (.pointer (some x76))) (.one .slice) w68 fun (x77 : (Option Addr × Nat × Nat)) =>
 rdp Try.prog (Instr.indexAt 22 (.slice x77.1 x77.2.1 x77.2.2) (.int .i64 s67.2.1)) (.one .addr) fun (x78 : Addr) =>
 rd Try.prog (Instr.loadAt 3 (.pointer (some x78))) (.one (.int .i64)) w68 fun (x79 : Int) =>
 z (IntKind.wrap .i64 (s67.1 + x79)) fun (z80 : Int) =>
 K69 (z80, ()) w68)
 (K69 (s67.1, ()) w68))
 (K55 (z64, s67.1, ()) w68)))
 (R (.bool (decide (s53.1 > s53.2.1))) w54))))))
def H15 : Hints := ⟨[(2, 0, [(6, (.one (.int .i64))), (46, (.one (.int .i64)))]), (1, 1, [(6, (.one (.int .i64)))]), (2, 2, [(5, (.one (.int .i64))), (6, (.one (.int .i64))), (63, (.one (.int .i64)))]), (2, 4, [(6, (.one (.int .i64))), (80, (.one (.int .i64)))]), (1, 5, [(6, (.one (.int .i64)))]), (1, 3, [(5, (.one (.int .i64))), (6, (.one (.int .i64)))])], [(1, 28)], [], []⟩
set_option maxRecDepth 100000 in
theorem S15_eq (g_0a : Option Addr) (g_0n : Nat) (g_0c : Nat) (g_1a : Option Addr) (g_1n : Nat) (g_1c : Nat) (g_2a : Option Addr) (g_2n : Nat) (g_2c : Nat) (c_0a : Option Addr) (c_0n : Nat) (c_0c : Nat) (c_1a : Option Addr) (c_1n : Nat) (c_1c : Nat) (w0 : World) (R : Value → World → Prop) : vcFn Try.prog H15 Try.f15 [(.agg #[(.slice g_0a g_0n g_0c), (.slice g_1a g_1n g_1c), (.slice g_2a g_2n g_2c)]), (.agg #[(.slice c_0a c_0n c_0c), (.slice c_1a c_1n c_1c)])] w0 R = S15 g_0a g_0n g_0c g_1a g_1n g_1c g_2a g_2n g_2c c_0a c_0n c_0c c_1a c_1n c_1c w0 R := by kernel_rfl
set_option maxRecDepth 100000 in
theorem S15_calls (g_0a : Option Addr) (g_0n : Nat) (g_0c : Nat) (g_1a : Option Addr) (g_1n : Nat) (g_1c : Nat) (g_2a : Option Addr) (g_2n : Nat) (g_2c : Nat) (c_0a : Option Addr) (c_0n : Nat) (c_0c : Nat) (c_1a : Option Addr) (c_1n : Nat) (c_1c : Nat) (w0 : World) (R : Value → World → Prop) (h : S15 g_0a g_0n g_0c g_1a g_1n g_1c g_2a g_2n g_2c c_0a c_0n c_0c c_1a c_1n c_1c w0 R) : Calls Try.prog 15 #[(.agg #[(.slice g_0a g_0n g_0c), (.slice g_1a g_1n g_1c), (.slice g_2a g_2n g_2c)]), (.agg #[(.slice c_0a c_0n c_0c), (.slice c_1a c_1n c_1c)])] w0 (ret R) := by
  rw [← S15_eq] at h; exact vcFn_sound follows_ Try.func15 h

/-- querylab/querylabref21.fine -/
def S25 (n_ : Int) (w0 : World) (R : Value → World → Prop) : Prop :=
 br (decide (n_ ≥ 0)) (R (.bool (decide (n_ ≤ 1000000))) w0)
 (R (.bool false) w0)
def H25 : Hints := ⟨[], [], [], []⟩
set_option maxRecDepth 100000 in
theorem S25_eq (n_ : Int) (w0 : World) (R : Value → World → Prop) : vcFn Try.prog H25 Try.f25 [(.int .i64 n_)] w0 R = S25 n_ w0 R := by kernel_rfl
set_option maxRecDepth 100000 in
theorem S25_calls (n_ : Int) (w0 : World) (R : Value → World → Prop) (h : S25 n_ w0 R) : Calls Try.prog 25 #[(.int .i64 n_)] w0 (ret R) := by
  rw [← S25_eq] at h; exact vcFn_sound follows_ Try.func25 h

/-- querylab/querylabref21.Valid -/
def S12 (g_0a : Option Addr) (g_0n : Nat) (g_0c : Nat) (g_1a : Option Addr) (g_1n : Nat) (g_1c : Nat) (g_2a : Option Addr) (g_2n : Nat) (g_2c : Nat) (w0 : World) (R : Value → World → Prop) : Prop :=
 wr Try.prog (Instr.box 25 (.agg #[(.slice g_0a g_0n g_0c), (.slice g_1a g_1n g_1c), (.slice g_2a g_2n g_2c)])) (.one .addr) w0 fun (x1 : Addr) (w2 : World) =>
 rd Try.prog (Instr.loadAt 22 (.pointer (some x1))) (.one .slice) w2 fun (x3 : (Option Addr × Nat × Nat)) =>
 br (decide (((x3.2.1 : Nat) : Int) < 1)) (R (.int .i64 8) w2)
 (rd Try.prog (Instr.loadAt 22 (.pointer (some x1))) (.one .slice) w2 fun (x4 : (Option Addr × Nat × Nat)) =>
 br (decide (((x4.2.1 : Nat) : Int) > 64)) (R (.int .i64 8) w2)
 (rd Try.prog (Instr.loadAt 22 (.pointer (some (Addr.add x1 1)))) (.one .slice) w2 fun (x5 : (Option Addr × Nat × Nat)) =>
 br (decide (((x5.2.1 : Nat) : Int) < 1)) (R (.int .i64 8) w2)
 (rd Try.prog (Instr.loadAt 22 (.pointer (some (Addr.add x1 1)))) (.one .slice) w2 fun (x6 : (Option Addr × Nat × Nat)) =>
 br (decide (((x6.2.1 : Nat) : Int) > 64)) (R (.int .i64 8) w2)
 (rd Try.prog (Instr.loadAt 23 (.pointer (some (Addr.add x1 2)))) (.one .slice) w2 fun (x7 : (Option Addr × Nat × Nat)) =>
 rd Try.prog (Instr.loadAt 22 (.pointer (some x1))) (.one .slice) w2 fun (x8 : (Option Addr × Nat × Nat)) =>
 br (((x7.2.1 : Nat) : Int) != ((x8.2.1 : Nat) : Int)) (R (.int .i64 9) w2)
 (loop (T := (Int × Unit)) (0, ()) w2 fun (again9 : (Int × Unit) → World → Prop) (s10 : (Int × Unit)) w11 => ∀ _ : Nat → Value,
 rd Try.prog (Instr.loadAt 23 (.pointer (some (Addr.add x1 2)))) (.one .slice) w11 fun (x12 : (Option Addr × Nat × Nat)) =>
 br (decide (s10.1 < ((x12.2.1 : Nat) : Int))) (drw w11 fun w13 =>
 rd Try.prog (Instr.loadAt 23 (.pointer (some (Addr.add x1 2)))) (.one .slice) w13 fun (x14 : (Option Addr × Nat × Nat)) =>
 rdp Try.prog (Instr.indexAt 23 (.slice x14.1 x14.2.1 x14.2.2) (.int .i64 s10.1)) (.one .addr) fun (x15 : Addr) =>
 rd Try.prog (Instr.loadAt 22 (.pointer (some x15))) (.one .slice) w13 fun (x16 : (Option Addr × Nat × Nat)) =>
 rd Try.prog (Instr.loadAt 22 (.pointer (some (Addr.add x1 1)))) (.one .slice) w13 fun (x17 : (Option Addr × Nat × Nat)) =>
 br (((x16.2.1 : Nat) : Int) != ((x17.2.1 : Nat) : Int)) (R (.int .i64 9) w13)
 (z (IntKind.wrap .i64 (s10.1 + 1)) fun (z18 : Int) =>
 again9 (z18, ()) w13))
 (loop (T := (Int × Unit)) (0, ()) w11 fun (again19 : (Int × Unit) → World → Prop) (s20 : (Int × Unit)) w21 => ∀ _ : Nat → Value,
 rd Try.prog (Instr.loadAt 22 (.pointer (some x1))) (.one .slice) w21 fun (x22 : (Option Addr × Nat × Nat)) =>
 br (decide (s20.1 < ((x22.2.1 : Nat) : Int))) (rd Try.prog (Instr.loadAt 22 (.pointer (some x1))) (.one .slice) w21 fun (x23 : (Option Addr × Nat × Nat)) =>
 rdp Try.prog (Instr.indexAt 22 (.slice x23.1 x23.2.1 x23.2.2) (.int .i64 s20.1)) (.one .addr) fun (x24 : Addr) =>
 rd Try.prog (Instr.loadAt 3 (.pointer (some x24))) (.one (.int .i64)) w21 fun (x25 : Int) =>
 call Try.prog 25 [(.int .i64 x25)] (.one (.one .bool)) w21 fun (x26 : Bool) (w27 : World) =>
 br (!x26) (R (.int .i64 1) w27)
 (loop (T := (Int × Unit)) (0, ()) w27 fun (again28 : (Int × Unit) → World → Prop) (s29 : (Int × Unit)) w30 => ∀ _ : Nat → Value,
 rd Try.prog (Instr.loadAt 22 (.pointer (some (Addr.add x1 1)))) (.one .slice) w30 fun (x31 : (Option Addr × Nat × Nat)) =>
 br (decide (s29.1 < ((x31.2.1 : Nat) : Int))) (rd Try.prog (Instr.loadAt 22 (.pointer (some (Addr.add x1 1)))) (.one .slice) w30 fun (x32 : (Option Addr × Nat × Nat)) =>
 rdp Try.prog (Instr.indexAt 22 (.slice x32.1 x32.2.1 x32.2.2) (.int .i64 s29.1)) (.one .addr) fun (x33 : Addr) =>
 rd Try.prog (Instr.loadAt 3 (.pointer (some x33))) (.one (.int .i64)) w30 fun (x34 : Int) =>
 call Try.prog 25 [(.int .i64 x34)] (.one (.one .bool)) w30 fun (x35 : Bool) (w36 : World) =>
 br (!x35) (R (.int .i64 1) w36)
 (rd Try.prog (Instr.loadAt 23 (.pointer (some (Addr.add x1 2)))) (.one .slice) w36 fun (x37 : (Option Addr × Nat × Nat)) =>
 rdp Try.prog (Instr.indexAt 23 (.slice x37.1 x37.2.1 x37.2.2) (.int .i64 s20.1)) (.one .addr) fun (x38 : Addr) =>
 rd Try.prog (Instr.loadAt 22 (.pointer (some x38))) (.one .slice) w36 fun (x39 : (Option Addr × Nat × Nat)) =>
 rdp Try.prog (Instr.indexAt 22 (.slice x39.1 x39.2.1 x39.2.2) (.int .i64 s29.1)) (.one .addr) fun (x40 : Addr) =>
 rd Try.prog (Instr.loadAt 3 (.pointer (some x40))) (.one (.int .i64)) w36 fun (x41 : Int) =>
 call Try.prog 25 [(.int .i64 x41)] (.one (.one .bool)) w36 fun (x42 : Bool) (w43 : World) =>
 br (!x42) (R (.int .i64 1) w43)
 (z (IntKind.wrap .i64 (s29.1 + 1)) fun (z44 : Int) =>
 again28 (z44, ()) w43)))
 (z (IntKind.wrap .i64 (s20.1 + 1)) fun (z45 : Int) =>
 again19 (z45, ()) w30)))
 (R (.int .i64 0) w21)))))))
def H12 : Hints := ⟨[(2, 0, [(3, (.one (.int .i64)))]), (2, 2, [(4, (.one (.int .i64)))]), (2, 4, [(5, (.one (.int .i64)))])], [(8, 9)], [], []⟩
set_option maxRecDepth 100000 in
theorem S12_eq (g_0a : Option Addr) (g_0n : Nat) (g_0c : Nat) (g_1a : Option Addr) (g_1n : Nat) (g_1c : Nat) (g_2a : Option Addr) (g_2n : Nat) (g_2c : Nat) (w0 : World) (R : Value → World → Prop) : vcFn Try.prog H12 Try.f12 [(.agg #[(.slice g_0a g_0n g_0c), (.slice g_1a g_1n g_1c), (.slice g_2a g_2n g_2c)])] w0 R = S12 g_0a g_0n g_0c g_1a g_1n g_1c g_2a g_2n g_2c w0 R := by kernel_rfl
set_option maxRecDepth 100000 in
theorem S12_calls (g_0a : Option Addr) (g_0n : Nat) (g_0c : Nat) (g_1a : Option Addr) (g_1n : Nat) (g_1c : Nat) (g_2a : Option Addr) (g_2n : Nat) (g_2c : Nat) (w0 : World) (R : Value → World → Prop) (h : S12 g_0a g_0n g_0c g_1a g_1n g_1c g_2a g_2n g_2c w0 R) : Calls Try.prog 12 #[(.agg #[(.slice g_0a g_0n g_0c), (.slice g_1a g_1n g_1c), (.slice g_2a g_2n g_2c)])] w0 (ret R) := by
  rw [← S12_eq] at h; exact vcFn_sound follows_ Try.func12 h

/-- querylab/querylabref21.Margins -/
def S10 (t_a : Option Addr) (t_n : Nat) (t_c : Nat) (w0 : World) (R : Value → World → Prop) : Prop :=
 br (decide (((t_n : Nat) : Int) < 1)) (R (.tuple #[(.slice none 0 0), (.slice none 0 0), (.bool false)]) w0)
 (br (decide (((t_n : Nat) : Int) > 64)) (R (.tuple #[(.slice none 0 0), (.slice none 0 0), (.bool false)]) w0)
 (rdp Try.prog (Instr.indexAt 23 (.slice t_a t_n t_c) (.int .i64 0)) (.one .addr) fun (x1 : Addr) =>
 rd Try.prog (Instr.loadAt 22 (.pointer (some x1))) (.one .slice) w0 fun (x2 : (Option Addr × Nat × Nat)) =>
 br (decide (((x2.2.1 : Nat) : Int) < 1)) (R (.tuple #[(.slice none 0 0), (.slice none 0 0), (.bool false)]) w0)
 (rdp Try.prog (Instr.indexAt 23 (.slice t_a t_n t_c) (.int .i64 0)) (.one .addr) fun (x3 : Addr) =>
 rd Try.prog (Instr.loadAt 22 (.pointer (some x3))) (.one .slice) w0 fun (x4 : (Option Addr × Nat × Nat)) =>
 br (decide (((x4.2.1 : Nat) : Int) > 64)) (R (.tuple #[(.slice none 0 0), (.slice none 0 0), (.bool false)]) w0)
 (drw w0 fun w5 => flEx fun F6 =>
 flc bel w5 (fun _w8 => True) (fun (w7 : World) =>
   wr Try.prog (Instr.makeSlice 22 (.int .i64 ((t_n : Nat) : Int)) (.int .i64 ((t_n : Nat) : Int))) (.one .slice) w7 fun (x9 : (Option Addr × Nat × Nat)) (w10 : World) =>
 (bel w7 w10 ∧ F6 2 [] (.slice x9.1 x9.2.1 x9.2.2) w10))
  fun (x11 : (Option Addr × Nat × Nat)) =>
 rdp Try.prog (Instr.indexAt 23 (.slice t_a t_n t_c) (.int .i64 0)) (.one .addr) fun (x12 : Addr) =>
 rd Try.prog (Instr.loadAt 22 (.pointer (some x12))) (.one .slice) w5 fun (x13 : (Option Addr × Nat × Nat)) =>
 flc bel w5 (fun _w15 => True) (fun (w14 : World) =>
   wr Try.prog (Instr.makeSlice 22 (.int .i64 ((x13.2.1 : Nat) : Int)) (.int .i64 ((x13.2.1 : Nat) : Int))) (.one .slice) w14 fun (x16 : (Option Addr × Nat × Nat)) (w17 : World) =>
 (bel w14 w17 ∧ F6 7 [] (.slice x16.1 x16.2.1 x16.2.2) w17))
  fun (x18 : (Option Addr × Nat × Nat)) =>
 flend bel w5 (fun w20 => (F6 7 [] (.slice x18.1 x18.2.1 x18.2.2) w20 ∧ F6 2 [] (.slice x11.1 x11.2.1 x11.2.2) w20 ∧ True) ∧ List.Pairwise (fun a b => vblk a ≠ vblk b) ([(.slice x18.1 x18.2.1 x18.2.2), (.slice x11.1 x11.2.1 x11.2.2)] : List Value)) fun w19 =>
 loop (T := (Int × Unit)) (0, ()) w19 fun (again21 : (Int × Unit) → World → Prop) (s22 : (Int × Unit)) w23 => ∀ _ : Nat → Value,
 br (decide (s22.1 < ((t_n : Nat) : Int))) (rdp Try.prog (Instr.indexAt 23 (.slice t_a t_n t_c) (.int .i64 s22.1)) (.one .addr) fun (x24 : Addr) =>
 rd Try.prog (Instr.loadAt 22 (.pointer (some x24))) (.one .slice) w23 fun (x25 : (Option Addr × Nat × Nat)) =>
 br (((x25.2.1 : Nat) : Int) != ((x18.2.1 : Nat) : Int)) (R (.tuple #[(.slice none 0 0), (.slice none 0 0), (.bool false)]) w23)
 (loop (T := (Int × Unit)) (0, ()) w23 fun (again26 : (Int × Unit) → World → Prop) (s27 : (Int × Unit)) w28 => ∀ _ : Nat → Value,
 br (decide (s27.1 < ((x18.2.1 : Nat) : Int))) (rdp Try.prog (Instr.indexAt 23 (.slice t_a t_n t_c) (.int .i64 s22.1)) (.one .addr) fun (x29 : Addr) =>
 rd Try.prog (Instr.loadAt 22 (.pointer (some x29))) (.one .slice) w28 fun (x30 : (Option Addr × Nat × Nat)) =>
 rdp Try.prog (Instr.indexAt 22 (.slice x30.1 x30.2.1 x30.2.2) (.int .i64 s27.1)) (.one .addr) fun (x31 : Addr) =>
 rd Try.prog (Instr.loadAt 3 (.pointer (some x31))) (.one (.int .i64)) w28 fun (x32 : Int) =>
 call Try.prog 25 [(.int .i64 x32)] (.one (.one .bool)) w28 fun (x33 : Bool) (w34 : World) =>
 br (!x33) (R (.tuple #[(.slice none 0 0), (.slice none 0 0), (.bool false)]) w34)
 (drw w34 fun w35 =>
 rdp Try.prog (Instr.indexAt 22 (.slice x11.1 x11.2.1 x11.2.2) (.int .i64 s22.1)) (.one .addr) fun (x36 : Addr) =>
 rd Try.prog (Instr.loadAt 3 (.pointer (some x36))) (.one (.int .i64)) w35 fun (x37 : Int) =>
 rdp Try.prog (Instr.indexAt 23 (.slice t_a t_n t_c) (.int .i64 s22.1)) (.one .addr) fun (x38 : Addr) =>
 rd Try.prog (Instr.loadAt 22 (.pointer (some x38))) (.one .slice) w35 fun (x39 : (Option Addr × Nat × Nat)) =>
 rdp Try.prog (Instr.indexAt 22 (.slice x39.1 x39.2.1 x39.2.2) (.int .i64 s27.1)) (.one .addr) fun (x40 : Addr) =>
 rd Try.prog (Instr.loadAt 3 (.pointer (some x40))) (.one (.int .i64)) w35 fun (x41 : Int) =>
 z (IntKind.wrap .i64 (x37 + x41)) fun (z42 : Int) =>
 rdp Try.prog (Instr.indexAt 22 (.slice x11.1 x11.2.1 x11.2.2) (.int .i64 s22.1)) (.one .addr) fun (x43 : Addr) =>
 wu Try.prog (Instr.storeAt 3 (.pointer (some x43)) (.int .i64 z42)) w35 fun (w44 : World) =>
 drw w44 fun w45 =>
 rdp Try.prog (Instr.indexAt 22 (.slice x18.1 x18.2.1 x18.2.2) (.int .i64 s27.1)) (.one .addr) fun (x46 : Addr) =>
 rd Try.prog (Instr.loadAt 3 (.pointer (some x46))) (.one (.int .i64)) w45 fun (x47 : Int) =>
 rdp Try.prog (Instr.indexAt 23 (.slice t_a t_n t_c) (.int .i64 s22.1)) (.one .addr) fun (x48 : Addr) =>
 rd Try.prog (Instr.loadAt 22 (.pointer (some x48))) (.one .slice) w45 fun (x49 : (Option Addr × Nat × Nat)) =>
 rdp Try.prog (Instr.indexAt 22 (.slice x49.1 x49.2.1 x49.2.2) (.int .i64 s27.1)) (.one .addr) fun (x50 : Addr) =>
 rd Try.prog (Instr.loadAt 3 (.pointer (some x50))) (.one (.int .i64)) w45 fun (x51 : Int) =>
 z (IntKind.wrap .i64 (x47 + x51)) fun (z52 : Int) =>
 rdp Try.prog (Instr.indexAt 22 (.slice x18.1 x18.2.1 x18.2.2) (.int .i64 s27.1)) (.one .addr) fun (x53 : Addr) =>
 wu Try.prog (Instr.storeAt 3 (.pointer (some x53)) (.int .i64 z52)) w45 fun (w54 : World) =>
 z (IntKind.wrap .i64 (s27.1 + 1)) fun (z55 : Int) =>
 again26 (z55, ()) w54))
 (z (IntKind.wrap .i64 (s22.1 + 1)) fun (z56 : Int) =>
 again21 (z56, ()) w28)))
 (R (.tuple #[(.slice x11.1 x11.2.1 x11.2.2), (.slice x18.1 x18.2.1 x18.2.2), (.bool true)]) w23)))))
def H10 : Hints := ⟨[(2, 0, [(7, (.one (.int .i64)))]), (2, 2, [(8, (.one (.int .i64)))])], [(3, 9), (14, 11), (15, 11)], [], []⟩
set_option maxRecDepth 100000 in
theorem S10_eq (t_a : Option Addr) (t_n : Nat) (t_c : Nat) (w0 : World) (R : Value → World → Prop) : vcFn Try.prog H10 Try.f10 [(.slice t_a t_n t_c)] w0 R = S10 t_a t_n t_c w0 R := by kernel_rfl
set_option maxRecDepth 100000 in
theorem S10_calls (t_a : Option Addr) (t_n : Nat) (t_c : Nat) (w0 : World) (R : Value → World → Prop) (h : S10 t_a t_n t_c w0 R) : Calls Try.prog 10 #[(.slice t_a t_n t_c)] w0 (ret R) := by
  rw [← S10_eq] at h; exact vcFn_sound follows_ Try.func10 h

/-- querylab/querylabref21.CheckTable -/
def S14 (g_0a : Option Addr) (g_0n : Nat) (g_0c : Nat) (g_1a : Option Addr) (g_1n : Nat) (g_1c : Nat) (g_2a : Option Addr) (g_2n : Nat) (g_2c : Nat) (t_a : Option Addr) (t_n : Nat) (t_c : Nat) (w0 : World) (R : Value → World → Prop) : Prop :=
 wr Try.prog (Instr.box 25 (.agg #[(.slice g_0a g_0n g_0c), (.slice g_1a g_1n g_1c), (.slice g_2a g_2n g_2c)])) (.one .addr) w0 fun (x1 : Addr) (w2 : World) =>
 call Try.prog 10 [(.slice t_a t_n t_c)] (.many [(.one .slice), (.one .slice), (.one .bool)]) w2 fun (x3 : ((Option Addr × Nat × Nat) × (Option Addr × Nat × Nat) × Bool × Unit)) (w4 : World) =>
 rd Try.prog (Instr.loadAt 25 (.pointer (some x1))) (.agg [.slice, .slice, .slice]) w4 fun (x5 : ((Option Addr × Nat × Nat) × (Option Addr × Nat × Nat) × (Option Addr × Nat × Nat) × Unit)) =>
 call Try.prog 12 [(.agg #[(.slice x5.1.1 x5.1.2.1 x5.1.2.2), (.slice x5.2.1.1 x5.2.1.2.1 x5.2.1.2.2), (.slice x5.2.2.1.1 x5.2.2.1.2.1 x5.2.2.1.2.2)])] (.one (.one (.int .i64))) w4 fun (x6 : Int) (w7 : World) =>
 br (x6 != 0) (R (.bool false) w7)
 (br (!x3.2.2.1) (R (.bool false) w7)
 (rd Try.prog (Instr.loadAt 22 (.pointer (some x1))) (.one .slice) w7 fun (x8 : (Option Addr × Nat × Nat)) =>
 br (((x3.1.2.1 : Nat) : Int) != ((x8.2.1 : Nat) : Int)) (R (.bool false) w7)
 (rd Try.prog (Instr.loadAt 22 (.pointer (some (Addr.add x1 1)))) (.one .slice) w7 fun (x9 : (Option Addr × Nat × Nat)) =>
 br (((x3.2.1.2.1 : Nat) : Int) != ((x9.2.1 : Nat) : Int)) (R (.bool false) w7)
 (loop (T := (Int × Unit)) (0, ()) w7 fun (again10 : (Int × Unit) → World → Prop) (s11 : (Int × Unit)) w12 => ∀ _ : Nat → Value,
 br (decide (s11.1 < ((x3.1.2.1 : Nat) : Int))) (drw w12 fun w13 =>
 rdp Try.prog (Instr.indexAt 22 (.slice x3.1.1 x3.1.2.1 x3.1.2.2) (.int .i64 s11.1)) (.one .addr) fun (x14 : Addr) =>
 rd Try.prog (Instr.loadAt 3 (.pointer (some x14))) (.one (.int .i64)) w13 fun (x15 : Int) =>
 rd Try.prog (Instr.loadAt 22 (.pointer (some x1))) (.one .slice) w13 fun (x16 : (Option Addr × Nat × Nat)) =>
 rdp Try.prog (Instr.indexAt 22 (.slice x16.1 x16.2.1 x16.2.2) (.int .i64 s11.1)) (.one .addr) fun (x17 : Addr) =>
 rd Try.prog (Instr.loadAt 3 (.pointer (some x17))) (.one (.int .i64)) w13 fun (x18 : Int) =>
 br (x15 != x18) (R (.bool false) w13)
 (loop (T := (Int × Unit)) (0, ()) w13 fun (again19 : (Int × Unit) → World → Prop) (s20 : (Int × Unit)) w21 => ∀ _ : Nat → Value,
 br (decide (s20.1 < ((x3.2.1.2.1 : Nat) : Int))) (drw w21 fun w22 =>
 rdp Try.prog (Instr.indexAt 22 (.slice x3.2.1.1 x3.2.1.2.1 x3.2.1.2.2) (.int .i64 s20.1)) (.one .addr) fun (x23 : Addr) =>
 rd Try.prog (Instr.loadAt 3 (.pointer (some x23))) (.one (.int .i64)) w22 fun (x24 : Int) =>
 rd Try.prog (Instr.loadAt 22 (.pointer (some (Addr.add x1 1)))) (.one .slice) w22 fun (x25 : (Option Addr × Nat × Nat)) =>
 rdp Try.prog (Instr.indexAt 22 (.slice x25.1 x25.2.1 x25.2.2) (.int .i64 s20.1)) (.one .addr) fun (x26 : Addr) =>
 rd Try.prog (Instr.loadAt 3 (.pointer (some x26))) (.one (.int .i64)) w22 fun (x27 : Int) =>
 br (x24 != x27) (R (.bool false) w22)
 (rdp Try.prog (Instr.indexAt 23 (.slice t_a t_n t_c) (.int .i64 s11.1)) (.one .addr) fun (x28 : Addr) =>
 rd Try.prog (Instr.loadAt 22 (.pointer (some x28))) (.one .slice) w22 fun (x29 : (Option Addr × Nat × Nat)) =>
 rdp Try.prog (Instr.indexAt 22 (.slice x29.1 x29.2.1 x29.2.2) (.int .i64 s20.1)) (.one .addr) fun (x30 : Addr) =>
 rd Try.prog (Instr.loadAt 3 (.pointer (some x30))) (.one (.int .i64)) w22 fun (x31 : Int) =>
 rd Try.prog (Instr.loadAt 23 (.pointer (some (Addr.add x1 2)))) (.one .slice) w22 fun (x32 : (Option Addr × Nat × Nat)) =>
 rdp Try.prog (Instr.indexAt 23 (.slice x32.1 x32.2.1 x32.2.2) (.int .i64 s11.1)) (.one .addr) fun (x33 : Addr) =>
 rd Try.prog (Instr.loadAt 22 (.pointer (some x33))) (.one .slice) w22 fun (x34 : (Option Addr × Nat × Nat)) =>
 rdp Try.prog (Instr.indexAt 22 (.slice x34.1 x34.2.1 x34.2.2) (.int .i64 s20.1)) (.one .addr) fun (x35 : Addr) =>
 rd Try.prog (Instr.loadAt 3 (.pointer (some x35))) (.one (.int .i64)) w22 fun (x36 : Int) =>
 br (decide (x31 > x36)) (R (.bool false) w22)
 (z (IntKind.wrap .i64 (s20.1 + 1)) fun (z37 : Int) =>
 again19 (z37, ()) w22)))
 (z (IntKind.wrap .i64 (s11.1 + 1)) fun (z38 : Int) =>
 again10 (z38, ()) w21)))
 (R (.bool true) w12)))))
def H14 : Hints := ⟨[(2, 0, [(8, (.one (.int .i64)))]), (2, 2, [(9, (.one (.int .i64)))])], [(7, 9), (12, 26)], [], []⟩
set_option maxRecDepth 100000 in
theorem S14_eq (g_0a : Option Addr) (g_0n : Nat) (g_0c : Nat) (g_1a : Option Addr) (g_1n : Nat) (g_1c : Nat) (g_2a : Option Addr) (g_2n : Nat) (g_2c : Nat) (t_a : Option Addr) (t_n : Nat) (t_c : Nat) (w0 : World) (R : Value → World → Prop) : vcFn Try.prog H14 Try.f14 [(.agg #[(.slice g_0a g_0n g_0c), (.slice g_1a g_1n g_1c), (.slice g_2a g_2n g_2c)]), (.slice t_a t_n t_c)] w0 R = S14 g_0a g_0n g_0c g_1a g_1n g_1c g_2a g_2n g_2c t_a t_n t_c w0 R := by kernel_rfl
set_option maxRecDepth 100000 in
theorem S14_calls (g_0a : Option Addr) (g_0n : Nat) (g_0c : Nat) (g_1a : Option Addr) (g_1n : Nat) (g_1c : Nat) (g_2a : Option Addr) (g_2n : Nat) (g_2c : Nat) (t_a : Option Addr) (t_n : Nat) (t_c : Nat) (w0 : World) (R : Value → World → Prop) (h : S14 g_0a g_0n g_0c g_1a g_1n g_1c g_2a g_2n g_2c t_a t_n t_c w0 R) : Calls Try.prog 14 #[(.agg #[(.slice g_0a g_0n g_0c), (.slice g_1a g_1n g_1c), (.slice g_2a g_2n g_2c)]), (.slice t_a t_n t_c)] w0 (ret R) := by
  rw [← S14_eq] at h; exact vcFn_sound follows_ Try.func14 h

/-- querylab/querylabref21.Sums -/
def S20 (g_0a : Option Addr) (g_0n : Nat) (g_0c : Nat) (g_1a : Option Addr) (g_1n : Nat) (g_1c : Nat) (g_2a : Option Addr) (g_2n : Nat) (g_2c : Nat) (w0 : World) (R : Value → World → Prop) : Prop :=
 wr Try.prog (Instr.box 25 (.agg #[(.slice g_0a g_0n g_0c), (.slice g_1a g_1n g_1c), (.slice g_2a g_2n g_2c)])) (.one .addr) w0 fun (x1 : Addr) (w2 : World) =>
 loop (T := (Int × Int × Unit)) (0, 0, ()) w2 fun (again3 : (Int × Int × Unit) → World → Prop) (s4 : (Int × Int × Unit)) w5 => ∀ _ : Nat → Value,
 rd Try.prog (Instr.loadAt 22 (.pointer (some x1))) (.one .slice) w5 fun (x6 : (Option Addr × Nat × Nat)) =>
 br (decide (s4.2.1 < ((x6.2.1 : Nat) : Int))) (rd Try.prog (Instr.loadAt 22 (.pointer (some x1))) (.one .slice) w5 fun (x7 : (Option Addr × Nat × Nat)) =>
 rdp Try.prog (Instr.indexAt 22 (.slice x7.1 x7.2.1 x7.2.2) (.int .i64 s4.2.1)) (.one .addr) fun (x8 : Addr) =>
 rd Try.prog (Instr.loadAt 3 (.pointer (some x8))) (.one (.int .i64)) w5 fun (x9 : Int) =>
 z (IntKind.wrap .i64 (s4.1 + x9)) fun (z10 : Int) =>
 z (IntKind.wrap .i64 (s4.2.1 + 1)) fun (z11 : Int) =>
 again3 (z10, z11, ()) w5)
 (loop (T := (Int × Int × Unit)) (0, 0, ()) w5 fun (again12 : (Int × Int × Unit) → World → Prop) (s13 : (Int × Int × Unit)) w14 => ∀ _ : Nat → Value,
 rd Try.prog (Instr.loadAt 22 (.pointer (some (Addr.add x1 1)))) (.one .slice) w14 fun (x15 : (Option Addr × Nat × Nat)) =>
 br (decide (s13.2.1 < ((x15.2.1 : Nat) : Int))) (rd Try.prog (Instr.loadAt 22 (.pointer (some (Addr.add x1 1)))) (.one .slice) w14 fun (x16 : (Option Addr × Nat × Nat)) =>
 rdp Try.prog (Instr.indexAt 22 (.slice x16.1 x16.2.1 x16.2.2) (.int .i64 s13.2.1)) (.one .addr) fun (x17 : Addr) =>
 rd Try.prog (Instr.loadAt 3 (.pointer (some x17))) (.one (.int .i64)) w14 fun (x18 : Int) =>
 z (IntKind.wrap .i64 (s13.1 + x18)) fun (z19 : Int) =>
 z (IntKind.wrap .i64 (s13.2.1 + 1)) fun (z20 : Int) =>
 again12 (z19, z20, ()) w14)
 (R (.tuple #[(.int .i64 s4.1), (.int .i64 s13.1)]) w14))
def H20 : Hints := ⟨[(2, 0, [(4, (.one (.int .i64))), (6, (.one (.int .i64)))]), (2, 2, [(5, (.one (.int .i64))), (7, (.one (.int .i64)))])], [], [], []⟩
set_option maxRecDepth 100000 in
theorem S20_eq (g_0a : Option Addr) (g_0n : Nat) (g_0c : Nat) (g_1a : Option Addr) (g_1n : Nat) (g_1c : Nat) (g_2a : Option Addr) (g_2n : Nat) (g_2c : Nat) (w0 : World) (R : Value → World → Prop) : vcFn Try.prog H20 Try.f20 [(.agg #[(.slice g_0a g_0n g_0c), (.slice g_1a g_1n g_1c), (.slice g_2a g_2n g_2c)])] w0 R = S20 g_0a g_0n g_0c g_1a g_1n g_1c g_2a g_2n g_2c w0 R := by kernel_rfl
set_option maxRecDepth 100000 in
theorem S20_calls (g_0a : Option Addr) (g_0n : Nat) (g_0c : Nat) (g_1a : Option Addr) (g_1n : Nat) (g_1c : Nat) (g_2a : Option Addr) (g_2n : Nat) (g_2c : Nat) (w0 : World) (R : Value → World → Prop) (h : S20 g_0a g_0n g_0c g_1a g_1n g_1c g_2a g_2n g_2c w0 R) : Calls Try.prog 20 #[(.agg #[(.slice g_0a g_0n g_0c), (.slice g_1a g_1n g_1c), (.slice g_2a g_2n g_2c)])] w0 (ret R) := by
  rw [← S20_eq] at h; exact vcFn_sound follows_ Try.func20 h

/-- querylab/querylabref21.CheckCut -/
def S16 (g_0a : Option Addr) (g_0n : Nat) (g_0c : Nat) (g_1a : Option Addr) (g_1n : Nat) (g_1c : Nat) (g_2a : Option Addr) (g_2n : Nat) (g_2c : Nat) (c_0a : Option Addr) (c_0n : Nat) (c_0c : Nat) (c_1a : Option Addr) (c_1n : Nat) (c_1c : Nat) (w0 : World) (R : Value → World → Prop) : Prop :=
 wr Try.prog (Instr.box 25 (.agg #[(.slice g_0a g_0n g_0c), (.slice g_1a g_1n g_1c), (.slice g_2a g_2n g_2c)])) (.one .addr) w0 fun (x1 : Addr) (w2 : World) =>
 wr Try.prog (Instr.box 28 (.agg #[(.slice c_0a c_0n c_0c), (.slice c_1a c_1n c_1c)])) (.one .addr) w2 fun (x3 : Addr) (w4 : World) =>
 rd Try.prog (Instr.loadAt 25 (.pointer (some x1))) (.agg [.slice, .slice, .slice]) w4 fun (x5 : ((Option Addr × Nat × Nat) × (Option Addr × Nat × Nat) × (Option Addr × Nat × Nat) × Unit)) =>
 call Try.prog 12 [(.agg #[(.slice x5.1.1 x5.1.2.1 x5.1.2.2), (.slice x5.2.1.1 x5.2.1.2.1 x5.2.1.2.2), (.slice x5.2.2.1.1 x5.2.2.1.2.1 x5.2.2.1.2.2)])] (.one (.one (.int .i64))) w4 fun (x6 : Int) (w7 : World) =>
 br (x6 != 0) (R (.bool false) w7)
 (rd Try.prog (Instr.loadAt 26 (.pointer (some x3))) (.one .slice) w7 fun (x8 : (Option Addr × Nat × Nat)) =>
 rd Try.prog (Instr.loadAt 22 (.pointer (some x1))) (.one .slice) w7 fun (x9 : (Option Addr × Nat × Nat)) =>
 br (((x8.2.1 : Nat) : Int) != ((x9.2.1 : Nat) : Int)) (R (.bool false) w7)
 (rd Try.prog (Instr.loadAt 26 (.pointer (some (Addr.add x3 1)))) (.one .slice) w7 fun (x10 : (Option Addr × Nat × Nat)) =>
 rd Try.prog (Instr.loadAt 22 (.pointer (some (Addr.add x1 1)))) (.one .slice) w7 fun (x11 : (Option Addr × Nat × Nat)) =>
 br (((x10.2.1 : Nat) : Int) != ((x11.2.1 : Nat) : Int)) (R (.bool false) w7)
 (rd Try.prog (Instr.loadAt 25 (.pointer (some x1))) (.agg [.slice, .slice, .slice]) w7 fun (x12 : ((Option Addr × Nat × Nat) × (Option Addr × Nat × Nat) × (Option Addr × Nat × Nat) × Unit)) =>
 call Try.prog 20 [(.agg #[(.slice x12.1.1 x12.1.2.1 x12.1.2.2), (.slice x12.2.1.1 x12.2.1.2.1 x12.2.1.2.2), (.slice x12.2.2.1.1 x12.2.2.1.2.1 x12.2.2.1.2.2)])] (.many [(.one (.int .i64)), (.one (.int .i64))]) w7 fun (x13 : (Int × Int × Unit)) (w14 : World) =>
 br (x13.1 != x13.2.1) (R (.bool false) w14)
 (loop (T := (Int × Int × Int × Unit)) (0, 0, 0, ()) w14 fun (again15 : (Int × Int × Int × Unit) → World → Prop) (s16 : (Int × Int × Int × Unit)) w17 => ∀ _ : Nat → Value,
 rd Try.prog (Instr.loadAt 22 (.pointer (some x1))) (.one .slice) w17 fun (x18 : (Option Addr × Nat × Nat)) =>
 br (decide (s16.2.2.1 < ((x18.2.1 : Nat) : Int))) (join (T := (Int × Int × Unit)) (fun (s20 : (Int × Int × Unit)) w21 => ∀ _ : Nat → Value,
 z (IntKind.wrap .i64 (s16.2.2.1 + 1)) fun (z22 : Int) =>
 again15 (s20.1, s20.2.1, z22, ()) w21)
  fun (K19 : (Int × Int × Unit) → World → Prop) =>
 join (T := (Int × Unit)) (fun (s24 : (Int × Unit)) w25 => ∀ _ : Nat → Value,
 loop (T := (Int × Int × Unit)) (s16.2.1, 0, ()) w25 fun (again26 : (Int × Int × Unit) → World → Prop) (s27 : (Int × Int × Unit)) w28 => ∀ _ : Nat → Value,
 rd Try.prog (Instr.loadAt 22 (.pointer (some (Addr.add x1 1)))) (.one .slice) w28 fun (x29 : (Option Addr × Nat × Nat)) =>
 br (decide (s27.2.1 < ((x29.2.1 : Nat) : Int))) (join (T := (Int × Unit)) (fun (s31 : (Int × Unit)) w32 => ∀ _ : Nat → Value,
 z (IntKind.wrap .i64 (s27.2.1 + 1)) fun (z33 : Int) =>
 again26 (s31.1, z33, ()) w32)
  fun (K30 : (Int × Unit) → World → Prop) =>
 rd Try.prog (Instr.loadAt 26 (.pointer (some x3))) (.one .slice) w28 fun (x34 : (Option Addr × Nat × Nat)) =>
 rdp Try.prog (Instr.indexAt 26 (.slice x34.1 x34.2.1 x34.2.2) (.int .i64 s16.2.2.1)) (.one .addr) fun (x35 : Addr) =>
 rd Try.prog (Instr.loadAt 4 (.pointer (some x35))) (.one .bool) w28 fun (x36 : Bool) =>
 br x36 (rd Try.prog (Instr.loadAt 26 (.pointer (some (Addr.add x3 1)))) (.one .slice) w28 fun (x37 : (Option Addr × Nat × Nat)) =>
 rdp Try.prog (Instr.indexAt 26 (.slice x37.1 x37.2.1 x37.2.2) (.int .i64 s27.2.1)) (.one .addr) fun (x38 : Addr) =>
 rd Try.prog (Instr.loadAt 4 (.pointer (some x38))) (.one .bool) w28 fun (x39 : Bool) =>
 br (!x39) (rd Try.prog (Instr.loadAt 23 (.pointer (some (Addr.add x1 2)))) (.one .slice) w28 fun (x40 : (Option Addr × Nat × Nat)) =>
 rdp Try.prog (Instr.indexAt 23 (.slice x40.1 x40.2.1 x40.2.2) (.int .i64 s16.2.2.1)) (.one .addr) fun (x41 : Addr) =>
 rd Try.prog (Instr.loadAt 22 (.pointer (some x41))) (.one .slice) w28 fun (x42 : (Option Addr × Nat × Nat)) =>
 rdp Try.prog (Instr.indexAt 22 (.slice x42.1 x42.2.1 x42.2.2) (.int .i64 s27.2.1)) (.one .addr) fun (x43 : Addr) =>
 rd Try.prog (Instr.loadAt 3 (.pointer (some x43))) (.one (.int .i64)) w28 fun (x44 : Int) =>
 z (IntKind.wrap .i64 (s27.1 + x44)) fun (z45 : Int) =>
 K30 (z45, ()) w28)
 (K30 (s27.1, ()) w28))
 (K30 (s27.1, ()) w28))
 (K19 (s24.1, s27.1, ()) w28))
  fun (K23 : (Int × Unit) → World → Prop) =>
 rd Try.prog (Instr.loadAt 26 (.pointer (some x3))) (.one .slice) w17 fun (x46 : (Option Addr × Nat × Nat)) =>
 rdp Try.prog (Instr.indexAt 26 (.slice x46.1 x46.2.1 x46.2.2) (.int .i64 s16.2.2.1)) (.one .addr) fun (x47 : Addr) =>
 rd Try.prog (Instr.loadAt 4 (.pointer (some x47))) (.one .bool) w17 fun (x48 : Bool) =>
 br x48 (rd Try.prog (Instr.loadAt 22 (.pointer (some x1))) (.one .slice) w17 fun (x49 : (Option Addr × Nat × Nat)) =>
 rdp Try.prog (Instr.indexAt 22 (.slice x49.1 x49.2.1 x49.2.2) (.int .i64 s16.2.2.1)) (.one .addr) fun (x50 : Addr) =>
 rd Try.prog (Instr.loadAt 3 (.pointer (some x50))) (.one (.int .i64)) w17 fun (x51 : Int) =>
 z (IntKind.wrap .i64 (s16.1 + x51)) fun (z52 : Int) =>
 K23 (z52, ()) w17)
 (K23 (s16.1, ()) w17))
 (loop (T := (Int × Int × Unit)) (s16.2.1, 0, ()) w17 fun (again53 : (Int × Int × Unit) → World → Prop) (s54 : (Int × Int × Unit)) w55 => ∀ _ : Nat → Value,
 rd Try.prog (Instr.loadAt 22 (.pointer (some (Addr.add x1 1)))) (.one .slice) w55 fun (x56 : (Option Addr × Nat × Nat)) =>
 br (decide (s54.2.1 < ((x56.2.1 : Nat) : Int))) (join (T := (Int × Unit)) (fun (s58 : (Int × Unit)) w59 => ∀ _ : Nat → Value,
 z (IntKind.wrap .i64 (s54.2.1 + 1)) fun (z60 : Int) =>
 again53 (s58.1, z60, ()) w59)
  fun (K57 : (Int × Unit) → World → Prop) =>
 rd Try.prog (Instr.loadAt 26 (.pointer (some (Addr.add x3 1)))) (.one .slice) w55 fun (x61 : (Option Addr × Nat × Nat)) =>
 rdp Try.prog (Instr.indexAt 26 (.slice x61.1 x61.2.1 x61.2.2) (.int .i64 s54.2.1)) (.one .addr) fun (x62 : Addr) =>
 rd Try.prog (Instr.loadAt 4 (.pointer (some x62))) (.one .bool) w55 fun (x63 : Bool) =>
 br x63 (rd Try.prog (Instr.loadAt 22 (.pointer (some (Addr.add x1 1)))) (.one .slice) w55 fun (x64 : (Option Addr × Nat × Nat)) =>
 rdp Try.prog (Instr.indexAt 22 (.slice x64.1 x64.2.1 x64.2.2) (.int .i64 s54.2.1)) (.one .addr) fun (x65 : Addr) =>
 rd Try.prog (Instr.loadAt 3 (.pointer (some x65))) (.one (.int .i64)) w55 fun (x66 : Int) =>
 z (IntKind.wrap .i64 (s54.1 + x66)) fun (z67 : Int) =>
 K57 (z67, ()) w55)
 (K57 (s54.1, ()) w55))
 (R (.bool (decide (s16.1 > s54.1))) w55))))))
def H16 : Hints := ⟨[(2, 0, [(7, (.one (.int .i64))), (8, (.one (.int .i64))), (9, (.one (.int .i64)))]), (0, 52, [(7, (.one (.int .i64)))]), (2, 2, [(8, (.one (.int .i64))), (10, (.one (.int .i64)))]), (1, 3, [(8, (.one (.int .i64)))]), (1, 1, [(7, (.one (.int .i64))), (8, (.one (.int .i64)))]), (2, 4, [(8, (.one (.int .i64))), (11, (.one (.int .i64)))]), (1, 5, [(8, (.one (.int .i64)))])], [], [], []⟩
set_option maxRecDepth 100000 in
theorem S16_eq (g_0a : Option Addr) (g_0n : Nat) (g_0c : Nat) (g_1a : Option Addr) (g_1n : Nat) (g_1c : Nat) (g_2a : Option Addr) (g_2n : Nat) (g_2c : Nat) (c_0a : Option Addr) (c_0n : Nat) (c_0c : Nat) (c_1a : Option Addr) (c_1n : Nat) (c_1c : Nat) (w0 : World) (R : Value → World → Prop) : vcFn Try.prog H16 Try.f16 [(.agg #[(.slice g_0a g_0n g_0c), (.slice g_1a g_1n g_1c), (.slice g_2a g_2n g_2c)]), (.agg #[(.slice c_0a c_0n c_0c), (.slice c_1a c_1n c_1c)])] w0 R = S16 g_0a g_0n g_0c g_1a g_1n g_1c g_2a g_2n g_2c c_0a c_0n c_0c c_1a c_1n c_1c w0 R := by kernel_rfl
set_option maxRecDepth 100000 in
theorem S16_calls (g_0a : Option Addr) (g_0n : Nat) (g_0c : Nat) (g_1a : Option Addr) (g_1n : Nat) (g_1c : Nat) (g_2a : Option Addr) (g_2n : Nat) (g_2c : Nat) (c_0a : Option Addr) (c_0n : Nat) (c_0c : Nat) (c_1a : Option Addr) (c_1n : Nat) (c_1c : Nat) (w0 : World) (R : Value → World → Prop) (h : S16 g_0a g_0n g_0c g_1a g_1n g_1c g_2a g_2n g_2c c_0a c_0n c_0c c_1a c_1n c_1c w0 R) : Calls Try.prog 16 #[(.agg #[(.slice g_0a g_0n g_0c), (.slice g_1a g_1n g_1c), (.slice g_2a g_2n g_2c)]), (.agg #[(.slice c_0a c_0n c_0c), (.slice c_1a c_1n c_1c)])] w0 (ret R) := by
  rw [← S16_eq] at h; exact vcFn_sound follows_ Try.func16 h

/-- querylab/querylabref16.Same -/
def S17 (a_a : Option Addr) (a_n : Nat) (a_c : Nat) (b_a : Option Addr) (b_n : Nat) (b_c : Nat) (w0 : World) (R : Value → World → Prop) : Prop :=
 br (((a_n : Nat) : Int) != ((b_n : Nat) : Int)) (R (.bool false) w0)
 (loop (T := (Int × Unit)) (0, ()) w0 fun (again1 : (Int × Unit) → World → Prop) (s2 : (Int × Unit)) w3 => ∀ _ : Nat → Value,
 br (decide (s2.1 < ((a_n : Nat) : Int))) (drw w3 fun w4 =>
 rdp Try.prog (Instr.indexAt 22 (.slice a_a a_n a_c) (.int .i64 s2.1)) (.one .addr) fun (x5 : Addr) =>
 rd Try.prog (Instr.loadAt 3 (.pointer (some x5))) (.one (.int .i64)) w4 fun (x6 : Int) =>
 rdp Try.prog (Instr.indexAt 22 (.slice b_a b_n b_c) (.int .i64 s2.1)) (.one .addr) fun (x7 : Addr) =>
 rd Try.prog (Instr.loadAt 3 (.pointer (some x7))) (.one (.int .i64)) w4 fun (x8 : Int) =>
 br (x6 != x8) (R (.bool false) w4)
 (z (IntKind.wrap .i64 (s2.1 + 1)) fun (z9 : Int) =>
 again1 (z9, ()) w4))
 (R (.bool true) w3))
def H17 : Hints := ⟨[(2, 0, [(5, (.one (.int .i64)))])], [(6, 8)], [], []⟩
set_option maxRecDepth 100000 in
theorem S17_eq (a_a : Option Addr) (a_n : Nat) (a_c : Nat) (b_a : Option Addr) (b_n : Nat) (b_c : Nat) (w0 : World) (R : Value → World → Prop) : vcFn Try.prog H17 Try.f17 [(.slice a_a a_n a_c), (.slice b_a b_n b_c)] w0 R = S17 a_a a_n a_c b_a b_n b_c w0 R := by kernel_rfl
set_option maxRecDepth 100000 in
theorem S17_calls (a_a : Option Addr) (a_n : Nat) (a_c : Nat) (b_a : Option Addr) (b_n : Nat) (b_c : Nat) (w0 : World) (R : Value → World → Prop) (h : S17 a_a a_n a_c b_a b_n b_c w0 R) : Calls Try.prog 17 #[(.slice a_a a_n a_c), (.slice b_a b_n b_c)] w0 (ret R) := by
  rw [← S17_eq] at h; exact vcFn_sound follows_ Try.func17 h

/-- querylab/querylablaw21.few -/
def S8 (t_a : Option Addr) (t_n : Nat) (t_c : Nat) (w0 : World) (R : Value → World → Prop) : Prop :=
 br (decide (((t_n : Nat) : Int) > 20)) (R (.bool false) w0)
 (loop (T := (Int × Unit)) (0, ()) w0 fun (again1 : (Int × Unit) → World → Prop) (s2 : (Int × Unit)) w3 => ∀ _ : Nat → Value,
 br (decide (s2.1 < ((t_n : Nat) : Int))) (rdp Try.prog (Instr.indexAt 23 (.slice t_a t_n t_c) (.int .i64 s2.1)) (.one .addr) fun (x4 : Addr) =>
 rd Try.prog (Instr.loadAt 22 (.pointer (some x4))) (.one .slice) w3 fun (x5 : (Option Addr × Nat × Nat)) =>
 br (decide (((x5.2.1 : Nat) : Int) > 20)) (R (.bool false) w3)
 (z (IntKind.wrap .i64 (s2.1 + 1)) fun (z6 : Int) =>
 again1 (z6, ()) w3))
 (R (.bool true) w3))
def H8 : Hints := ⟨[(2, 0, [(3, (.one (.int .i64)))])], [], [], []⟩
set_option maxRecDepth 100000 in
theorem S8_eq (t_a : Option Addr) (t_n : Nat) (t_c : Nat) (w0 : World) (R : Value → World → Prop) : vcFn Try.prog H8 Try.f8 [(.slice t_a t_n t_c)] w0 R = S8 t_a t_n t_c w0 R := by kernel_rfl
set_option maxRecDepth 100000 in
theorem S8_calls (t_a : Option Addr) (t_n : Nat) (t_c : Nat) (w0 : World) (R : Value → World → Prop) (h : S8 t_a t_n t_c w0 R) : Calls Try.prog 8 #[(.slice t_a t_n t_c)] w0 (ret R) := by
  rw [← S8_eq] at h; exact vcFn_sound follows_ Try.func8 h

/-- querylab/querylablaw21.Few -/
def S7 (g_0a : Option Addr) (g_0n : Nat) (g_0c : Nat) (g_1a : Option Addr) (g_1n : Nat) (g_1c : Nat) (g_2a : Option Addr) (g_2n : Nat) (g_2c : Nat) (w0 : World) (R : Value → World → Prop) : Prop :=
 wr Try.prog (Instr.box 25 (.agg #[(.slice g_0a g_0n g_0c), (.slice g_1a g_1n g_1c), (.slice g_2a g_2n g_2c)])) (.one .addr) w0 fun (x1 : Addr) (w2 : World) =>
 rd Try.prog (Instr.loadAt 22 (.pointer (some x1))) (.one .slice) w2 fun (x3 : (Option Addr × Nat × Nat)) =>
 br (decide (((x3.2.1 : Nat) : Int) ≤ 20)) (rd Try.prog (Instr.loadAt 22 (.pointer (some (Addr.add x1 1)))) (.one .slice) w2 fun (x4 : (Option Addr × Nat × Nat)) =>
 br (decide (((x4.2.1 : Nat) : Int) ≤ 20)) (rd Try.prog (Instr.loadAt 23 (.pointer (some (Addr.add x1 2)))) (.one .slice) w2 fun (x5 : (Option Addr × Nat × Nat)) =>
 call Try.prog 8 [(.slice x5.1 x5.2.1 x5.2.2)] (.one (.one .bool)) w2 fun (x6 : Bool) (w7 : World) =>
 R (.bool x6) w7)
 (R (.bool false) w2))
 (R (.bool false) w2)
def H7 : Hints := ⟨[], [], [], []⟩
set_option maxRecDepth 100000 in
theorem S7_eq (g_0a : Option Addr) (g_0n : Nat) (g_0c : Nat) (g_1a : Option Addr) (g_1n : Nat) (g_1c : Nat) (g_2a : Option Addr) (g_2n : Nat) (g_2c : Nat) (w0 : World) (R : Value → World → Prop) : vcFn Try.prog H7 Try.f7 [(.agg #[(.slice g_0a g_0n g_0c), (.slice g_1a g_1n g_1c), (.slice g_2a g_2n g_2c)])] w0 R = S7 g_0a g_0n g_0c g_1a g_1n g_1c g_2a g_2n g_2c w0 R := by kernel_rfl
set_option maxRecDepth 100000 in
theorem S7_calls (g_0a : Option Addr) (g_0n : Nat) (g_0c : Nat) (g_1a : Option Addr) (g_1n : Nat) (g_1c : Nat) (g_2a : Option Addr) (g_2n : Nat) (g_2c : Nat) (w0 : World) (R : Value → World → Prop) (h : S7 g_0a g_0n g_0c g_1a g_1n g_1c g_2a g_2n g_2c w0 R) : Calls Try.prog 7 #[(.agg #[(.slice g_0a g_0n g_0c), (.slice g_1a g_1n g_1c), (.slice g_2a g_2n g_2c)])] w0 (ret R) := by
  rw [← S7_eq] at h; exact vcFn_sound follows_ Try.func7 h

/-- querylab/querylablaw21.CorrelationChecks -/
def S3 (g_0a : Option Addr) (g_0n : Nat) (g_0c : Nat) (g_1a : Option Addr) (g_1n : Nat) (g_1c : Nat) (g_2a : Option Addr) (g_2n : Nat) (g_2c : Nat) (t_a : Option Addr) (t_n : Nat) (t_c : Nat) (c_0a : Option Addr) (c_0n : Nat) (c_0c : Nat) (c_1a : Option Addr) (c_1n : Nat) (c_1c : Nat) (w0 : World) (R : Value → World → Prop) : Prop :=
 wr Try.prog (Instr.box 25 (.agg #[(.slice g_0a g_0n g_0c), (.slice g_1a g_1n g_1c), (.slice g_2a g_2n g_2c)])) (.one .addr) w0 fun (x1 : Addr) (w2 : World) =>
 wr Try.prog (Instr.box 28 (.agg #[(.slice c_0a c_0n c_0c), (.slice c_1a c_1n c_1c)])) (.one .addr) w2 fun (x3 : Addr) (w4 : World) =>
 rd Try.prog (Instr.loadAt 25 (.pointer (some x1))) (.agg [.slice, .slice, .slice]) w4 fun (x5 : ((Option Addr × Nat × Nat) × (Option Addr × Nat × Nat) × (Option Addr × Nat × Nat) × Unit)) =>
 call Try.prog 7 [(.agg #[(.slice x5.1.1 x5.1.2.1 x5.1.2.2), (.slice x5.2.1.1 x5.2.1.2.1 x5.2.1.2.2), (.slice x5.2.2.1.1 x5.2.2.1.2.1 x5.2.2.1.2.2)])] (.one (.one .bool)) w4 fun (x6 : Bool) (w7 : World) =>
 br (!x6) (R (.bool true) w7)
 (call Try.prog 8 [(.slice t_a t_n t_c)] (.one (.one .bool)) w7 fun (x8 : Bool) (w9 : World) =>
 br (!x8) (R (.bool true) w9)
 (rd Try.prog (Instr.loadAt 26 (.pointer (some x3))) (.one .slice) w9 fun (x10 : (Option Addr × Nat × Nat)) =>
 br (decide (((x10.2.1 : Nat) : Int) > 20)) (R (.bool true) w9)
 (rd Try.prog (Instr.loadAt 26 (.pointer (some (Addr.add x3 1)))) (.one .slice) w9 fun (x11 : (Option Addr × Nat × Nat)) =>
 br (decide (((x11.2.1 : Nat) : Int) > 20)) (R (.bool true) w9)
 (call Try.prog 9 [(.slice t_a t_n t_c)] (.many [(.one .slice), (.one .slice), (.one .bool)]) w9 fun (x12 : ((Option Addr × Nat × Nat) × (Option Addr × Nat × Nat) × Bool × Unit)) (w13 : World) =>
 call Try.prog 10 [(.slice t_a t_n t_c)] (.many [(.one .slice), (.one .slice), (.one .bool)]) w13 fun (x14 : ((Option Addr × Nat × Nat) × (Option Addr × Nat × Nat) × Bool × Unit)) (w15 : World) =>
 drw w15 fun w16 => flEx fun F17 =>
 rd Try.prog (Instr.loadAt 25 (.pointer (some x1))) (.agg [.slice, .slice, .slice]) w16 fun (x18 : ((Option Addr × Nat × Nat) × (Option Addr × Nat × Nat) × (Option Addr × Nat × Nat) × Unit)) =>
 flc bel w16 (fun _w20 => True) (fun (w19 : World) =>
   call Try.prog 11 [(.agg #[(.slice x18.1.1 x18.1.2.1 x18.1.2.2), (.slice x18.2.1.1 x18.2.1.2.1 x18.2.1.2.2), (.slice x18.2.2.1.1 x18.2.2.1.2.1 x18.2.2.1.2.2)])] (.one (.one (.int .i64))) w19 fun (x21 : Int) (w22 : World) =>
 (bel w19 w22 ∧ F17 1 [(.agg #[(.slice x18.1.1 x18.1.2.1 x18.1.2.2), (.slice x18.2.1.1 x18.2.1.2.1 x18.2.1.2.2), (.slice x18.2.2.1.1 x18.2.2.1.2.1 x18.2.2.1.2.2)])] (.int .i64 x21) w22))
  fun (x23 : Int) =>
 rd Try.prog (Instr.loadAt 25 (.pointer (some x1))) (.agg [.slice, .slice, .slice]) w16 fun (x24 : ((Option Addr × Nat × Nat) × (Option Addr × Nat × Nat) × (Option Addr × Nat × Nat) × Unit)) =>
 flc bel w16 (fun w26 => F17 1 [(.agg #[(.slice x18.1.1 x18.1.2.1 x18.1.2.2), (.slice x18.2.1.1 x18.2.1.2.1 x18.2.1.2.2), (.slice x18.2.2.1.1 x18.2.2.1.2.1 x18.2.2.1.2.2)])] (.int .i64 x23) w26 ∧ True) (fun (w25 : World) =>
   call Try.prog 12 [(.agg #[(.slice x24.1.1 x24.1.2.1 x24.1.2.2), (.slice x24.2.1.1 x24.2.1.2.1 x24.2.1.2.2), (.slice x24.2.2.1.1 x24.2.2.1.2.1 x24.2.2.1.2.2)])] (.one (.one (.int .i64))) w25 fun (x27 : Int) (w28 : World) =>
 (bel w25 w28 ∧ F17 3 [(.agg #[(.slice x24.1.1 x24.1.2.1 x24.1.2.2), (.slice x24.2.1.1 x24.2.1.2.1 x24.2.1.2.2), (.slice x24.2.2.1.1 x24.2.2.1.2.1 x24.2.2.1.2.2)])] (.int .i64 x27) w28))
  fun (x29 : Int) =>
 br (x23 == x29) (rd Try.prog (Instr.loadAt 25 (.pointer (some x1))) (.agg [.slice, .slice, .slice]) w16 fun (x30 : ((Option Addr × Nat × Nat) × (Option Addr × Nat × Nat) × (Option Addr × Nat × Nat) × Unit)) =>
 flc bel w16 (fun w32 => F17 3 [(.agg #[(.slice x24.1.1 x24.1.2.1 x24.1.2.2), (.slice x24.2.1.1 x24.2.1.2.1 x24.2.1.2.2), (.slice x24.2.2.1.1 x24.2.2.1.2.1 x24.2.2.1.2.2)])] (.int .i64 x29) w32 ∧ F17 1 [(.agg #[(.slice x18.1.1 x18.1.2.1 x18.1.2.2), (.slice x18.2.1.1 x18.2.1.2.1 x18.2.1.2.2), (.slice x18.2.2.1.1 x18.2.2.1.2.1 x18.2.2.1.2.2)])] (.int .i64 x23) w32 ∧ True) (fun (w31 : World) =>
   call Try.prog 13 [(.agg #[(.slice x30.1.1 x30.1.2.1 x30.1.2.2), (.slice x30.2.1.1 x30.2.1.2.1 x30.2.1.2.2), (.slice x30.2.2.1.1 x30.2.2.1.2.1 x30.2.2.1.2.2)]), (.slice t_a t_n t_c)] (.one (.one .bool)) w31 fun (x33 : Bool) (w34 : World) =>
 (bel w31 w34 ∧ F17 8 [(.agg #[(.slice x30.1.1 x30.1.2.1 x30.1.2.2), (.slice x30.2.1.1 x30.2.1.2.1 x30.2.1.2.2), (.slice x30.2.2.1.1 x30.2.2.1.2.1 x30.2.2.1.2.2)]), (.slice t_a t_n t_c)] (.bool x33) w34))
  fun (x35 : Bool) =>
 rd Try.prog (Instr.loadAt 25 (.pointer (some x1))) (.agg [.slice, .slice, .slice]) w16 fun (x36 : ((Option Addr × Nat × Nat) × (Option Addr × Nat × Nat) × (Option Addr × Nat × Nat) × Unit)) =>
 flc bel w16 (fun w38 => F17 8 [(.agg #[(.slice x30.1.1 x30.1.2.1 x30.1.2.2), (.slice x30.2.1.1 x30.2.1.2.1 x30.2.1.2.2), (.slice x30.2.2.1.1 x30.2.2.1.2.1 x30.2.2.1.2.2)]), (.slice t_a t_n t_c)] (.bool x35) w38 ∧ F17 3 [(.agg #[(.slice x24.1.1 x24.1.2.1 x24.1.2.2), (.slice x24.2.1.1 x24.2.1.2.1 x24.2.1.2.2), (.slice x24.2.2.1.1 x24.2.2.1.2.1 x24.2.2.1.2.2)])] (.int .i64 x29) w38 ∧ F17 1 [(.agg #[(.slice x18.1.1 x18.1.2.1 x18.1.2.2), (.slice x18.2.1.1 x18.2.1.2.1 x18.2.1.2.2), (.slice x18.2.2.1.1 x18.2.2.1.2.1 x18.2.2.1.2.2)])] (.int .i64 x23) w38 ∧ True) (fun (w37 : World) =>
   call Try.prog 14 [(.agg #[(.slice x36.1.1 x36.1.2.1 x36.1.2.2), (.slice x36.2.1.1 x36.2.1.2.1 x36.2.1.2.2), (.slice x36.2.2.1.1 x36.2.2.1.2.1 x36.2.2.1.2.2)]), (.slice t_a t_n t_c)] (.one (.one .bool)) w37 fun (x39 : Bool) (w40 : World) =>
 (bel w37 w40 ∧ F17 11 [(.agg #[(.slice x36.1.1 x36.1.2.1 x36.1.2.2), (.slice x36.2.1.1 x36.2.1.2.1 x36.2.1.2.2), (.slice x36.2.2.1.1 x36.2.2.1.2.1 x36.2.2.1.2.2)]), (.slice t_a t_n t_c)] (.bool x39) w40))
  fun (x41 : Bool) =>
 br (x35 == x41) (rd Try.prog (Instr.loadAt 25 (.pointer (some x1))) (.agg [.slice, .slice, .slice]) w16 fun (x42 : ((Option Addr × Nat × Nat) × (Option Addr × Nat × Nat) × (Option Addr × Nat × Nat) × Unit)) =>
 rd Try.prog (Instr.loadAt 28 (.pointer (some x3))) (.agg [.slice, .slice]) w16 fun (x43 : ((Option Addr × Nat × Nat) × (Option Addr × Nat × Nat) × Unit)) =>
 flc bel w16 (fun w45 => F17 11 [(.agg #[(.slice x36.1.1 x36.1.2.1 x36.1.2.2), (.slice x36.2.1.1 x36.2.1.2.1 x36.2.1.2.2), (.slice x36.2.2.1.1 x36.2.2.1.2.1 x36.2.2.1.2.2)]), (.slice t_a t_n t_c)] (.bool x41) w45 ∧ F17 8 [(.agg #[(.slice x30.1.1 x30.1.2.1 x30.1.2.2), (.slice x30.2.1.1 x30.2.1.2.1 x30.2.1.2.2), (.slice x30.2.2.1.1 x30.2.2.1.2.1 x30.2.2.1.2.2)]), (.slice t_a t_n t_c)] (.bool x35) w45 ∧ F17 3 [(.agg #[(.slice x24.1.1 x24.1.2.1 x24.1.2.2), (.slice x24.2.1.1 x24.2.1.2.1 x24.2.1.2.2), (.slice x24.2.2.1.1 x24.2.2.1.2.1 x24.2.2.1.2.2)])] (.int .i64 x29) w45 ∧ F17 1 [(.agg #[(.slice x18.1.1 x18.1.2.1 x18.1.2.2), (.slice x18.2.1.1 x18.2.1.2.1 x18.2.1.2.2), (.slice x18.2.2.1.1 x18.2.2.1.2.1 x18.2.2.1.2.2)])] (.int .i64 x23) w45 ∧ True) (fun (w44 : World) =>
   call Try.prog 15 [(.agg #[(.slice x42.1.1 x42.1.2.1 x42.1.2.2), (.slice x42.2.1.1 x42.2.1.2.1 x42.2.1.2.2), (.slice x42.2.2.1.1 x42.2.2.1.2.1 x42.2.2.1.2.2)]), (.agg #[(.slice x43.1.1 x43.1.2.1 x43.1.2.2), (.slice x43.2.1.1 x43.2.1.2.1 x43.2.1.2.2)])] (.one (.one .bool)) w44 fun (x46 : Bool) (w47 : World) =>
 (bel w44 w47 ∧ F17 17 [(.agg #[(.slice x42.1.1 x42.1.2.1 x42.1.2.2), (.slice x42.2.1.1 x42.2.1.2.1 x42.2.1.2.2), (.slice x42.2.2.1.1 x42.2.2.1.2.1 x42.2.2.1.2.2)]), (.agg #[(.slice x43.1.1 x43.1.2.1 x43.1.2.2), (.slice x43.2.1.1 x43.2.1.2.1 x43.2.1.2.2)])] (.bool x46) w47))
  fun (x48 : Bool) =>
 rd Try.prog (Instr.loadAt 25 (.pointer (some x1))) (.agg [.slice, .slice, .slice]) w16 fun (x49 : ((Option Addr × Nat × Nat) × (Option Addr × Nat × Nat) × (Option Addr × Nat × Nat) × Unit)) =>
 rd Try.prog (Instr.loadAt 28 (.pointer (some x3))) (.agg [.slice, .slice]) w16 fun (x50 : ((Option Addr × Nat × Nat) × (Option Addr × Nat × Nat) × Unit)) =>
 flend bel w16 (fun w52 => F17 17 [(.agg #[(.slice x42.1.1 x42.1.2.1 x42.1.2.2), (.slice x42.2.1.1 x42.2.1.2.1 x42.2.1.2.2), (.slice x42.2.2.1.1 x42.2.2.1.2.1 x42.2.2.1.2.2)]), (.agg #[(.slice x43.1.1 x43.1.2.1 x43.1.2.2), (.slice x43.2.1.1 x43.2.1.2.1 x43.2.1.2.2)])] (.bool x48) w52 ∧ F17 11 [(.agg #[(.slice x36.1.1 x36.1.2.1 x36.1.2.2), (.slice x36.2.1.1 x36.2.1.2.1 x36.2.1.2.2), (.slice x36.2.2.1.1 x36.2.2.1.2.1 x36.2.2.1.2.2)]), (.slice t_a t_n t_c)] (.bool x41) w52 ∧ F17 8 [(.agg #[(.slice x30.1.1 x30.1.2.1 x30.1.2.2), (.slice x30.2.1.1 x30.2.1.2.1 x30.2.1.2.2), (.slice x30.2.2.1.1 x30.2.2.1.2.1 x30.2.2.1.2.2)]), (.slice t_a t_n t_c)] (.bool x35) w52 ∧ F17 3 [(.agg #[(.slice x24.1.1 x24.1.2.1 x24.1.2.2), (.slice x24.2.1.1 x24.2.1.2.1 x24.2.1.2.2), (.slice x24.2.2.1.1 x24.2.2.1.2.1 x24.2.2.1.2.2)])] (.int .i64 x29) w52 ∧ F17 1 [(.agg #[(.slice x18.1.1 x18.1.2.1 x18.1.2.2), (.slice x18.2.1.1 x18.2.1.2.1 x18.2.1.2.2), (.slice x18.2.2.1.1 x18.2.2.1.2.1 x18.2.2.1.2.2)])] (.int .i64 x23) w52 ∧ True) fun w51 =>
 call Try.prog 16 [(.agg #[(.slice x49.1.1 x49.1.2.1 x49.1.2.2), (.slice x49.2.1.1 x49.2.1.2.1 x49.2.1.2.2), (.slice x49.2.2.1.1 x49.2.2.1.2.1 x49.2.2.1.2.2)]), (.agg #[(.slice x50.1.1 x50.1.2.1 x50.1.2.2), (.slice x50.2.1.1 x50.2.1.2.1 x50.2.1.2.2)])] (.one (.one .bool)) w51 fun (x53 : Bool) (w54 : World) =>
 br (x48 == x53) (br (x12.2.2.1 == x14.2.2.1) (call Try.prog 17 [(.slice x12.1.1 x12.1.2.1 x12.1.2.2), (.slice x14.1.1 x14.1.2.1 x14.1.2.2)] (.one (.one .bool)) w54 fun (x55 : Bool) (w56 : World) =>
 br x55 (call Try.prog 17 [(.slice x12.2.1.1 x12.2.1.2.1 x12.2.1.2.2), (.slice x14.2.1.1 x14.2.1.2.1 x14.2.1.2.2)] (.one (.one .bool)) w56 fun (x57 : Bool) (w58 : World) =>
 R (.bool x57) w58)
 (R (.bool false) w56))
 (R (.bool false) w54))
 (R (.bool false) w54))
 (flend bel w16 (fun w60 => F17 11 [(.agg #[(.slice x36.1.1 x36.1.2.1 x36.1.2.2), (.slice x36.2.1.1 x36.2.1.2.1 x36.2.1.2.2), (.slice x36.2.2.1.1 x36.2.2.1.2.1 x36.2.2.1.2.2)]), (.slice t_a t_n t_c)] (.bool x41) w60 ∧ F17 8 [(.agg #[(.slice x30.1.1 x30.1.2.1 x30.1.2.2), (.slice x30.2.1.1 x30.2.1.2.1 x30.2.1.2.2), (.slice x30.2.2.1.1 x30.2.2.1.2.1 x30.2.2.1.2.2)]), (.slice t_a t_n t_c)] (.bool x35) w60 ∧ F17 3 [(.agg #[(.slice x24.1.1 x24.1.2.1 x24.1.2.2), (.slice x24.2.1.1 x24.2.1.2.1 x24.2.1.2.2), (.slice x24.2.2.1.1 x24.2.2.1.2.1 x24.2.2.1.2.2)])] (.int .i64 x29) w60 ∧ F17 1 [(.agg #[(.slice x18.1.1 x18.1.2.1 x18.1.2.2), (.slice x18.2.1.1 x18.2.1.2.1 x18.2.1.2.2), (.slice x18.2.2.1.1 x18.2.2.1.2.1 x18.2.2.1.2.2)])] (.int .i64 x23) w60 ∧ True) fun w59 =>
 R (.bool false) w59))
 (flend bel w16 (fun w62 => F17 3 [(.agg #[(.slice x24.1.1 x24.1.2.1 x24.1.2.2), (.slice x24.2.1.1 x24.2.1.2.1 x24.2.1.2.2), (.slice x24.2.2.1.1 x24.2.2.1.2.1 x24.2.2.1.2.2)])] (.int .i64 x29) w62 ∧ F17 1 [(.agg #[(.slice x18.1.1 x18.1.2.1 x18.1.2.2), (.slice x18.2.1.1 x18.2.1.2.1 x18.2.1.2.2), (.slice x18.2.2.1.1 x18.2.2.1.2.1 x18.2.2.1.2.2)])] (.int .i64 x23) w62 ∧ True) fun w61 =>
 R (.bool false) w61)))))
def H3 : Hints := ⟨[], [(5, 20)], [], []⟩
set_option maxRecDepth 100000 in
theorem S3_eq (g_0a : Option Addr) (g_0n : Nat) (g_0c : Nat) (g_1a : Option Addr) (g_1n : Nat) (g_1c : Nat) (g_2a : Option Addr) (g_2n : Nat) (g_2c : Nat) (t_a : Option Addr) (t_n : Nat) (t_c : Nat) (c_0a : Option Addr) (c_0n : Nat) (c_0c : Nat) (c_1a : Option Addr) (c_1n : Nat) (c_1c : Nat) (w0 : World) (R : Value → World → Prop) : vcFn Try.prog H3 Try.f3 [(.agg #[(.slice g_0a g_0n g_0c), (.slice g_1a g_1n g_1c), (.slice g_2a g_2n g_2c)]), (.slice t_a t_n t_c), (.agg #[(.slice c_0a c_0n c_0c), (.slice c_1a c_1n c_1c)])] w0 R = S3 g_0a g_0n g_0c g_1a g_1n g_1c g_2a g_2n g_2c t_a t_n t_c c_0a c_0n c_0c c_1a c_1n c_1c w0 R := by kernel_rfl
set_option maxRecDepth 100000 in
theorem S3_calls (g_0a : Option Addr) (g_0n : Nat) (g_0c : Nat) (g_1a : Option Addr) (g_1n : Nat) (g_1c : Nat) (g_2a : Option Addr) (g_2n : Nat) (g_2c : Nat) (t_a : Option Addr) (t_n : Nat) (t_c : Nat) (c_0a : Option Addr) (c_0n : Nat) (c_0c : Nat) (c_1a : Option Addr) (c_1n : Nat) (c_1c : Nat) (w0 : World) (R : Value → World → Prop) (h : S3 g_0a g_0n g_0c g_1a g_1n g_1c g_2a g_2n g_2c t_a t_n t_c c_0a c_0n c_0c c_1a c_1n c_1c w0 R) : Calls Try.prog 3 #[(.agg #[(.slice g_0a g_0n g_0c), (.slice g_1a g_1n g_1c), (.slice g_2a g_2n g_2c)]), (.slice t_a t_n t_c), (.agg #[(.slice c_0a c_0n c_0c), (.slice c_1a c_1n c_1c)])] w0 (ret R) := by
  rw [← S3_eq] at h; exact vcFn_sound follows_ Try.func3 h

end Go.Proofs

/- Grids in memory; when a grid is valid. -/



namespace Go.Proofs.Ytphgmfjinihgaaa
open Go.RowKit Go.Q Go.V

abbrev I64 (n : Int) : Prop := -9223372036854775808 ≤ n ∧ n ≤ 9223372036854775807
theorem tyI : TyS Try.prog 22 3 (.int .i64 0) 1 8 := ⟨by kernel_rfl, by kernel_rfl⟩
theorem tyT : TyS Try.prog 23 22 (.slice none 0 0) 1 24 := ⟨by kernel_rfl, by kernel_rfl⟩
theorem tyB : TyS Try.prog 26 4 (.bool false) 1 1 := ⟨by kernel_rfl, by kernel_rfl⟩
abbrev SlI (w : World) (h : Hdr) (xs : List Int) : Prop := Sl w h.1 h.2.1 h.2.2 1 (ints .i64 xs)
abbrev SlB (w : World) (h : Hdr) (xs : List Bool) : Prop := Sl w h.1 h.2.1 h.2.2 1 (Go.Q.bools xs)
abbrev OwnI (w : World) (B : Nat) (h : Hdr) (xs : List Int) : Prop := Own w B 3 1 h.1 h.2.1 h.2.2 (ints .i64 xs)
theorem OwnI.len {w : World} {B : Nat} {h : Hdr} {xs : List Int} (H : OwnI w B h xs) : xs.length = h.2.1 := H.sl.int
theorem sl_inj {x y : Hdr} (h : Value.slice x.1 x.2.1 x.2.2 = .slice y.1 y.2.1 y.2.2) : x = y := by
  obtain ⟨a, b, c⟩ := x
  obtain ⟨a', b', c'⟩ := y
  injection h with h1 h2 h3
  dsimp only at h1 h2 h3
  subst h1 h2 h3
  rfl
theorem blk_eq {a : Addr} {b : Nat} (h : blk (some a) = some b) : a.block = b := by
  have h : some a.block = some b := h
  injection h
/-- a grid in memory -/
structure Grid (w : World) (r c b : Hdr) (R C : List Int) (B : List (List Int)) : Prop where
  r : SlI w r R
  c : SlI w c C
  b : TabI .i64 w b B
theorem Grid.up {w w' : World} {r c b : Hdr} {R C : List Int} {B : List (List Int)} (H : Grid w r c b R C B) (h : bel w w') : Grid w' r c b R C B := ⟨H.r.up h, H.c.up h, H.b.up h⟩
abbrev grv (r c b : Hdr) : Value := .agg #[.slice r.1 r.2.1 r.2.2, .slice c.1 c.2.1 c.2.2, .slice b.1 b.2.1 b.2.2]
abbrev grc (r c b : Hdr) : List Value := [.slice r.1 r.2.1 r.2.2, .slice c.1 c.2.1 c.2.2, .slice b.1 b.2.1 b.2.2]
/-- a number of a list, of a table -/
theorem int_mk {w : World} {h : Hdr} {xs : List Int} (H : SlI w h xs) {k : Nat} {kk : Int} (hk : kk = (k : Int)) (hn : k < xs.length) {K : Int → Prop} (hK : K (g1 xs k)) :
    rdp Try.prog (Instr.indexAt 22 (.slice h.1 h.2.1 h.2.2) (.int .i64 kk)) (.one .addr) fun b => rd Try.prog (Instr.loadAt 3 (.pointer (some b))) (.one (.int .i64)) w K :=
  at_int tyI (by kernel_rfl) H hk (by have := H.int; omega) fun x hx => by rw [g1_at hx] at hK; exact hK
theorem bool_mk {w : World} {h : Hdr} {xs : List Bool} (H : SlB w h xs) {k : Nat} {kk : Int} (hk : kk = (k : Int)) (hn : k < xs.length) {K : Bool → Prop} (hK : K (gb xs k)) :
    rdp Try.prog (Instr.indexAt 26 (.slice h.1 h.2.1 h.2.2) (.int .i64 kk)) (.one .addr) fun b => rd Try.prog (Instr.loadAt 4 (.pointer (some b))) (.one .bool) w K :=
  at_bool tyB (by kernel_rfl) H hk (by have := H.bool; omega) fun x hx => by rw [gb_at hx] at hK; exact hK
theorem row_mk {w : World} {h : Hdr} {T : List (List Int)} (H : TabI .i64 w h T) {i : Nat} {ii : Int} (hi : ii = (i : Int)) (hin : i < T.length) {K : Hdr → Prop} (hK : ∀ (x : Hdr) r, T[i]? = some r → SlI w x r → K x) :
    rdp Try.prog (Instr.indexAt 23 (.slice h.1 h.2.1 h.2.2) (.int .i64 ii)) (.one .addr) fun a => rd Try.prog (Instr.loadAt 22 (.pointer (some a))) (.one .slice) w K :=
  Tab.at H tyT (by kernel_rfl) hi (by have := H.len; omega) hK
/-- a row is read later; it stands as it stood -/
theorem row_up {w0 w : World} {h : Hdr} {T : List (List Int)} (H : TabI .i64 w0 h T) (hb : bel w0 w) {i : Nat} {ii : Int} (hi : ii = (i : Int)) (hin : i < T.length) {K : Hdr → Prop} (hK : ∀ (x : Hdr) r, T[i]? = some r → SlI w0 x r → K x) :
    rdp Try.prog (Instr.indexAt 23 (.slice h.1 h.2.1 h.2.2) (.int .i64 ii)) (.one .addr) fun a => rd Try.prog (Instr.loadAt 22 (.pointer (some a))) (.one .slice) w K := by
  have hl := H.len
  obtain ⟨hs, h1, h2, h3⟩ := H.ex
  refine at_hdr tyT (by kernel_rfl) (h1.up hb) hi (by omega) fun x hx => ?_
  obtain ⟨r, hr⟩ : ∃ r, T[i]? = some r := ⟨_, List.getElem?_eq_getElem hin⟩
  exact hK x r hr (h3 i x r hx hr)
theorem cell_mk {w : World} {h : Hdr} {T : List (List Int)} (H : TabI .i64 w h T) {i k : Nat} {ii kk : Int} (hi : ii = (i : Int)) (hk : kk = (k : Int)) (hin : i < T.length) (hkn : ∀ r, T[i]? = some r → k < r.length) {K : Int → Prop} (hK : K (g2 T i k)) :
    rdp Try.prog (Instr.indexAt 23 (.slice h.1 h.2.1 h.2.2) (.int .i64 ii)) (.one .addr) fun a => rd Try.prog (Instr.loadAt 22 (.pointer (some a))) (.one .slice) w fun (x : Hdr) =>
      rdp Try.prog (Instr.indexAt 22 (.slice x.1 x.2.1 x.2.2) (.int .i64 kk)) (.one .addr) fun b => rd Try.prog (Instr.loadAt 3 (.pointer (some b))) (.one (.int .i64)) w K :=
  row_mk H hi hin fun x r hr S => int_mk S hk (hkn r hr) (by rw [g2_row hr] at hK; exact hK)
theorem any_f {α : Type} {p : α → Bool} {l : List α} (h : l.any p = false) : ∀ x ∈ l, p x = false := by simpa using h
theorem any_t {α : Type} {p : α → Bool} {l : List α} (h : l.any p = true) : ∃ x ∈ l, p x = true := by simpa using h
def outB (n : Int) : Bool := decide (Out n)
theorem outsideF (n : Int) (w : World) : call Try.prog 23 [.int .i64 n] (.one (.one .bool)) w (fun x w' => x = outB n ∧ bel w w') := by
  refine call_of (S23_calls n w _ ?_)
  unfold S23
  refine br_dec (fun e => ⟨true, rfl, (decide_eq_true (p := Out n) (.inl e)).symm, bel.refl _⟩) (fun e => ⟨_, rfl, ?_, bel.refl _⟩)
  exact decide_eq_decide.2 ⟨fun q => .inr q, fun q => by omega⟩
theorem fineF (n : Int) (w : World) : call Try.prog 25 [.int .i64 n] (.one (.one .bool)) w (fun x w' => x = !outB n ∧ bel w w') := by
  refine call_of (S25_calls n w _ ?_)
  unfold S25
  refine br_dec (fun e => ⟨_, rfl, ?_, bel.refl _⟩) (fun e => ⟨_, rfl, ?_, bel.refl _⟩)
  · unfold outB; rw [← decide_not]; exact decide_eq_decide.2 ⟨fun q => by omega, fun q => by omega⟩
  · unfold outB; rw [decide_eq_true (p := Out n) (.inl (by omega))]; rfl
theorem hasOut (h : Hdr) (xs : List Int) (w : World) (H : SlI w h xs) :
    call Try.prog 22 [.slice h.1 h.2.1 h.2.2, .func (.func 23) #[] #[]] (.one (.one .bool)) w (fun x w' => x = xs.any outB ∧ bel w w') := by
  refine call_of (S22o_calls h.1 h.2.1 h.2.2 w _ ?_)
  unfold S22o
  refine call_mono (r := .one (.one (.int .i64))) (Q := fun x w' => x = idxI outB xs ∧ bel w w') (call_of (S32o_calls h.1 h.2.1 h.2.2 w _ ?_)) ?_
  · unfold S32o
    exact idx_ints tyI (by kernel_rfl) (fargs := fun x5 => [.int .i64 x5]) H outB (fun j x hx w' hb => outsideF x w')
  · rintro x w2 ⟨rfl, hb⟩
    exact ⟨_, rfl, idxI_any _ _, hb⟩
theorem formed1 (h c : Hdr) (c0 : Addr) (v1 v3 : Value) (w : World) (X0 : Box w c0 [v1, .slice c.1 c.2.1 c.2.2, v3]) :
    call Try.prog 34 [.slice h.1 h.2.1 h.2.2, .pointer (some c0)] (.one (.one .bool)) w (fun x w' => x = ((h.2.1 : Int) != (c.2.1 : Int)) ∧ bel w w') := by
  refine call_of (S34_calls h.1 h.2.1 h.2.2 c0 w _ ?_)
  unfold S34
  refine rd_box (by kernel_rfl) X0 (i := 1) rfl rfl ?_
  exact ⟨_, rfl, rfl, bel.refl _⟩
theorem hasForm (t : Hdr) (T : List (List Int)) (c : Hdr) (c0 : Addr) (v1 v3 : Value) (w : World) (H : TabI .i64 w t T) (X0 : Box w c0 [v1, .slice c.1 c.2.1 c.2.2, v3]) :
    call Try.prog 33 [.slice t.1 t.2.1 t.2.2, .func (.func 34) #[] #[.pointer (some c0)]] (.one (.one .bool)) w (fun x w' => x = T.any (fun q => (q.length : Int) != (c.2.1 : Int)) ∧ bel w w') := by
  refine call_of (S33f_calls t.1 t.2.1 t.2.2 c0 w _ ?_)
  unfold S33f
  refine call_mono (r := .one (.one (.int .i64))) (Q := fun x w' => x = idxI (fun q : List Int => (q.length : Int) != (c.2.1 : Int)) T ∧ bel w w') (call_of (S36f_calls t.1 t.2.1 t.2.2 c0 w _ ?_)) ?_
  · unfold S36f
    exact idx_tab tyT (by kernel_rfl) (fargs := fun x5 => [.slice x5.1 x5.2.1 x5.2.2, .pointer (some c0)]) H (fun q : List Int => (q.length : Int) != (c.2.1 : Int)) (fun j x y hy hr w' hb => by rw [Sl.int hr]; exact formed1 x c c0 v1 v3 w' (X0.up hb))
  · rintro x w2 ⟨rfl, hb⟩
    exact ⟨_, rfl, idxI_any _ _, hb⟩
abbrev FormP (R C : List Int) (T : List (List Int)) : Prop := T.length = R.length ∧ ∀ r ∈ T, r.length = C.length
theorem formedF (r c b t : Hdr) (R C : List Int) (B T : List (List Int)) (w : World) (H : Grid w r c b R C B) (HT : TabI .i64 w t T) :
    call Try.prog 26 [grv r c b, .slice t.1 t.2.1 t.2.2] (.one (.one .bool)) w (fun x w' => (x = true ↔ FormP R C T) ∧ bel w w') := by
  refine call_of (S26_calls r.1 r.2.1 r.2.2 c.1 c.2.1 c.2.2 b.1 b.2.1 b.2.2 t.1 t.2.1 t.2.2 w _ ?_)
  unfold S26
  have hr := H.r.int
  have hc := H.c.int
  have ht := HT.len
  refine wr_box fun x1 w2 X h _ _ => ?_
  replace X : Box w2 x1 (grc r c b) := X
  refine rd_box0 (by kernel_rfl) X rfl rfl ?_
  refine br_eq (fun e => ?_) (fun e => ⟨false, rfl, ⟨(fun q => by cases q), fun q => ?_⟩, h⟩)
  · refine call_mono (hasForm t T c x1 _ _ w2 (HT.up h) X) ?_
    rintro (x : Bool) w5 ⟨hx, h5⟩
    dsimp only at e
    cases x with
    | false =>
      refine ⟨true, rfl, ⟨fun _ => ⟨by omega, fun y hy => ?_⟩, fun _ => rfl⟩, h.trans h5⟩
      have := any_f hx.symm y hy
      simp at this; omega
    | true =>
      refine ⟨false, rfl, ⟨(fun q => by cases q), fun q => ?_⟩, h.trans h5⟩
      obtain ⟨y, hy, q2⟩ := any_t hx.symm
      have := q.2 y hy
      simp at q2; omega
  · have := q.1; dsimp only at e; omega
theorem growF (n : Nat) (w : World) (hn : n ≤ 1000000) : call Try.prog 35 [.slice none 0 0, .int .i64 (n : Int)] (.one (.one .slice)) w (fun (x : Hdr) w' => OwnI w' w.heap.size x [] ∧ bel w w') := by
  refine call_of (S35_calls none 0 0 (n : Int) w _ ?_)
  unfold S35
  refine join_mk (fun _ w' => w = w') (fun K hK => br_dec (fun e => absurd e (by omega)) (fun _ => hK _ _ rfl)) (fun _ w' e _ => ?_)
  subst e
  refine z_i64 (by omega) ?_
  refine z_i64 (by omega) ?_
  refine br_dec (fun e => ?_) (fun e => ⟨((none, 0, 0) : Hdr), rfl, Own.nil _ _ _ _, bel.refl _⟩)
  refine sl_to tyI (m := 0) rfl (Nat.le_refl _) ?_
  obtain ⟨i, hi0, hz0, hz1, hz2⟩ := info_parts tyI.hi
  have hr := Lib.run_append_nil_zeros (P := Try.prog) w 22 3 22 3 i (.int .i64 0) .i64 .i64 tyI.ht Try.underlying3 hi0 hz0 n (by omega) (by omega) (by omega) (by rw [hz2]; omega)
  refine ⟨((some ⟨w.heap.size, 0, none⟩, n, grownCap w n 0 3) : Hdr), w.drew.alloc (.cells (Builtin.zeroCells (Value.int .i64 0).cells n ++ Builtin.zeroCells (Value.int .i64 0).cells (grownCap w n 0 3 - n)) 3), ?_, ?_⟩
  · show (Builtin.append_ #[22, 3] 22 #[.slice none 0 0, .int .i64 ((n : Int) - (((0 : Nat) : Int) - ((0 : Nat) : Int)))]).run Try.prog w = _
    rw [show (n : Int) - (((0 : Nat) : Int) - ((0 : Nat) : Int)) = (n : Int) by omega]
    exact hr
  · refine sl_to tyI (m := 0) rfl (Nat.zero_le _) ?_
    have hge := grownCap_ge w n 0 3
    refine ⟨((some ⟨w.heap.size, 0, none⟩, 0, grownCap w n 0 3) : Hdr), rfl, ⟨by simp [ints], .inr ⟨w.heap.size, _, _, rfl, Nat.le_refl _, heap_alloc_new w.drew _, Nat.zero_le _, grownCap_le_maxLen w n 0 3 (by unfold maxLen; omega), ?_, by simp [ints]⟩⟩, ?_⟩
    · simp only [Array.size_append, size_zeroCells]
      show n * 1 + (grownCap w n 0 3 - n) * 1 = grownCap w n 0 3 * 1
      omega
    · exact Below.alloc (bel_drew w) (Nat.le_refl _) _
end Go.Proofs.Ytphgmfjinihgaaa

/- Valid, of both; sums; comparisons. -/

namespace Go.Proofs.Ytphgmfjinihgaaa
open Go.RowKit Go.Q Go.V

theorem plain_ints (xs : List Int) : plainV (ints .i64 xs) = true := by
  induction xs with
  | nil => rfl
  | cons y ys ih => exact ih
theorem plain_hdrs (hs : List Hdr) : plainV (hs.map hv) = true := by
  induction hs with
  | nil => rfl
  | cons y ys ih => exact ih
theorem ints_add (xs ys : List Int) : ints .i64 xs ++ ints .i64 ys = ints .i64 (xs ++ ys) := by simp [ints]
theorem hdr_some {w : World} {h : Hdr} {xs : List Int} (H : SlI w h xs) (h0 : 0 < xs.length) : ∃ ad, h.1 = some ad := by
  obtain ⟨ad, q, _⟩ := H.at' 0 (.int .i64 xs[0]) (by simp [ints, h0])
  exact ⟨ad, q⟩
theorem S_step {f : Nat → Int} (n : Nat) : S (n + 1) f = S n f + f n := rfl
theorem S_fine {f : Nat → Int} {n : Nat} (h : ∀ i, 0 ≤ f i ∧ f i ≤ 1000000) : 0 ≤ S n f ∧ S n f ≤ (n : Int) * 1000000 := ⟨S_nonneg fun i _ => (h i).1, S_bound fun i _ => (h i).2⟩
theorem sumF (h : Hdr) (xs : List Int) (w : World) (H : SlI w h xs) (hf : ∀ x ∈ xs, ¬ Out x) (hn : xs.length ≤ 1000) :
    call Try.prog 24 [.slice h.1 h.2.1 h.2.2] (.one (.one (.int .i64))) w (fun (x : Int) w' => x = S xs.length (g1 xs) ∧ bel w w') := by
  refine call_of (S24_calls h.1 h.2.1 h.2.2 w _ ?_)
  unfold S24
  have hl := H.int
  refine loop_upA xs.length (fun i a w' => a = S i (g1 xs) ∧ bel w w') ⟨rfl, bel.refl _⟩ fun i a w3 hi ⟨ha, hw⟩ again hag _ => ?_
  refine br_dec (fun e => ?_) (fun e => ?_)
  · dsimp only at e
    refine int_mk (H.up hw) rfl (by omega) ?_
    have b1 := S_fine (n := i) (out_g1 hf)
    have b2 := out_g1 hf i
    refine z_i64 (by dsimp only; omega) ?_
    refine z_i64 (by dsimp only; omega) ?_
    exact hag _ _ (by omega) ⟨by rw [S_step, ha], hw⟩
  · dsimp only at e
    have : i = xs.length := by omega
    subst this
    exact ⟨a, rfl, ha, hw⟩
theorem eq_lists {xs ys : List Int} (hl : xs.length = ys.length) : xs = ys ↔ ∀ i, i < xs.length → g1 xs i = g1 ys i := by
  constructor
  · rintro rfl i _; rfl
  · intro h
    refine List.ext_getElem hl fun i h1 h2 => ?_
    have := h i h1
    rw [g1_at (List.getElem?_eq_getElem h1), g1_at (List.getElem?_eq_getElem h2)] at this
    exact this
theorem equalF (a b : Hdr) (xs ys : List Int) (w : World) (HA : SlI w a xs) (HB : SlI w b ys) :
    call Try.prog 28 [.slice a.1 a.2.1 a.2.2, .slice b.1 b.2.1 b.2.2] (.one (.one .bool)) w (fun (x : Bool) w' => (x = true ↔ xs = ys) ∧ bel w w') := by
  refine call_of (S28_calls a.1 a.2.1 a.2.2 b.1 b.2.1 b.2.2 w _ ?_)
  unfold S28
  have ha := HA.int
  have hb := HB.int
  have hm := HA.le
  refine br_ne (fun e => ⟨false, rfl, ⟨(fun q => by cases q), fun q => ?_⟩, bel.refl _⟩) (fun e => ?_)
  · subst q; omega
  have hl : xs.length = ys.length := by omega
  refine loop_up xs.length (fun i w' => (∀ j, j < i → g1 xs j = g1 ys j) ∧ bel w w') ⟨fun j hj => by omega, bel.refl _⟩ fun i w3 hi ⟨hp, hw⟩ again hag _ => ?_
  refine br_dec (fun e => ?_) (fun e => ?_)
  · dsimp only at e
    refine drw_mk fun w4 h4 _ => ?_
    have h := hw.trans h4
    refine int_mk (HA.up h) rfl (by omega) ?_
    refine int_mk (HB.up h) rfl (by omega) ?_
    refine br_ne (fun e => ⟨false, rfl, ⟨(fun q => by cases q), fun q => ?_⟩, h⟩) (fun e => ?_)
    · subst q; exact absurd rfl e
    refine z_i64 (by dsimp only; omega) ?_
    refine hag _ (by omega) ⟨fun j hj => ?_, h⟩
    rcases Nat.lt_or_ge j i with q | q
    · exact hp j q
    · have : j = i := by omega
      subst this; exact e
  · dsimp only at e
    have : i = xs.length := by omega
    subst this
    exact ⟨true, rfl, ⟨fun _ => (eq_lists hl).2 hp, fun _ => rfl⟩, hw⟩
theorem same16 (a b : Hdr) (xs ys : List Int) (w : World) (HA : SlI w a xs) (HB : SlI w b ys) :
    call Try.prog 17 [.slice a.1 a.2.1 a.2.2, .slice b.1 b.2.1 b.2.2] (.one (.one .bool)) w (fun (x : Bool) w' => (x = true ↔ xs = ys) ∧ bel w w') := by
  refine call_of (S17_calls a.1 a.2.1 a.2.2 b.1 b.2.1 b.2.2 w _ ?_)
  unfold S17
  have ha := HA.int
  have hb := HB.int
  have hm := HA.le
  refine br_ne (fun e => ⟨false, rfl, ⟨(fun q => by cases q), fun q => ?_⟩, bel.refl _⟩) (fun e => ?_)
  · subst q; omega
  have hl : xs.length = ys.length := by omega
  refine loop_up xs.length (fun i w' => (∀ j, j < i → g1 xs j = g1 ys j) ∧ bel w w') ⟨fun j hj => by omega, bel.refl _⟩ fun i w3 hi ⟨hp, hw⟩ again hag _ => ?_
  refine br_dec (fun e => ?_) (fun e => ?_)
  · dsimp only at e
    refine drw_mk fun w4 h4 _ => ?_
    have h := hw.trans h4
    refine int_mk (HA.up h) rfl (by omega) ?_
    refine int_mk (HB.up h) rfl (by omega) ?_
    refine br_ne (fun e => ⟨false, rfl, ⟨(fun q => by cases q), fun q => ?_⟩, h⟩) (fun e => ?_)
    · subst q; exact absurd rfl e
    refine z_i64 (by dsimp only; omega) ?_
    refine hag _ (by omega) ⟨fun j hj => ?_, h⟩
    rcases Nat.lt_or_ge j i with q | q
    · exact hp j q
    · have : j = i := by omega
      subst this; exact e
  · dsimp only at e
    have : i = xs.length := by omega
    subst this
    exact ⟨true, rfl, ⟨fun _ => (eq_lists hl).2 hp, fun _ => rfl⟩, hw⟩
theorem clone21 (s : Hdr) (xs : List Int) (w : World) (H : SlI w s xs) (hn : s.2.1 ≤ 1000000) :
    call Try.prog 29 [.slice s.1 s.2.1 s.2.2] (.one (.one .slice)) w (fun (x : Hdr) w' => OwnI w' w.heap.size x xs ∧ bel w w') := by
  refine call_of (S29_calls s.1 s.2.1 s.2.2 w _ ?_)
  unfold S29
  have hl := H.int
  refine rd_nil tyI ?_
  obtain ⟨a, n, c⟩ := s
  have hl : xs.length = n := hl
  have hn : n ≤ 1000000 := hn
  dsimp only
  cases a with
  | none =>
    refine br_t rfl ?_
    have hn0 := (H.nil' rfl).1
    have hn0 : n = 0 := hn0
    have : xs = [] := List.eq_nil_of_length_eq_zero (by omega)
    subst this
    exact ⟨((none, 0, 0) : Hdr), rfl, Own.nil _ _ _ _, bel.refl _⟩
  | some ad =>
    refine br_f rfl ?_
    refine wr_lit0 tyI fun b w3 O h3 _ _ => ?_
    refine wr_app tyI (O w.heap.size (Nat.le_refl _)) (H.up h3) h3.size rfl (by omega) (plain_ints xs) (by omega) (by unfold maxLen; omega) fun a' c' w5 O5 hg _ _ => ?_
    refine ⟨((a', 0 + n, c') : Hdr), rfl, by simpa using O5, h3.grown hg fun k hk => ?_⟩
    have := (Own.lt (O w.heap.size (Nat.le_refl _)) k hk).1
    omega

theorem flat_take {T : List (List Int)} {i : Nat} {r : List Int} (h : T[i]? = some r) : (T.take (i + 1)).flatten = (T.take i).flatten ++ r := by
  rw [List.take_add_one, h]; simp
theorem flat_le {T : List (List Int)} (i : Nat) : (T.take i).flatten.length ≤ T.flatten.length := by
  have : T.flatten = (T.take i).flatten ++ (T.drop i).flatten := by rw [← List.flatten_append, List.take_append_drop]
  rw [this, List.length_append]; omega
theorem concatF (h : Hdr) (T : List (List Int)) (w : World) (H : TabI .i64 w h T) (hne : ∀ r ∈ T, 0 < r.length) (hn : T.flatten.length ≤ 1000000) (hT : T.length ≤ 1000000) :
    call Try.prog 27 [.slice h.1 h.2.1 h.2.2] (.one (.one .slice)) w (fun (x : Hdr) w' => SlI w' x T.flatten ∧ bel w w') := by
  refine call_of (S27_calls h.1 h.2.1 h.2.2 w _ ?_)
  unfold S27
  have hl := H.len
  refine loop_upA T.length (fun i a w' => a = ((T.take i).flatten.length : Int) ∧ bel w w') ⟨rfl, bel.refl _⟩ fun i a w3 hi ⟨ha, hw⟩ again hag _ => ?_
  refine br_dec (fun e => ?_) (fun e => ?_)
  · dsimp only at e
    refine join_mk (fun s w' => s.1 = ((T.take (i + 1)).flatten.length : Int) ∧ w3 = w') (fun K hK => ?_) (fun s w6 hJ _ => ?_)
    · refine row_mk (H.up hw) rfl (by omega) fun x r hr S => ?_
      have hs := S.int
      have b1 := flat_le (T := T) (i + 1)
      rw [flat_take hr, List.length_append] at b1
      refine z_i64 (by dsimp only; omega) ?_
      refine br_dec (fun e => absurd e (by dsimp only; omega)) (fun _ => hK _ _ ⟨?_, rfl⟩)
      dsimp only
      rw [flat_take hr, List.length_append]; omega
    · obtain ⟨e1, rfl⟩ := hJ
      refine z_i64 (by dsimp only; omega) ?_
      exact hag _ _ (by omega) ⟨e1, hw⟩
  · dsimp only at e
    have hin : i = T.length := by omega
    subst hin
    clear hag again
    rw [List.take_length] at ha
    subst ha
    refine call_mono (growF _ w3 hn) ?_
    rintro (x11 : Hdr) w12 ⟨O, h12⟩
    have s12 := h12.size
    refine loop_upA T.length (fun i (a : Hdr) w' => OwnI w' w3.heap.size a (T.take i).flatten ∧ bel w3 w') ⟨O, h12⟩ fun i a w15 hi ⟨O, h15⟩ again hag _ => ?_
    have hol := O.len
    refine br_dec (fun e => ?_) (fun e => ?_)
    · dsimp only at e
      refine row_mk (H.up (hw.trans h15)) rfl (by omega) fun x r hr S => ?_
      have hs := S.int
      have b1 := flat_le (T := T) (i + 1)
      rw [flat_take hr, List.length_append] at b1
      obtain ⟨ad, had⟩ := hdr_some S (hne r (mem_at hr))
      obtain ⟨xa, xn, xc⟩ := x
      dsimp only at had hs S
      subst had
      refine wr_app tyI O S h15.size rfl (by omega) (plain_ints r) (by dsimp only; omega) (by unfold maxLen; dsimp only; omega) fun a' c' w19 O' hg _ _ => ?_
      refine z_i64 (by dsimp only; omega) ?_
      refine hag _ _ (by omega) ⟨?_, h15.grown hg fun k hk => (O.lt k hk).1⟩
      show Own w19 _ _ 1 a' (a.2.1 + xn) c' (ints .i64 (T.take (i + 1)).flatten)
      rw [flat_take hr, ← ints_add]; exact O'
    · dsimp only at e
      have hin : i = T.length := by omega
      subst hin
      rw [List.take_length] at O
      exact ⟨a, rfl, O.sl, hw.trans h15⟩
theorem fill_two (a b : Hdr) : Instr.fill (fun i => some (i * 1, 1)) ((Array.range (2 * 1)).map ((Value.slice none 0 0).cells[· % (Value.slice none 0 0).cells.size]!)) (#[(0, .slice a.1 a.2.1 a.2.2), (1, .slice b.1 b.2.1 b.2.2)] : Array (Nat × Value)).toList = some #[.slice a.1 a.2.1 a.2.2, .slice b.1 b.2.1 b.2.2] := by kernel_rfl
theorem flat_const {T : List (List Int)} {m : Nat} (h : ∀ r ∈ T, r.length = m) : T.flatten.length = T.length * m := by
  induction T with
  | nil => simp
  | cons r T ih =>
    rw [List.flatten_cons, List.length_append, h r (List.mem_cons_self ..), ih fun q hq => h q (List.mem_cons_of_mem _ hq), List.length_cons, Nat.add_mul]; omega
set_option maxHeartbeats 1600000 in
theorem validC (r c b : Hdr) (R C : List Int) (B : List (List Int)) (w : World) (H : Grid w r c b R C B) :
    call Try.prog 11 [grv r c b] (.one (.one (.int .i64))) w (fun (x : Int) w' => x = validG R C B ∧ bel w w') := by
  refine call_of (S11_calls r.1 r.2.1 r.2.2 c.1 c.2.1 c.2.2 b.1 b.2.1 b.2.2 w _ ?_)
  unfold S11
  have hr := H.r.int
  have hc := H.c.int
  have hb := H.b.len
  refine wr_box fun x1 w2 X h _ _ => ?_
  replace X : Box w2 x1 (grc r c b) := X
  replace H := H.up h
  refine rd_box0 (by kernel_rfl) X rfl rfl ?_
  refine br_eq (fun e => ⟨_, rfl, (validG_8 (by dsimp only at e; omega)).symm, h⟩) (fun e1 => ?_)
  refine rd_box (by kernel_rfl) X (i := 1) rfl rfl ?_
  refine br_eq (fun e => ⟨_, rfl, (validG_8 (by dsimp only at e; omega)).symm, h⟩) (fun e2 => ?_)
  refine rd_box0 (by kernel_rfl) X rfl rfl ?_
  refine br_dec (fun e => ⟨_, rfl, (validG_8 (by dsimp only at e; omega)).symm, h⟩) (fun e3 => ?_)
  refine rd_box (by kernel_rfl) X (i := 1) rfl rfl ?_
  refine br_dec (fun e => ⟨_, rfl, (validG_8 (by dsimp only at e; omega)).symm, h⟩) (fun e4 => ?_)
  dsimp only at e1 e2 e3 e4
  have n8 : ¬ (R.length = 0 ∨ C.length = 0 ∨ 64 < R.length ∨ 64 < C.length) := by omega
  refine rd_boxN X (by kernel_rfl) rfl ?_
  refine rd_box (by kernel_rfl) X (i := 2) rfl rfl ?_
  refine call_mono (formedF r c b b R C B B w2 H H.b) ?_
  rintro (x9 : Bool) w10 ⟨hx9, h'⟩
  replace h := h.trans h'; replace X := X.up h'; replace H := H.up h'; clear h'
  refine br_not (fun e => ⟨_, rfl, (validG_9 n8 (Classical.byContradiction fun q => ?_)).symm, h⟩) (fun e9 => ?_)
  · have := hx9.2 ⟨by omega, fun y hy => Classical.byContradiction fun z => q (.inr ⟨y, hy, z⟩)⟩
    rw [e] at this; cases this
  obtain ⟨f1, f2⟩ := hx9.1 e9
  have n9 : ¬ (B.length ≠ R.length ∨ ∃ r ∈ B, r.length ≠ C.length) := by rintro (q | ⟨y, hy, q⟩); exact q f1; exact q (f2 y hy)
  refine rd_box0 (by kernel_rfl) X rfl rfl ?_
  refine rd_box (by kernel_rfl) X (i := 1) rfl rfl ?_
  refine wr_lit tyT #[hv r, hv c] (fill_two r c) (by omega) (by omega) rfl (by unfold maxLen; omega) fun ad w14 O h14 _ _ => ?_
  replace O := O w10.heap.size (Nat.le_refl _)
  refine rd_box (by kernel_rfl) (X.up h14) (i := 2) rfl rfl ?_
  obtain ⟨hs, s0, s2, s3⟩ := H.b.ex
  have s1 := s0.up h14
  obtain ⟨ba, bn, bc⟩ := b
  have hb : B.length = bn := hb
  have s1 : Sl w14 ba bn bc 1 (hs.map hv) := s1
  obtain ⟨bad, hbad⟩ : ∃ bad, ba = some bad := by
    obtain ⟨y, hy⟩ : ∃ y, hs[0]? = some y := ⟨_, List.getElem?_eq_getElem (by omega)⟩
    obtain ⟨q, hq, _⟩ := s1.at' 0 (hv y) (by simp [hy])
    exact ⟨q, hq⟩
  subst hbad
  refine wr_app tyT O s1 h14.size rfl (by omega) (plain_hdrs hs) (by omega) (by unfold maxLen; omega) fun a' c' w17 O' hg _ _ => ?_
  have h17 : bel w10 w17 := h14.grown hg fun k hk => (O.lt k hk).1
  have TT : TabI .i64 w17 (a', 2 + bn, c') (R :: C :: B) := by
    refine ⟨r :: c :: hs, O'.sl, by simp [s2], fun i x q h1 h2 => ?_⟩
    match i, h1, h2 with
    | 0, h1, h2 => cases h1; cases h2; exact H.r.up h17
    | 1, h1, h2 => cases h1; cases h2; exact H.c.up h17
    | i + 2, h1, h2 =>
      exact (s3 i x q (by simpa using h1) (by simpa using h2)).up h17
  replace X := X.up h17
  have hfl : (R :: C :: B).flatten.length ≤ 1000000 := by
    simp only [List.flatten_cons, List.length_append]
    rw [flat_const f2]
    have : B.length * C.length ≤ 64 * 64 := Nat.mul_le_mul (by omega) (by omega)
    omega
  refine call_mono (concatF _ _ w17 TT (fun q hq => ?_) hfl (by simp only [List.length_cons]; omega)) ?_
  · rcases List.mem_cons.1 hq with rfl | hq
    · omega
    · rcases List.mem_cons.1 hq with rfl | hq
      · omega
      · have := f2 q hq; omega
  rintro (x18 : Hdr) w19 ⟨SS, h19⟩
  refine call_mono (hasOut x18 _ w19 SS) ?_
  rintro (x20 : Bool) w21 ⟨hx20, h21⟩
  have hfin := ((h.trans h17).trans h19).trans h21
  refine br_mk (fun e => ⟨(1 : Int), rfl, (validG_1 n8 n9 ?_).symm, hfin⟩) (fun e => ⟨(0 : Int), rfl, (validG_iff.2 ⟨by omega, by omega, by omega, by omega, f1, f2, ?_, ?_, ?_⟩).symm, hfin⟩)
  · rw [e] at hx20
    obtain ⟨y, hy, q⟩ := any_t hx20.symm
    have q : Out y := of_decide_eq_true q
    obtain ⟨z, hz, hyz⟩ := List.mem_flatten.1 hy
    rcases List.mem_cons.1 hz with rfl | hz
    · exact .inl ⟨y, hyz, q⟩
    · rcases List.mem_cons.1 hz with rfl | hz
      · exact .inr (.inl ⟨y, hyz, q⟩)
      · exact .inr (.inr ⟨z, hz, y, hyz, q⟩)
  all_goals rw [e] at hx20
  · intro y hy
    exact of_decide_eq_false (any_f hx20.symm y (List.mem_flatten.2 ⟨R, List.mem_cons_self .., hy⟩))
  · intro y hy
    exact of_decide_eq_false (any_f hx20.symm y (List.mem_flatten.2 ⟨C, List.mem_cons_of_mem _ (List.mem_cons_self ..), hy⟩))
  · intro z hz y hy
    exact of_decide_eq_false (any_f hx20.symm y (List.mem_flatten.2 ⟨z, List.mem_cons_of_mem _ (List.mem_cons_of_mem _ hz), hy⟩))
set_option maxHeartbeats 1600000 in
theorem valid21 (r c b : Hdr) (R C : List Int) (B : List (List Int)) (w : World) (H : Grid w r c b R C B) :
    call Try.prog 12 [grv r c b] (.one (.one (.int .i64))) w (fun (x : Int) w' => x = validG R C B ∧ bel w w') := by
  refine call_of (S12_calls r.1 r.2.1 r.2.2 c.1 c.2.1 c.2.2 b.1 b.2.1 b.2.2 w _ ?_)
  unfold S12
  have hr := H.r.int
  have hc := H.c.int
  have hb := H.b.len
  refine wr_box fun x1 w2 X h _ _ => ?_
  replace X : Box w2 x1 (grc r c b) := X
  replace H := H.up h
  refine rd_box0 (by kernel_rfl) X rfl rfl ?_
  refine br_dec (fun e => ⟨_, rfl, (validG_8 (by dsimp only at e; omega)).symm, h⟩) (fun e1 => ?_)
  refine rd_box0 (by kernel_rfl) X rfl rfl ?_
  refine br_dec (fun e => ⟨_, rfl, (validG_8 (by dsimp only at e; omega)).symm, h⟩) (fun e2 => ?_)
  refine rd_box (by kernel_rfl) X (i := 1) rfl rfl ?_
  refine br_dec (fun e => ⟨_, rfl, (validG_8 (by dsimp only at e; omega)).symm, h⟩) (fun e3 => ?_)
  refine rd_box (by kernel_rfl) X (i := 1) rfl rfl ?_
  refine br_dec (fun e => ⟨_, rfl, (validG_8 (by dsimp only at e; omega)).symm, h⟩) (fun e4 => ?_)
  dsimp only at e1 e2 e3 e4
  have n8 : ¬ (R.length = 0 ∨ C.length = 0 ∨ 64 < R.length ∨ 64 < C.length) := by omega
  refine rd_box (by kernel_rfl) X (i := 2) rfl rfl ?_
  refine rd_box0 (by kernel_rfl) X rfl rfl ?_
  refine br_ne (fun e => ⟨_, rfl, (validG_9 n8 (.inl (by dsimp only at e; omega))).symm, h⟩) (fun e5 => ?_)
  dsimp only at e5
  refine loop_up B.length (fun i w' => bel w2 w' ∧ ∀ j, j < i → ∀ q, B[j]? = some q → q.length = C.length) ⟨bel.refl _, pre_zero⟩ fun i w11 hi ⟨hw, hp⟩ again hag _ => ?_
  have h11 := h.trans hw
  refine rd_box (by kernel_rfl) (X.up hw) (i := 2) rfl rfl ?_
  refine br_dec (fun e => ?_) (fun e => ?_)
  · dsimp only at e
    refine drw_mk fun w13 h13 _ => ?_
    have h' := hw.trans h13
    refine rd_box (by kernel_rfl) (X.up h') (i := 2) rfl rfl ?_
    refine row_mk (H.b.up h') rfl (by omega) fun x q hq S => ?_
    have hq2 := S.int
    refine rd_box (by kernel_rfl) (X.up h') (i := 1) rfl rfl ?_
    refine br_ne (fun e => ⟨_, rfl, (validG_9 n8 (.inr ⟨q, mem_at hq, by dsimp only at e; omega⟩)).symm, h.trans h'⟩) (fun e6 => ?_)
    refine z_i64 (by dsimp only; omega) ?_
    exact hag _ (by omega) ⟨h', pre_step hp hq (by dsimp only at e6; omega)⟩
  dsimp only at e
  have hin : i = B.length := by omega
  subst hin
  clear hag again
  have f2 := pre_all hp (Nat.le_refl _)
  have f1 : B.length = R.length := by omega
  have n9 : ¬ (B.length ≠ R.length ∨ ∃ r ∈ B, r.length ≠ C.length) := by rintro (q | ⟨y, hy, q⟩); exact q f1; exact q (f2 y hy)
  have bad : ∀ {w' : World}, bel w w' → ((∃ x ∈ R, Out x) ∨ (∃ x ∈ C, Out x) ∨ OutT B) → ∃ x : Int, Value.int .i64 1 = (RS.one (.one (.int .i64))).val x ∧ x = validG R C B ∧ bel w w' := fun hb q => ⟨(1 : Int), rfl, (validG_1 n8 n9 q).symm, hb⟩
  refine loop_up R.length (fun i w' => bel w2 w' ∧ ∀ j, j < i → ¬ Out (g1 R j) ∧ ∀ k, k < C.length → ¬ Out (g1 C k) ∧ ¬ Out (g2 B j k)) ⟨hw, fun j hj => by omega⟩ fun i w21 hi ⟨hw, hp⟩ again hag _ => ?_
  have h21 := h.trans hw
  have memR : ∀ {j}, j < R.length → g1 R j ∈ R := fun {j} hj => by rw [g1_at (List.getElem?_eq_getElem hj)]; exact List.getElem_mem hj
  have memC : ∀ {j}, j < C.length → g1 C j ∈ C := fun {j} hj => by rw [g1_at (List.getElem?_eq_getElem hj)]; exact List.getElem_mem hj
  have memB : ∀ {j k}, j < R.length → k < C.length → ∃ q ∈ B, g2 B j k ∈ q := fun {j k} hj hk => by
    have hj' : j < B.length := by omega
    have hq := List.getElem?_eq_getElem hj'
    have hl := f2 _ (mem_at hq)
    refine ⟨_, mem_at hq, ?_⟩
    rw [g2_row hq, g1_at (List.getElem?_eq_getElem (show k < B[j].length by omega))]; exact List.getElem_mem _
  refine rd_box0 (by kernel_rfl) (X.up hw) rfl rfl ?_
  refine br_dec (fun e => ?_) (fun e => ?_)
  · dsimp only at e
    refine rd_box0 (by kernel_rfl) (X.up hw) rfl rfl ?_
    refine int_mk (H.r.up hw) rfl (by omega) ?_
    refine call_mono (fineF _ w21) ?_
    rintro (x26 : Bool) w27 ⟨hx, h27⟩
    refine br_not (fun e => bad (h21.trans h27) (.inl ⟨_, memR (j := i) (by omega), ?_⟩)) (fun e26 => ?_)
    · rw [e] at hx; exact of_decide_eq_true (p := Out (g1 R i)) (by cases q : outB (g1 R i) with | true => exact q | false => rw [q] at hx; cases hx)
    have gR : ¬ Out (g1 R i) := of_decide_eq_false (p := Out (g1 R i)) (by cases q : outB (g1 R i) with | false => exact q | true => rw [q, e26] at hx; cases hx)
    refine loop_up C.length (fun k w' => bel w2 w' ∧ ∀ j, j < k → ¬ Out (g1 C j) ∧ ¬ Out (g2 B i j)) ⟨hw.trans h27, fun j hj => by omega⟩ fun k w30 hk ⟨hw, hpk⟩ again2 hag2 _ => ?_
    refine rd_box (by kernel_rfl) (X.up hw) (i := 1) rfl rfl ?_
    refine br_dec (fun e => ?_) (fun e => ?_)
    · dsimp only at e
      refine rd_box (by kernel_rfl) (X.up hw) (i := 1) rfl rfl ?_
      refine int_mk (H.c.up hw) rfl (by omega) ?_
      refine call_mono (fineF _ w30) ?_
      rintro (x35 : Bool) w36 ⟨hx, h36⟩
      refine br_not (fun e => bad (h.trans (hw.trans h36)) (.inr (.inl ⟨_, memC (j := k) (by omega), ?_⟩))) (fun e35 => ?_)
      · rw [e] at hx; exact of_decide_eq_true (p := Out (g1 C k)) (by cases q : outB (g1 C k) with | true => exact q | false => rw [q] at hx; cases hx)
      have gC : ¬ Out (g1 C k) := of_decide_eq_false (p := Out (g1 C k)) (by cases q : outB (g1 C k) with | false => exact q | true => rw [q, e35] at hx; cases hx)
      have h' := hw.trans h36
      refine rd_box (by kernel_rfl) (X.up h') (i := 2) rfl rfl ?_
      refine cell_mk (H.b.up h') rfl rfl (by omega) (fun q hq => by have := f2 q (mem_at hq); omega) ?_
      refine call_mono (fineF _ w36) ?_
      rintro (x42 : Bool) w43 ⟨hx, h43⟩
      refine br_not (fun e => bad (h.trans (h'.trans h43)) (.inr (.inr ?_))) (fun e42 => ?_)
      · obtain ⟨q, hq, hm⟩ := memB (j := i) (k := k) (by omega) (by omega)
        refine ⟨q, hq, _, hm, ?_⟩
        rw [e] at hx; exact of_decide_eq_true (p := Out (g2 B i k)) (by cases q : outB (g2 B i k) with | true => exact q | false => rw [q] at hx; cases hx)
      have gB : ¬ Out (g2 B i k) := of_decide_eq_false (p := Out (g2 B i k)) (by cases q : outB (g2 B i k) with | false => exact q | true => rw [q, e42] at hx; cases hx)
      refine z_i64 (by dsimp only; omega) ?_
      refine hag2 _ (by omega) ⟨h'.trans h43, fun j hj => ?_⟩
      rcases Nat.lt_or_ge j k with q | q
      · exact hpk j q
      · have : j = k := by omega
        subst this; exact ⟨gC, gB⟩
    · dsimp only at e
      refine z_i64 (by dsimp only; omega) ?_
      refine hag _ (by omega) ⟨hw, fun j hj => ?_⟩
      rcases Nat.lt_or_ge j i with q | q
      · exact hp j q
      · have : j = i := by omega
        subst this; exact ⟨gR, fun k' hk' => hpk k' (by omega)⟩
  · dsimp only at e
    have hin : i = R.length := by omega
    subst hin
    refine ⟨(0 : Int), rfl, (validG_iff.2 ⟨by omega, by omega, by omega, by omega, f1, f2, fun y hy => ?_, fun y hy => ?_, fun z hz y hy => ?_⟩).symm, h21⟩
    · obtain ⟨j, hj, rfl⟩ := List.mem_iff_getElem.1 hy
      have := (hp j hj).1
      rwa [g1_at (List.getElem?_eq_getElem hj)] at this
    · obtain ⟨j, hj, rfl⟩ := List.mem_iff_getElem.1 hy
      have := ((hp 0 (by omega)).2 j hj).1
      rwa [g1_at (List.getElem?_eq_getElem hj)] at this
    · obtain ⟨j, hj, rfl⟩ := List.mem_iff_getElem.1 hz
      obtain ⟨k, hk, rfl⟩ := List.mem_iff_getElem.1 hy
      have hl := f2 _ hz
      have := ((hp j (by omega)).2 k (by omega)).2
      rwa [g2_at (List.getElem?_eq_getElem hj) (List.getElem?_eq_getElem hk)] at this
end Go.Proofs.Ytphgmfjinihgaaa

/- Margins, of both. -/

namespace Go.Proofs.Ytphgmfjinihgaaa
open Go.RowKit Go.Q Go.V

/-- a list by its places -/
def mk (m : Nat) (f : Nat → Int) : List Int := (List.range m).map f
theorem mk_len (m : Nat) (f : Nat → Int) : (mk m f).length = m := by simp [mk]
theorem mk_at {m : Nat} {f : Nat → Int} {k : Nat} (h : k < m) : (mk m f)[k]? = some (f k) := by simp [mk, h]
theorem mk_g1 {m : Nat} {f : Nat → Int} {k : Nat} (h : k < m) : g1 (mk m f) k = f k := g1_at (mk_at h)
theorem mk_congr {m : Nat} {f g : Nat → Int} (h : ∀ k, k < m → f k = g k) : mk m f = mk m g := by
  unfold mk; exact List.map_congr_left fun k hk => h k (List.mem_range.1 hk)
theorem mk_set {m : Nat} {f : Nat → Int} {k : Nat} {v : Int} : (mk m f).set k v = mk m fun j => if j = k then v else f j := by
  refine List.ext_getElem? fun j => ?_
  rw [List.getElem?_set]
  by_cases hj : k = j
  · subst hj
    by_cases h : k < m
    · rw [if_pos rfl, mk_len, if_pos h, mk_at h, if_pos rfl]
    · rw [if_pos rfl, mk_len, if_neg h, List.getElem?_eq_none (by rw [mk_len]; omega)]
  · rw [if_neg hj]
    by_cases h : j < m
    · rw [mk_at h, mk_at h, if_neg (fun e => hj e.symm)]
    · rw [List.getElem?_eq_none (by rw [mk_len]; omega), List.getElem?_eq_none (by rw [mk_len]; omega)]
theorem mk_snoc (m : Nat) (f : Nat → Int) : mk (m + 1) f = mk m f ++ [f m] := by simp [mk, List.range_succ]
theorem mk_zero (m : Nat) : List.replicate m (0 : Int) = mk m fun _ => 0 := by
  refine List.ext_getElem? fun j => ?_
  by_cases h : j < m
  · rw [mk_at h, List.getElem?_replicate, if_pos h]
  · rw [List.getElem?_eq_none (by simp; omega), List.getElem?_eq_none (by rw [mk_len]; omega)]
theorem rsums_mk (T : List (List Int)) (m : Nat) : rsums T m = mk T.length fun i => S m (g2 T i) := rfl
theorem csums_mk (T : List (List Int)) (m : Nat) : csums T m = mk m fun k => S T.length fun i => g2 T i k := rfl
def wd (T : List (List Int)) : Nat := (T.getD 0 []).length
theorem wd_at {T : List (List Int)} {r : List Int} (h : T[0]? = some r) : wd T = r.length := by unfold wd; rw [List.getD_eq_getElem?_getD, h]; rfl
abbrev MT := Hdr × Hdr × Bool × Unit
abbrev rMT : RS := .many [.one .slice, .one .slice, .one .bool]
/-- what Margins returns -/
def MargR (T : List (List Int)) (x : MT) (w : World) : Prop :=
  (x.2.2.1 = true → MargOk T (wd T) ∧ SlI w x.1 (rsums T (wd T)) ∧ SlI w x.2.1 (csums T (wd T))) ∧ (x.2.2.1 = false → ¬ MargOk T (wd T) ∧ x.1 = (none, 0, 0) ∧ x.2.1 = (none, 0, 0))
theorem MargR.up {T : List (List Int)} {x : MT} {w w' : World} (h : MargR T x w) (hb : bel w w') : MargR T x w' :=
  ⟨fun e => ⟨(h.1 e).1, (h.1 e).2.1.up hb, (h.1 e).2.2.up hb⟩, h.2⟩
theorem MargR.no {T : List (List Int)} {w w' : World} (h : ¬ MargOk T (wd T)) (hb : bel w w') : ∃ x : MT, Value.tuple #[.slice none 0 0, .slice none 0 0, .bool false] = rMT.val x ∧ MargR T x w' ∧ bel w w' :=
  ⟨((none, 0, 0), (none, 0, 0), false, ()), rfl, ⟨(fun e => by cases e), fun _ => ⟨h, rfl, rfl⟩⟩, hb⟩
/-- the same, owned -/
def MargO (T : List (List Int)) (b : Nat) (x : MT) (w : World) : Prop :=
  (x.2.2.1 = true → MargOk T (wd T) ∧ OwnI w b x.1 (rsums T (wd T)) ∧ OwnI w b x.2.1 (csums T (wd T)) ∧ ∀ k, blk x.1.1 = some k → blk x.2.1.1 ≠ some k) ∧ (x.2.2.1 = false → ¬ MargOk T (wd T) ∧ x.1 = (none, 0, 0) ∧ x.2.1 = (none, 0, 0))
theorem MargO.r {T : List (List Int)} {b : Nat} {x : MT} {w : World} (h : MargO T b x w) : MargR T x w := ⟨fun e => ⟨(h.1 e).1, (h.1 e).2.1.sl, (h.1 e).2.2.1.sl⟩, h.2⟩
theorem MargO.no {T : List (List Int)} {b : Nat} {w w' : World} (h : ¬ MargOk T (wd T)) (hb : bel w w') : ∃ x : MT, Value.tuple #[.slice none 0 0, .slice none 0 0, .bool false] = rMT.val x ∧ MargO T b x w' ∧ bel w w' :=
  ⟨((none, 0, 0), (none, 0, 0), false, ()), rfl, ⟨(fun e => by cases e), fun _ => ⟨h, rfl, rfl⟩⟩, hb⟩
theorem zeros_eq (n : Nat) : (madeCells (Value.int .i64 0).cells (n * 1)).toList = ints .i64 (mk n fun _ => 0) := by rw [Nat.mul_one, ← mk_zero]; exact made_int .i64 n
theorem g2_fine {T : List (List Int)} {n : Nat} (h : ∀ j, j < n → ∀ r, T[j]? = some r → ∀ x ∈ r, ¬ Out x) {j k : Nat} (hj : j < n) : 0 ≤ g2 T j k ∧ g2 T j k ≤ 1000000 := by
  unfold g2
  rw [List.getD_eq_getElem?_getD]
  cases hx : T[j]? with
  | none => exact out_g1 (by simp) k
  | some r => exact out_g1 (h j hj r hx) k
theorem S_fine' {f : Nat → Int} {n : Nat} (h : ∀ i, i < n → 0 ≤ f i ∧ f i ≤ 1000000) : 0 ≤ S n f ∧ S n f ≤ (n : Int) * 1000000 := ⟨S_nonneg fun i hi => (h i hi).1, S_bound fun i hi => (h i hi).2⟩
set_option maxHeartbeats 3200000 in
theorem margC (t : Hdr) (T : List (List Int)) (w : World) (H : TabI .i64 w t T) :
    call Try.prog 9 [.slice t.1 t.2.1 t.2.2] rMT w (fun (x : MT) w' => MargR T x w' ∧ bel w w') := by
  refine call_of (S9_calls t.1 t.2.1 t.2.2 w _ ?_)
  unfold S9
  have ht := H.len
  refine br_eq (fun e => MargR.no (fun q => by have := q.t0; omega) (bel.refl _)) (fun e1 => ?_)
  refine br_dec (fun e => MargR.no (fun q => by have := q.t64; omega) (bel.refl _)) (fun e2 => ?_)
  refine row_mk H (i := 0) rfl (by omega) fun x r0 hr0 S0 => ?_
  have hwd := wd_at hr0
  have hx := S0.int
  generalize hm : wd T = m at hwd
  refine br_eq (fun e => MargR.no (fun q => by have := q.m0; omega) (bel.refl _)) (fun e3 => ?_)
  refine row_mk H (i := 0) rfl (by omega) fun x4 r4 hr4 S4 => ?_
  rw [hr0] at hr4; cases hr4
  have hx4 := S4.int
  refine br_dec (fun e => MargR.no (fun q => by have := q.m64; omega) (bel.refl _)) (fun e4 => ?_)
  refine row_mk H (i := 0) rfl (by omega) fun x6 r6 hr6 S6 => ?_
  rw [hr0] at hr6; cases hr6
  have hx6 := S6.int
  have e6 : x6.2.1 = m := by omega
  rw [e6]
  refine wr_make tyI m rfl rfl (by omega) (by unfold maxLen; omega) fun cd w8 O h8 hcd _ => ?_
  replace O := O w.heap.size (Nat.le_refl _)
  rw [zeros_eq] at O
  refine loop_upA T.length (fun i (a : Hdr) w' => bel w w' ∧ OwnI w' w.heap.size a (mk i fun j => S m (g2 T j)) ∧ OwnI w' w.heap.size (some cd, m, m) (mk m fun k => S i fun j => g2 T j k) ∧ (∀ k, blk a.1 = some k → k ≠ cd.block) ∧ (∀ j, j < i → ∀ r, T[j]? = some r → r.length = m) ∧ ∀ j, j < i → ∀ r, T[j]? = some r → ∀ x ∈ r, ¬ Out x)
    ⟨h8, Own.nil _ _ _ _, O, (fun k hk => by cases hk), fun j hj => by omega, fun j hj => by omega⟩ fun i a w11 hi ⟨hw, OA, OC, hne, hp, hq⟩ again hag _ => ?_
  have hal := OA.len
  rw [mk_len] at hal
  refine br_dec (fun e => ?_) (fun e => ?_)
  · dsimp only at e
    refine row_up H hw rfl (by omega) fun x13 r hr S13 => ?_
    have h13 := S13.int
    refine br_ne (fun e => MargR.no (fun q => ?_) hw) (fun e5 => ?_)
    · have := q.row r (mem_at hr); dsimp only at e; omega
    dsimp only at e5
    have e5m : r.length = m := by omega
    refine call_mono (hasOut x13 r w11 (S13.up hw)) ?_
    rintro (x14 : Bool) w15 ⟨hx14, h15⟩
    refine br_mk (fun e => MargR.no (fun q => ?_) (hw.trans h15)) (fun e14 => ?_)
    · rw [e] at hx14
      obtain ⟨y, hy, q2⟩ := any_t hx14.symm
      exact q.fine r (mem_at hr) y hy (of_decide_eq_true q2)
    rw [e14] at hx14
    have fine : ∀ y ∈ r, ¬ Out y := fun y hy => of_decide_eq_false (any_f hx14.symm y hy)
    refine call_mono (sumF x13 r w15 (S13.up (hw.trans h15)) fine (by omega)) ?_
    rintro (x16 : Int) w17 ⟨hx16, h17⟩
    have h' := (hw.trans h15).trans h17
    replace OA : OwnI w17 w.heap.size a _ := Own.kept OA (h15.trans h17)
    replace OC : OwnI w17 w.heap.size (some cd, m, m) _ := Own.kept OC (h15.trans h17)
    have l17 := OC.lt cd.block rfl
    refine wr_app1 tyI OA h'.size rfl (by omega) (by omega) rfl rfl (by omega) (by unfold maxLen; omega) fun a' c' w21 O' hg hnew _ => ?_
    have h21 : bel w w21 := h'.grown hg fun k hk => (OA.lt k hk).1
    have OC21 : OwnI w21 w.heap.size (some cd, m, m) (mk m fun k => S i fun j => g2 T j k) := Own.keptBy OC hg (.inr fun q => hne cd.block q.symm rfl)
    have hne' : ∀ k, blk a' = some k → k ≠ cd.block := fun k hk => by
      rcases hnew with q | q
      · exact hne k (by rw [← q]; exact hk)
      · have := q k hk; omega
    have S21 := S13.up h21
    refine loop_up m (fun k w' => bel w w' ∧ OwnI w' w.heap.size (a', a.2.1 + 1, c') (mk (i + 1) fun j => S m (g2 T j)) ∧ OwnI w' w.heap.size (some cd, m, m) (mk m fun k' => (S i fun j => g2 T j k') + if k' < k then g2 T i k' else 0))
      ⟨h21, ?_, ?_⟩ fun k w24 hk ⟨hw, OA, OC⟩ again2 hag2 _ => ?_
    · have : OwnI w21 w.heap.size (a', a.2.1 + 1, c') (mk i (fun j => S m (g2 T j)) ++ [x16]) := by
        show Own w21 _ _ 1 a' (a.2.1 + 1) c' (ints .i64 (_ ++ [x16]))
        rw [← ints_add]; exact O'
      rw [mk_snoc]
      have e16 : x16 = S m (g2 T i) := by rw [hx16, ← e5m]; exact S_congr fun k _ => (g2_row hr k).symm
      rw [← e16]; exact this
    · rw [mk_congr (g := fun k => S i fun j => g2 T j k) fun k _ => by simp]; exact OC21
    have gi := fun k => g2_fine (T := T) (n := i + 1) (fun j hj r' hr' => by
      rcases Nat.lt_or_ge j i with q | q
      · exact hq j q r' hr'
      · have : j = i := by omega
        subst this; rw [hr] at hr'; cases hr'; exact fine) (j := i) (k := k) (by omega)
    have gs := fun k => S_fine' (f := fun j => g2 T j k) (n := i) fun j hj => g2_fine hq hj
    refine br_dec (fun e => ?_) (fun e => ?_)
    · dsimp only at e
      refine int_mk (S13.up hw) rfl (by omega) ?_
      refine int_mk OC.sl rfl (by rw [mk_len]; omega) ?_
      rw [mk_g1 (by omega), if_neg (by omega), Int.add_zero, ← g2_row hr]
      have b1 := gi k
      have b2 := gs k
      refine z_i64 (by omega) ?_
      refine set_mk tyI OC rfl (show k < m by omega) rfl fun w31 OC' hg31 _ => ?_
      rw [ints_set, mk_set] at OC'
      refine z_i64 (by dsimp only; omega) ?_
      refine hag2 _ (by omega) ⟨hw.grown hg31 (fun b hb => by have := blk_eq hb; omega), Own.putNew OA hg31 hne', ?_⟩
      rw [mk_congr (g := fun j => if j = k then (S i fun j' => g2 T j' k) + g2 T i k else (S i fun j' => g2 T j' j) + if j < k then g2 T i j else 0) fun j _ => ?_]
      · exact OC'
      · by_cases hj : j = k
        · subst hj; rw [if_pos rfl, if_pos (by omega)]
        · rw [if_neg hj]
          by_cases hjk : j < k
          · rw [if_pos hjk, if_pos (by omega)]
          · rw [if_neg hjk, if_neg (by omega)]
    · dsimp only at e
      have hkm : k = m := by omega
      subst hkm
      refine z_i64 (by dsimp only; omega) ?_
      refine hag _ _ (by omega) ⟨hw, OA, ?_, hne', fun j hj r' hr' => ?_, fun j hj r' hr' => ?_⟩
      · rw [mk_congr (g := fun k' => (S i fun j => g2 T j k') + if k' < k then g2 T i k' else 0) fun j hj => ?_]
        · exact OC
        · rw [if_pos hj]; rfl
      · rcases Nat.lt_or_ge j i with q | q
        · exact hp j q r' hr'
        · have : j = i := by omega
          subst this; rw [hr] at hr'; cases hr'; omega
      · rcases Nat.lt_or_ge j i with q | q
        · exact hq j q r' hr'
        · have : j = i := by omega
          subst this; rw [hr] at hr'; cases hr'; exact fine
  · dsimp only at e
    have hin : i = T.length := by omega
    subst hin
    refine ⟨(a, (some cd, m, m), true, ()), rfl, ⟨fun _ => ⟨⟨by omega, by omega, by omega, by omega, ?_, ?_⟩, ?_, ?_⟩, (fun e => by cases e)⟩, hw⟩
    · intro r hr
      obtain ⟨j, hj, rfl⟩ := List.mem_iff_getElem.1 hr
      rw [hm]; exact hp j hj _ (List.getElem?_eq_getElem hj)
    · intro r hr
      obtain ⟨j, hj, rfl⟩ := List.mem_iff_getElem.1 hr
      exact hq j hj _ (List.getElem?_eq_getElem hj)
    · rw [hm]; exact OA.sl
    · rw [hm]; exact OC.sl
theorem out_of {x : Bool} {n : Int} (h : x = !outB n) : (x = false → Out n) ∧ (x = true → ¬ Out n) := by
  unfold outB at h
  by_cases q : Out n
  · rw [decide_eq_true q] at h; exact ⟨fun _ => q, (fun e => by rw [h] at e; cases e)⟩
  · rw [decide_eq_false q] at h; exact ⟨(fun e => by rw [h] at e; cases e), fun _ => q⟩
set_option maxHeartbeats 3200000 in
theorem marg21O (t : Hdr) (T : List (List Int)) (w : World) (H : TabI .i64 w t T) :
    call Try.prog 10 [.slice t.1 t.2.1 t.2.2] rMT w (fun (x : MT) w' => MargO T w.heap.size x w' ∧ bel w w') := by
  refine call_of (S10_calls t.1 t.2.1 t.2.2 w _ ?_)
  unfold S10
  have ht := H.len
  refine br_dec (fun e => MargO.no (fun q => by have := q.t0; omega) (bel.refl _)) (fun e1 => ?_)
  refine br_dec (fun e => MargO.no (fun q => by have := q.t64; omega) (bel.refl _)) (fun e2 => ?_)
  refine row_mk H (i := 0) rfl (by omega) fun x r0 hr0 S0 => ?_
  have hwd := wd_at hr0
  have hx := S0.int
  generalize hm : wd T = m at hwd
  refine br_dec (fun e => MargO.no (fun q => by have := q.m0; omega) (bel.refl _)) (fun e3 => ?_)
  refine row_mk H (i := 0) rfl (by omega) fun x4 r4 hr4 S4 => ?_
  rw [hr0] at hr4; cases hr4
  have hx4 := S4.int
  refine br_dec (fun e => MargO.no (fun q => by have := q.m64; omega) (bel.refl _)) (fun e4 => ?_)
  refine drw_mk fun w5 h5 _ => ?_
  refine flEx_mk (fun i _ v w' => (i = 2 → ∃ ad, v = .slice (some ad) t.2.1 t.2.1 ∧ OwnI w' w.heap.size (some ad, t.2.1, t.2.1) (mk T.length fun _ => 0)) ∧ (i = 7 → ∃ ad, v = .slice (some ad) m m ∧ OwnI w' w.heap.size (some ad, m, m) (mk m fun _ => 0)))
    (fun _ _ _ _ _ h hb => ⟨fun e => by obtain ⟨a, q1, q2⟩ := h.1 e; exact ⟨a, q1, Own.kept q2 hb⟩, fun e => by obtain ⟨a, q1, q2⟩ := h.2 e; exact ⟨a, q1, Own.kept q2 hb⟩⟩) ?_
  refine flc_mk (fun w7 hb _ => wr_make tyI t.2.1 rfl rfl (by omega) (by unfold maxLen; omega) fun ad w' O hb' _ _ => ⟨hb', fun _ => ⟨ad, rfl, ?_⟩, fun e => by omega⟩) (fun (x11 : Hdr) => ?_)
  · have := O w.heap.size (by have := (h5.trans hb).size; omega)
    rw [zeros_eq] at this
    rw [show mk T.length (fun _ => (0 : Int)) = mk t.2.1 fun _ => 0 by rw [ht]]; exact this
  refine row_mk (H.up h5) (i := 0) rfl (by omega) fun x13 r4 hr4 S13 => ?_
  rw [hr0] at hr4; cases hr4
  have hx13 := S13.int
  rw [show x13.2.1 = m by omega]
  refine flc_mk (fun w7 hb _ => wr_make tyI m rfl rfl (by omega) (by unfold maxLen; omega) fun ad w' O hb' _ _ => ⟨hb', fun e => by omega, fun _ => ⟨ad, rfl, ?_⟩⟩) (fun (x18 : Hdr) => ?_)
  · have := O w.heap.size (by have := (h5.trans hb).size; omega)
    rw [zeros_eq] at this; exact this
  refine flend_mk fun w19 h19 hf => ?_
  obtain ⟨⟨f7, f2, _⟩, hpw⟩ := hf
  obtain ⟨cd, q1, OC⟩ := f7.2 rfl
  obtain ⟨ra, q2, OR⟩ := f2.1 rfl
  have q1 : x18 = (some cd, m, m) := sl_inj q1
  have q2 : x11 = (some ra, t.2.1, t.2.1) := sl_inj q2
  subst q1 q2
  have hne : cd.block ≠ ra.block := by
    intro e
    have := (List.pairwise_cons.1 hpw).1 _ (List.mem_cons_self ..)
    exact this (by show some cd.block = some ra.block; rw [e])
  replace h19 := h5.trans h19
  refine loop_up T.length (fun i w' => bel w w' ∧ OwnI w' w.heap.size (some ra, t.2.1, t.2.1) (mk T.length fun j => if j < i then S m (g2 T j) else 0) ∧ OwnI w' w.heap.size (some cd, m, m) (mk m fun k => S i fun j => g2 T j k) ∧ (∀ j, j < i → ∀ r, T[j]? = some r → r.length = m) ∧ ∀ j, j < i → ∀ r, T[j]? = some r → ∀ x ∈ r, ¬ Out x)
    ⟨h19, ?_, OC, fun j hj => by omega, fun j hj => by omega⟩ fun i w23 hi ⟨hw, OR, OC, hp, hq⟩ again hag _ => ?_
  · rw [mk_congr (g := fun _ => 0) fun j _ => by rw [if_neg (by omega)]]; exact OR
  refine br_dec (fun e => ?_) (fun e => ?_)
  · dsimp only at e
    refine row_up H hw rfl (by omega) fun x25 r hr S25 => ?_
    have h25 := S25.int
    refine br_ne (fun e => MargO.no (fun q => ?_) hw) (fun e5 => ?_)
    · have := q.row r (mem_at hr); dsimp only at e; omega
    dsimp only at e5
    have e5m : r.length = m := by omega
    refine loop_up m (fun k w' => bel w w' ∧ OwnI w' w.heap.size (some ra, t.2.1, t.2.1) (mk T.length fun j => if j < i then S m (g2 T j) else if j = i then S k (g2 T i) else 0) ∧ OwnI w' w.heap.size (some cd, m, m) (mk m fun k' => (S i fun j => g2 T j k') + if k' < k then g2 T i k' else 0) ∧ ∀ k', k' < k → ¬ Out (g2 T i k'))
      ⟨hw, ?_, ?_, fun k' hk' => by omega⟩ fun k w28 hk ⟨hw, OR, OC, hok⟩ again2 hag2 _ => ?_
    · rw [mk_congr (g := fun j => if j < i then S m (g2 T j) else 0) fun j _ => ?_]
      · exact OR
      · by_cases q : j < i
        · rw [if_pos q, if_pos q]
        · rw [if_neg q, if_neg q]; split <;> rfl
    · rw [mk_congr (g := fun k' => S i fun j => g2 T j k') fun j _ => by simp]; exact OC
    refine br_dec (fun e => ?_) (fun e => ?_)
    · dsimp only at e
      refine cell_mk (H.up hw) rfl rfl (by omega) (fun r' hr' => by rw [hr] at hr'; cases hr'; omega) ?_
      refine call_mono (fineF _ w28) ?_
      rintro (x33 : Bool) w34 ⟨hx33, h34⟩
      obtain ⟨o1, o2⟩ := out_of hx33
      have hbad : Out (g2 T i k) → ¬ MargOk T (wd T) := fun q z => by
        have := z.fine r (mem_at hr) (g2 T i k) (by rw [g2_row hr, g1_at (List.getElem?_eq_getElem (show k < r.length by omega))]; exact List.getElem_mem _)
        exact this q
      refine br_not (fun e => MargO.no (hbad (o1 e)) (hw.trans h34)) (fun e33 => ?_)
      have gk := o2 e33
      refine drw_mk fun w35 h35 _ => ?_
      have h' := (hw.trans h34).trans h35
      replace OR : OwnI w35 w.heap.size (some ra, t.2.1, t.2.1) _ := Own.kept OR (h34.trans h35)
      replace OC : OwnI w35 w.heap.size (some cd, m, m) _ := Own.kept OC (h34.trans h35)
      have hok' : ∀ k', k' < k + 1 → ¬ Out (g2 T i k') := fun k' hk' => by
        rcases Nat.lt_or_ge k' k with q | q
        · exact hok k' q
        · have : k' = k := by omega
          subst this; exact gk
      have b1 := S_fine' (f := g2 T i) (n := k) fun j hj => by have := hok j hj; omega
      have b2 := S_fine' (f := fun j => g2 T j k) (n := i) fun j hj => g2_fine hq hj
      refine int_mk OR.sl rfl (by rw [mk_len]; omega) ?_
      rw [mk_g1 (by omega), if_neg (by omega), if_pos rfl]
      refine cell_mk (H.up h') rfl rfl (by omega) (fun r' hr' => by rw [hr] at hr'; cases hr'; omega) ?_
      refine z_i64 (by omega) ?_
      refine set_mk tyI OR rfl (show i < t.2.1 by omega) rfl fun w44 OR hg44 _ => ?_
      rw [ints_set, mk_set] at OR
      have h44 : bel w w44 := h'.grownAt (b := ra.block) hg44 (OR.lt ra.block rfl).1
      replace OC : OwnI w44 w.heap.size (some cd, m, m) _ := Own.putNew (k := ra.block) OC hg44 (fun b hb => by have := blk_eq hb; omega)
      refine drw_mk fun w45 h45 _ => ?_
      replace OR : OwnI w45 w.heap.size (some ra, t.2.1, t.2.1) _ := Own.kept OR h45
      replace OC : OwnI w45 w.heap.size (some cd, m, m) _ := Own.kept OC h45
      have h45 := h44.trans h45
      refine int_mk OC.sl rfl (by rw [mk_len]; omega) ?_
      rw [mk_g1 (by omega), if_neg (by omega), Int.add_zero]
      refine cell_mk (H.up h45) rfl rfl (by omega) (fun r' hr' => by rw [hr] at hr'; cases hr'; omega) ?_
      refine z_i64 (by omega) ?_
      refine set_mk tyI OC rfl (show k < m by omega) rfl fun w54 OC hg54 _ => ?_
      rw [ints_set, mk_set] at OC
      refine z_i64 (by dsimp only; omega) ?_
      refine hag2 _ (by omega) ⟨h45.grownAt (b := cd.block) hg54 (OC.lt cd.block rfl).1, ?_, ?_, hok'⟩
      · rw [mk_congr (g := fun j => if j = i then S k (g2 T i) + g2 T i k else if j < i then S m (g2 T j) else if j = i then S k (g2 T i) else 0) fun j _ => ?_]
        · exact Own.putNew (k := cd.block) OR hg54 (fun b hb => by have := blk_eq hb; omega)
        · by_cases q : j = i
          · rw [if_neg (by omega), if_pos q, if_pos q]; rfl
          · rw [if_neg q, if_neg q, if_neg q]
      · rw [mk_congr (g := fun j => if j = k then (S i fun j' => g2 T j' k) + g2 T i k else (S i fun j' => g2 T j' j) + if j < k then g2 T i j else 0) fun j _ => ?_]
        · exact OC
        · by_cases hj : j = k
          · subst hj; rw [if_pos rfl, if_pos (by omega)]
          · rw [if_neg hj]
            by_cases hjk : j < k
            · rw [if_pos hjk, if_pos (by omega)]
            · rw [if_neg hjk, if_neg (by omega)]
    · dsimp only at e
      have hkm : k = m := by omega
      subst hkm
      refine z_i64 (by dsimp only; omega) ?_
      refine hag _ (by omega) ⟨hw, ?_, ?_, fun j hj r' hr' => ?_, fun j hj r' hr' => ?_⟩
      · rw [mk_congr (g := fun j => if j < i then S k (g2 T j) else if j = i then S k (g2 T i) else 0) fun j _ => ?_]
        · exact OR
        · by_cases q : j < i
          · rw [if_pos q, if_pos (by omega)]
          · rw [if_neg q]
            by_cases q2 : j = i
            · subst q2; rw [if_pos rfl, if_pos (by omega)]
            · rw [if_neg q2, if_neg (by omega)]
      · rw [mk_congr (g := fun k' => (S i fun j => g2 T j k') + if k' < k then g2 T i k' else 0) fun j hj => ?_]
        · exact OC
        · rw [if_pos hj]; rfl
      · rcases Nat.lt_or_ge j i with q | q
        · exact hp j q r' hr'
        · have : j = i := by omega
          subst this; rw [hr] at hr'; cases hr'; omega
      · rcases Nat.lt_or_ge j i with q | q
        · exact hq j q r' hr'
        · have : j = i := by omega
          subst this; rw [hr] at hr'; cases hr'
          intro y hy
          obtain ⟨k', hk', rfl⟩ := List.mem_iff_getElem.1 hy
          have := hok k' (by omega)
          rwa [g2_at hr (List.getElem?_eq_getElem hk')] at this
  · dsimp only at e
    have hin : i = T.length := by omega
    subst hin
    refine ⟨((some ra, t.2.1, t.2.1), (some cd, m, m), true, ()), rfl, ⟨fun _ => ⟨⟨by omega, by omega, by omega, by omega, ?_, ?_⟩, ?_, ?_, fun k hk e => hne ?_⟩, (fun e => by cases e)⟩, hw⟩
    · intro r hr
      obtain ⟨j, hj, rfl⟩ := List.mem_iff_getElem.1 hr
      rw [hm]; exact hp j hj _ (List.getElem?_eq_getElem hj)
    · intro r hr
      obtain ⟨j, hj, rfl⟩ := List.mem_iff_getElem.1 hr
      exact hq j hj _ (List.getElem?_eq_getElem hj)
    · rw [hm, rsums_mk]
      rw [mk_congr (g := fun i => S m (g2 T i)) fun j hj => by rw [if_pos hj]] at OR
      exact OR
    · rw [hm]; exact OC
    · have q1 : ra.block = k := blk_eq hk
      have q2 : cd.block = k := blk_eq e
      omega
theorem marg21 (t : Hdr) (T : List (List Int)) (w : World) (H : TabI .i64 w t T) :
    call Try.prog 10 [.slice t.1 t.2.1 t.2.2] rMT w (fun (x : MT) w' => MargR T x w' ∧ bel w w') :=
  call_mono (marg21O t T w H) fun _ _ h => ⟨h.1.r, h.2⟩
end Go.Proofs.Ytphgmfjinihgaaa

/- Queues: the tail of a block of one's own; two stores in one region. -/

namespace Go.V
open Go Go.RowKit Go.Q

/-- a queue: the cells from some place on -/
structure QAt (w : World) (B : Nat) (e : TypeId) (q : Option Addr × Nat × Nat) (xs : List Value) : Prop where
  len : xs.length = q.2.1
  cap : q.2.1 ≤ q.2.2
  most : q.2.2 ≤ maxLen
  nil' : q.1 = none → q.2.1 = 0 ∧ q.2.2 = 0
  mem : 0 < q.2.2 → ∃ g p cur, q.1 = some ⟨g, p, none⟩ ∧ B ≤ g ∧ w.heap[g]? = some (.cells cur e (0, 0)) ∧ p + q.2.2 = cur.size ∧ (cur.toList.drop p).take q.2.1 = xs
theorem QAt.nil (w : World) (B : Nat) (e : TypeId) : QAt w B e (none, 0, 0) [] := ⟨rfl, Nat.le_refl _, Nat.zero_le _, fun _ => ⟨rfl, rfl⟩, fun h => absurd h (by simp)⟩
theorem QAt.xg {w w' : World} {B : Nat} {e : TypeId} {q : Option Addr × Nat × Nat} {xs : List Value} {b : Nat} (h : QAt w B e q xs) (hg : w.grownBy w' (some b)) (hb : b < B) : QAt w' B e q xs :=
  ⟨h.len, h.cap, h.most, h.nil', fun hc => by
    obtain ⟨g, p, cur, h1, h2, h3, h4, h5⟩ := h.mem hc
    exact ⟨g, p, cur, h1, h2, (hg.block g (Array.getElem?_eq_some_iff.1 h3).1 (by intro e; injection e; omega)).trans h3, h4, h5⟩⟩
theorem QAt.up {w w' : World} {B : Nat} {e : TypeId} {q : Option Addr × Nat × Nat} {xs : List Value} (h : QAt w B e q xs) (hg : bel w w') : QAt w' B e q xs :=
  ⟨h.len, h.cap, h.most, h.nil', fun hc => by
    obtain ⟨g, p, cur, h1, h2, h3, h4, h5⟩ := h.mem hc
    exact ⟨g, p, cur, h1, h2, (Below.block hg g (Array.getElem?_eq_some_iff.1 h3).1).trans h3, h4, h5⟩⟩
theorem QAt.sl {w : World} {B : Nat} {e : TypeId} {q : Option Addr × Nat × Nat} {xs : List Value} (h : QAt w B e q xs) : Sl w q.1 q.2.1 q.2.2 1 xs := by
  have := h.most
  refine ⟨by rw [h.len, Nat.mul_one], h.cap, by unfold maxLen at this; omega, h.nil', fun j u hu => ?_⟩
  have hj : j < xs.length := (List.getElem?_eq_some_iff.1 hu).1
  obtain ⟨g, p, cur, h1, h2, h3, h4, h5⟩ := h.mem (by have := h.len; have := h.cap; omega)
  refine ⟨⟨g, p, none⟩, h1, ?_, (Array.getElem?_eq_some_iff.1 h3).1⟩
  rw [Addr.add_lit]
  unfold World.cell?
  simp only [h3, Option.isSome_none, Bool.false_eq_true, if_false]
  rw [← h5, List.getElem?_take] at hu
  split at hu
  · rw [List.getElem?_drop] at hu
    simpa using hu
  · cases hu
/-- the head falls off -/
theorem QAt.tail {w : World} {B : Nat} {e : TypeId} {q : Option Addr × Nat × Nat} {x : Value} {xs : List Value} (h : QAt w B e q (x :: xs)) : ∃ q' : Option Addr × Nat × Nat, (sliced q.1 1 q.2.1 q.2.2 1 = .slice q'.1 q'.2.1 q'.2.2) ∧ QAt w B e q' xs := by
  have hl := h.len
  have hc := h.cap
  have hm := h.most
  simp only [List.length_cons] at hl
  obtain ⟨g, p, cur, h1, h2, h3, h4, h5⟩ := h.mem (by omega)
  refine ⟨((if q.2.2 = 1 then q.1 else q.1.map (·.add (1 * 1))), q.2.1 - 1, q.2.2 - 1), rfl, by dsimp only; omega, by dsimp only; omega, by dsimp only; omega, fun e => ?_, fun hc' => ?_⟩
  · dsimp only at e
    rw [h1] at e
    split at e <;> cases e
  · dsimp only at hc' ⊢
    refine ⟨g, p + 1, cur, ?_, h2, h3, by omega, ?_⟩
    · rw [if_neg (by omega), h1]; simp [Addr.add_lit]
    · have e1 : q.2.1 = (q.2.1 - 1) + 1 := by omega
      rw [e1] at h5
      have hp : p < cur.toList.length := by rw [Array.length_toList]; omega
      rw [List.drop_eq_getElem_cons hp, List.take_succ_cons] at h5
      injection h5
theorem q_tail {P : Program} {t e : TypeId} {z : Value} {bytes : Nat} (T : TyS P t e z 1 bytes) {w : World} {B : Nat} {q : Option Addr × Nat × Nat} {x : Value} {xs : List Value} {K : (Option Addr × Nat × Nat) → Prop} (h : QAt w B e q (x :: xs)) (hk : ∀ q', QAt w B e q' xs → K q') :
    rdp P (Instr.sliceAt t (.slice q.1 q.2.1 q.2.2) (some (.int .i64 1)) none none) (.one .slice) K := by
  obtain ⟨q', h1, h2⟩ := h.tail
  refine ⟨q', fun w => ?_, hk q' h2⟩
  have hl := h.len
  simp only [List.length_cons] at hl
  have ht : P.underlying t = some (.slice (P.elem t)) := by rw [T.elem]; exact T.ht
  rw [run_sliceAt_slice _ _ _ _ _ _ ht, run_slice_l _ _ _ _ _ ht _ _ (by omega) (by omega), T.elem, T.size]
  simp only [Result.andThen_ok]
  rw [show (1 : Int).toNat = 1 from rfl, h1]; rfl
/-- an element is laid behind -/
theorem wr_appQ {P : Program} {t e : TypeId} {z : Value} {bytes : Nat} (T : TyS P t e z 1 bytes) {w : World} {B : Nat} {q : Option Addr × Nat × Nat} {xs : List Value} (O : QAt w B e q xs) {ty : TypeId} {v : Value} {k : (Option Addr × Nat × Nat) → World → Prop}
    (hB : B ≤ w.heap.size) (hz : z.cells.size = 1) (hv : v.cells.size = 1) (hp : plainV v.cells.toList = true) (hb : (q.2.1 + 1) * bytes ≤ 140737488355328) (hn : q.2.1 + 1 ≤ maxLen)
    (hk : ∀ q' w', QAt w' B e q' (xs ++ v.cells.toList) → Below B w w' → k q' w') :
    wr P (Instr.buildSlice t 1 #[(0, v)]) (.one .slice) w fun x w1 => wr P (Builtin.append_ #[t, t] ty #[.slice q.1 q.2.1 q.2.2, .slice x.1 x.2.1 x.2.2]) (.one .slice) w1 k := by
  refine wr_lit T v.cells (fill_one 1 v _ hv (by simp)) (by omega) (by omega) (by omega) (by unfold maxLen; omega) fun ad w1 L h1 h2 h3 => ?_
  have L1 := L B hB
  replace O := O.up h1
  have hl : v.cells.toList.length = 1 := by simpa using hv
  have hne : ∀ j u, v.cells.toList[j]? = some u → w1.cell? (ad.add j) = some u := fun j u hj => by
    obtain ⟨ad', q1, q2, _⟩ := L1.cell (j := j) hj
    cases q1; exact q2
  have h1c : ∀ u ∈ v.cells.toList, u.oneCell' = true := fun u hu => by unfold plainV at hp; rw [List.all_eq_true] at hp; exact hp u hu
  obtain ⟨i, hi0, hz0, hz1, hz2⟩ := info_parts T.hi
  have hx := O.len
  have hcm := O.most
  have b1 : Below B w w1 := ⟨h1.os, h1.tape, h1.output, h1.size, fun k hk => h1.block k (by omega)⟩
  by_cases hroom : q.2.1 + 1 ≤ q.2.2
  · obtain ⟨g, p, cur, g1, g2, g3, g4, g5⟩ := O.mem (by omega)
    have hst := run_storeCells_at P g (p + q.2.1) e v.cells.toList 0 cur w1 g3 (by rw [hl]; omega) h1c
    simp only [Nat.add_zero] at hst
    have hf := run_firstCells_some (P := P) w1 1 1 ad 1 1 v.cells.toList (by rw [hl]) hne
    refine ⟨((q.1, q.2.1 + 1, q.2.2) : Option Addr × Nat × Nat), w1.setRow g (cur.toList.take (p + q.2.1) ++ v.cells.toList ++ cur.toList.drop (p + q.2.1 + v.cells.toList.length)).toArray, ?_, hk _ _ ?_ ?_⟩
    · rw [g1]
      simp [Builtin.append_, run_underlying T.ht, sizeOf, typeInfo, hi0, hz1, Builtin.lenOf, hroom, hf, Addr.add_lit, hst]
      rfl
    · have hcs : cur.toList.length = cur.size := Array.length_toList
      refine ⟨by simp [hx, hv], by dsimp only; omega, hcm, (fun e => by rw [g1] at e; cases e), fun _ => ⟨g, p, _, g1, g2, setRow_heap w1 g cur _ e _ g3, ?_, ?_⟩⟩
      · simp only [List.size_toArray, List.length_append, List.length_take, List.length_drop, hl]
        omega
      · dsimp only
        rw [hl]
        have e1 : List.drop p (List.take (p + q.2.1) cur.toList) = xs := by
          rw [← g5, List.drop_take, show p + q.2.1 - p = q.2.1 by omega]
        rw [List.append_assoc, List.drop_append_of_le_length (by rw [List.length_take]; omega), e1, ← List.append_assoc]
        have e2 : q.2.1 + 1 = (xs ++ v.cells.toList).length := by rw [List.length_append, hx, hl]
        rw [e2]; exact List.take_left
    · exact ⟨b1.os, b1.tape, b1.output, by simpa using b1.size, fun k hk => (setRow_other w1 g k _ (by omega)).trans (b1.block k hk)⟩
  · have hcm' : grownCap w1 (q.2.1 + 1) q.2.2 e ≤ maxLen := grownCap_le_maxLen w1 _ _ e hn
    have hge := grownCap_ge w1 (q.2.1 + 1) q.2.2 e
    have hA : ∀ cs, Below B w (w1.drew.alloc (.cells cs e)) := fun cs => ⟨b1.os, b1.tape, b1.output, by have := b1.size; simp; omega, fun k hk => (Go.RowKit.Below.heap_alloc w1.drew _ k (by have := b1.size; show k < w1.heap.size; omega)).trans (b1.block k hk)⟩
    have hQ : ∀ olds : List Value, olds = xs → QAt (w1.drew.alloc (.cells (olds.toArray ++ v.cells.toList.toArray ++ Builtin.zeroCells z.cells (grownCap w1 (q.2.1 + 1) q.2.2 e - (q.2.1 + 1))) e)) B e (some ⟨w1.heap.size, 0, none⟩, q.2.1 + 1, grownCap w1 (q.2.1 + 1) q.2.2 e) (xs ++ v.cells.toList) := by
      intro olds ho
      subst ho
      refine ⟨by rw [List.length_append, hl, hx], hge, hcm', (fun e => by cases e), fun _ => ⟨w1.heap.size, 0, _, rfl, by have := b1.size; omega, heap_alloc_new w1.drew _, ?_, ?_⟩⟩
      · simp only [Array.size_append, List.size_toArray, size_zeroCells, hz, hl, hx]
        omega
      · simp only [Array.toList_append, List.append_assoc, List.drop_zero]
        have e2 : q.2.1 + 1 = (olds ++ v.cells.toList).length := by rw [List.length_append, hx, hl]
        rw [← List.append_assoc, e2]; exact List.take_left
    cases hq : q.1 with
    | none =>
      obtain ⟨n1, n2⟩ := O.nil' hq
      have hx0 : xs = [] := List.eq_nil_of_length_eq_zero (by omega)
      have hr := run_append_nil (P := P) w1 t ty e i z T.ht hi0 hz0 ad 1 1 v.cells.toList (by rw [hl, hz1]) hne (by omega) (by omega) (by rw [hz2]; rw [n1] at hb; omega)
      have hQ' := hQ [] hx0.symm
      rw [n1, n2] at hQ' ⊢
      simp only [Array.empty_append, Nat.zero_add] at hQ'
      exact ⟨(some ⟨w1.heap.size, 0, none⟩, 1, grownCap w1 1 0 e), _, hr, hk _ _ hQ' (hA _)⟩
    | some b =>
      have holds : ∀ j u, xs[j]? = some u → w1.cell? (b.add j) = some u := fun j u hu => by
        obtain ⟨ad', q1, q2, _⟩ := O.sl.at' j u hu
        rw [hq] at q1; cases q1; exact q2
      have hr := run_append_grow (P := P) w1 t ty e i z T.ht hi0 hz0 b q.2.1 q.2.2 xs (by rw [hx, hz1, Nat.mul_one]) holds ad 1 1 v.cells.toList (by rw [hl, hz1]) hne (by omega) (by unfold maxLen at hn; omega) (growslice_fits (by omega) (by rw [hz2]; exact hb))
      exact ⟨(some ⟨w1.heap.size, 0, none⟩, q.2.1 + 1, grownCap w1 (q.2.1 + 1) q.2.2 e), _, hr, hk _ _ (hQ xs rfl) (hA _)⟩
theorem rdE_boxN {P : Program} {E : Rel} {t : TypeId} {l : List Sh} {w : World} {a : Addr} {cs : List Value} {x : LT l} {k : LT l → Prop} (h : ∀ w', E w w' → Box w' a cs) (ht : aggOf P t cs.length = true) (hx : Lget l cs = some x) (hk : k x) :
    rdE P E (Instr.loadAt t (.pointer (some a))) (.agg l) w k := ⟨x, fun w' hw => by rw [run_loadAt, run_loadVarN ht (fun _ _ hj => (h w' hw).cell hj), Lget_spec hx]; rfl, hk⟩
/-- an append beyond the room: the new row is the next block -/
theorem wr_appG {P : Program} {t e : TypeId} {z : Value} {bytes : Nat} (T : TyS P t e z 1 bytes) {w : World} {B : Nat} {sa : Addr} {n c : Nat} {xs : List Value} (O : Own w B e 1 (some sa) n c xs) {ty : TypeId} {ad : Addr} {m mc : Nat} {ys : List Value} (H : Sl w (some ad) m mc 1 ys) {k : (Option Addr × Nat × Nat) → World → Prop}
    (hB : B ≤ w.heap.size) (hz : z.cells.size = 1) (hp : plainV ys = true) (hb : (n + m) * bytes ≤ 140737488355328) (hn : n + m ≤ maxLen) (hc : c < n + m)
    (hk : ∀ c' w', Own w' B e 1 (some ⟨w.heap.size, 0, none⟩) (n + m) c' (xs ++ ys) → w.grownBy w' (some sa.block) → k (some ⟨w.heap.size, 0, none⟩, n + m, c') w') :
    wr P (Builtin.append_ #[t, t] ty #[.slice (some sa) n c, .slice (some ad) m mc]) (.one .slice) w k := by
  have hy : ∀ j u, ys[j]? = some u → w.cell? (ad.add j) = some u := fun j u hj => by
    obtain ⟨ad', q1, q2, _⟩ := H.at' j u hj
    cases q1; exact q2
  have hx : ∀ j u, xs[j]? = some u → w.cell? (sa.add j) = some u := fun j u hj => by
    obtain ⟨ad', q1, q2, _⟩ := O.sl.at' j u hj
    cases q1; exact q2
  obtain ⟨a', c', w2, hr, hA⟩ := run_app (P := P) w t ty B e z 1 bytes T.ht T.hi hz (by omega) (some sa) n c xs O ad m mc ys H.len hy (fun u hu => by
      unfold plainV at hp; rw [List.all_eq_true] at hp; exact hp u hu) hb hn hB
  obtain ⟨i, hi0, hz0, hz1, hz2⟩ := info_parts T.hi
  have hr2 := run_append_grow (P := P) w t ty e i z T.ht hi0 hz0 sa n c xs (by rw [hz1]; exact O.1) hx ad m mc ys (by rw [hz1]; exact H.len) hy hc (by unfold maxLen at hn; omega) (growslice_fits hc (by rw [hz2]; exact hb))
  have e := hr.symm.trans hr2
  injection e with e1 e2
  injection e1 with e1 e3 e4
  have O' := hA.own
  rw [e1] at O' hr
  exact ⟨(some ⟨w.heap.size, 0, none⟩, n + m, c'), w2, hr, hk c' w2 O' hA.grown⟩
theorem idxQ {P : Program} {t e : TypeId} {z : Value} {bytes : Nat} (T : TyS P t e z 1 bytes) {a : Option Addr} {ad : Addr} {n c j : Nat} {k : IntKind} {i : Int} {K : Addr → Prop} (hj : i = (j : Int)) (h : j < n) (ha : a = some ad) (hk : K (ad.add j)) :
    rdp P (Instr.indexAt t (.slice a n c) (.int k i)) (.one .addr) K := by
  refine idx_mk T hj h ha ?_
  rw [Nat.mul_one]; exact hk
/-- 'a[i], b[k] = v, ..': the first store of a region that tells its states -/
theorem fl2 {P : Program} {w : World} {j j2 : Nat} {p1 p2 : Addr} {tA tB e : TypeId} {z : Value} {bytes : Nat} (T : TyS P tA e z 1 bytes) {B0 : Nat} {a : Addr} {n c : Nat} {xs : List Value} (O : Own w B0 e 1 (some a) n c xs) {h2 : Option Addr × Nat × Nat} {i : Int} {k : Nat} {v : Value}
    (hs : sizeIs P e 1 = true) (hr1 : scal P tA = true) (hr2 : scal P tB = true)
    (q1 : ∀ w', Xg a.block w w' → w'.cell? p1 = some (.slice (some a) n c)) (q2 : ∀ w', Xg a.block w w' → w'.cell? p2 = some (.slice h2.1 h2.2.1 h2.2.2))
    (hi : i = (k : Int)) (hk : k < n) (hv : v.oneCell' = true) {K : (Option Addr × Nat × Nat) → World → Prop}
    (hK : ∀ w', Own w' B0 e 1 (some a) n c (xs.set k v) → Xg a.block w w' → K h2 w') :
    flExC w fun E G Y F => rdE P (ER Y [j, j2] E) (Instr.loadAt tA (.pointer (some p1))) (.one .slice) w fun x57 => rdE P (ER Y [j2] E) (Instr.loadAt tB (.pointer (some p2))) (.one .slice) w fun x58 =>
      rdp P (Instr.indexAt tA (.slice x57.1 x57.2.1 x57.2.2) (.int .i64 i)) (.one .addr) fun x59 =>
      flcC Y j E w (fun _ => True) (fun D w60 => wu P (Instr.storeAt e (.pointer (some x59)) v) w60 fun w63 => (E w60 w63 ∧ G j w60 w63 ∧ Y (setD D j) w63 ∧ F j [] undef w63)) fun (_ : Unit) =>
      flendC Y [j] E w (fun w66 => F j [] (.tuple #[]) w66 ∧ True) fun w65 => K x58 w65 := by
  refine flExC_mk (Xg a.block) (fun _ _ _ => True) (fun D w' => (D j = false → Own w' B0 e 1 (some a) n c xs) ∧ (D j = true → Own w' B0 e 1 (some a) n c (xs.set k v))) (fun _ _ _ _ => True)
    (fun w => grown_refl w _) (fun _ _ _ a b => grown_trans a b) (fun _ _ _ _ _ _ _ _ _ _ => trivial) ⟨fun _ => O, fun q => by cases q⟩ ?_
  refine ⟨((some a, n, c) : Option Addr × Nat × Nat), fun w' hE => by rw [run_loadAt, run_loadVar1 hr1 (q1 w' hE.1)]; rfl, ?_⟩
  refine ⟨h2, fun w' hE => by rw [run_loadAt, run_loadVar1 hr2 (q2 w' hE.1)]; rfl, ?_⟩
  refine idxQ T hi (by dsimp only; omega) rfl ?_
  refine flcC_mk (fun D w47 hD hE hS _ => ?_) (fun _ => ?_)
  · refine wu_own hs (hS.1 hD) hk hv fun w50 O' hg _ => ?_
    exact ⟨hg, trivial, ⟨(fun q => by rw [setD_self] at q; cases q), fun _ => O'⟩, trivial⟩
  · refine flendC_mk fun w52 hE hS _ => ?_
    exact hK w52 (hS.2 (by simp)) hE
end Go.V
