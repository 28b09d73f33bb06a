import Derived.Laws.CopyRow
import Derived.Test.YtckgpiboelhefaaProg
import Derived.KernelRfl
import Derived.Test.YtckgpiboelhefaaOpen
import Derived.Test.YtckgpiboelhefaaPackDistributionBins1

/- Loops in the calculus: counting loops, the search of slices.IndexFunc. -/

namespace Go.V
open Go Go.RowKit Go.Q

theorem _root_.Go.Q.Sl.up {w w' : World} {a : Option Addr} {n c sz : Nat} {xs : List Value} (h : Sl w a n c sz xs) (hb : bel w w') : Sl w' a n c sz xs := h.kept hb
/-- a loop that counts from 0 to n -/
theorem loop_up {w0 : World} {body : ((Int × Unit) → World → Prop) → (Int × Unit) → World → Prop} (n : Nat) (I : Nat → World → Prop) (h0 : I 0 w0)
    (h : ∀ i w, i ≤ n → I i w → ∀ again : (Int × Unit) → World → Prop, (∀ w', i < n → I (i + 1) w' → again ((i : Int) + 1, ()) w') → body again ((i : Int), ()) w) : loop (0, ()) w0 body := by
  refine loop_gh (G := Nat) (fun i s w' => s = ((i : Int), ()) ∧ i ≤ n ∧ I i w') (fun i => n - i) 0 ⟨rfl, Nat.zero_le _, h0⟩ ?_
  rintro i s w ⟨rfl, hi, hI⟩ again hag
  exact h i w hi hI again fun w' hlt hI' => hag (i + 1) _ _ ⟨rfl, hlt, hI'⟩ (by omega)
/-- the same with a value that is built; the counter stands behind it -/
theorem loop_upA {A : Type} {a0 : A} {w0 : World} {body : ((A × Int × Unit) → World → Prop) → (A × Int × Unit) → World → Prop} (n : Nat) (I : Nat → A → World → Prop) (h0 : I 0 a0 w0)
    (h : ∀ i a w, i ≤ n → I i a w → ∀ again : (A × Int × Unit) → World → Prop, (∀ a' w', i < n → I (i + 1) a' w' → again (a', (i : Int) + 1, ()) w') → body again (a, (i : Int), ()) w) : loop (a0, 0, ()) w0 body := by
  refine loop_gh (G := Nat) (fun i s w' => s.2 = ((i : Int), ()) ∧ i ≤ n ∧ I i s.1 w') (fun i => n - i) 0 ⟨rfl, Nat.zero_le _, h0⟩ ?_
  rintro i ⟨a, s⟩ w ⟨rfl, hi, hI⟩ again hag
  exact h i a w hi hI again fun a' w' hlt hI' => hag (i + 1) _ _ ⟨rfl, hlt, hI'⟩ (by omega)
/-- the counter stands ahead -/
theorem loop_upB {A : Type} {a0 : A} {w0 : World} {body : ((Int × A × Unit) → World → Prop) → (Int × A × Unit) → World → Prop} (n : Nat) (I : Nat → A → World → Prop) (h0 : I 0 a0 w0)
    (h : ∀ i a w, i ≤ n → I i a w → ∀ again : (Int × A × Unit) → World → Prop, (∀ a' w', i < n → I (i + 1) a' w' → again ((i : Int) + 1, a', ()) w') → body again ((i : Int), a, ()) w) : loop (0, a0, ()) w0 body := by
  refine loop_gh (G := Nat) (fun i s w' => s.1 = (i : Int) ∧ i ≤ n ∧ I i s.2.1 w') (fun i => n - i) 0 ⟨rfl, Nat.zero_le _, h0⟩ ?_
  rintro i ⟨_, a, _⟩ w ⟨rfl, hi, hI⟩ again hag
  exact h i a w hi hI again fun a' w' hlt hI' => hag (i + 1) _ _ ⟨rfl, hlt, hI'⟩ (by omega)

/-- what holds of the first elements -/
theorem pre_step {α : Type} {p : α → Prop} {l : List α} {i : Nat} {y : α} (h : ∀ j, j < i → ∀ x, l[j]? = some x → p x) (hy : l[i]? = some y) (hp : p y) : ∀ j, j < i + 1 → ∀ x, l[j]? = some x → p x := by
  intro j hj x hx
  rcases Nat.lt_or_ge j i with q | q
  · exact h j q x hx
  · have : j = i := by omega
    subst this
    rw [hy] at hx; cases hx; exact hp
theorem pre_zero {α : Type} {p : α → Prop} {l : List α} : ∀ j, j < 0 → ∀ x, l[j]? = some x → p x := fun j h => by omega
theorem pre_all {α : Type} {p : α → Prop} {l : List α} {n : Nat} (h : ∀ j, j < n → ∀ x, l[j]? = some x → p x) (hn : l.length ≤ n) : ∀ x ∈ l, p x := by
  intro x hx
  obtain ⟨j, hj, rfl⟩ := List.mem_iff_getElem.1 hx
  exact h j (by omega) _ (List.getElem?_eq_getElem hj)
theorem mem_at {α : Type} {l : List α} {i : Nat} {y : α} (h : l[i]? = some y) : y ∈ l := List.mem_of_getElem? h

/-- a function is read from memory, and called -/
theorem rdF_box0 {P : Program} {t : TypeId} {w : World} {a : Addr} {cs : List Value} {h : Nat} {fi ca : Array Value} {k : Nat → Array Value → Array Value → Prop} (ht : scal P t = true) (hb : Box w a cs) (hi : cs[0]? = some (.func (.func h) fi ca)) (hk : k h fi ca) :
    rdF P bel (Instr.loadAt t (.pointer (some a))) w k := ⟨h, fi, ca, fun w' hw => by rw [run_loadAt, run_loadVar1 ht (hw.cell (hb.cell0 hi))], hk⟩
theorem callX_of {P : Program} {h : Nat} {args args' : List Value} {r : RS} {w : World} {k : r.T → World → Prop} {fn : Func} (hf : P.funcs[h]? = some fn) (hp : plainF fn = true) (ha : args = args') (hc : call P h args' r w k) : callX P h args r w k := by
  unfold callX; rw [hf]; dsimp only; rw [hp]; subst ha; exact hc

/-- a variable is made and written at once -/
theorem var_mk {P : Program} {e : TypeId} {z v : Value} {w : World} {k : Addr → World → Prop} (hz : zeroOf P e = some z) (hs : sizeIs P e v.cells.size = true) (hl : v.cells.size = z.cells.size) (hp : plainV v.cells.toList = true)
    (hk : ∀ a w', Box w' a v.cells.toList → bel w w' → a.block = w.heap.size → k a w') :
    wr P (Instr.alloc e true (.tuple #[])) (.one .addr) w fun x w1 => wu P (Instr.storeAt e (.pointer (some x)) v) w1 fun w2 => k x w2 := by
  refine wr_alloc hz fun a w1 Z h ha _ => ?_
  refine wu_box Z hs (by rw [hl]; simp) hp fun w2 Z hg _ => ?_
  have e2 : putAt z.cells.toList 0 v.cells.toList = v.cells.toList := by
    have key : ∀ (vs pre cs : List Value), cs.length = vs.length → putAt (pre ++ cs) pre.length vs = pre ++ vs := by
      intro vs
      induction vs with
      | nil => intro pre cs h; rw [List.eq_nil_of_length_eq_zero h]; rfl
      | cons x vs ih =>
        intro pre cs h
        cases cs with
        | nil => simp at h
        | cons c cs =>
          simp only [putAt]
          have h1 : (pre ++ c :: cs).set pre.length x = (pre ++ [x]) ++ cs := by simp
          rw [h1]
          have := ih (pre ++ [x]) cs (by simpa using h)
          simp only [List.length_append, List.length_cons, List.length_nil, Nat.zero_add] at this
          rw [this]; simp
    have := key v.cells.toList [] z.cells.toList (by simp [hl])
    simpa using this
  rw [e2] at Z
  exact hk _ _ Z (h.grownAt hg (by omega)) ha

/-- where a test first holds; -1: nowhere -/
def idxI {β : Type} (q : β → Bool) (ys : List β) : Int :=
  match ys.findIdx? q with
  | some i => (i : Int) | none => -1
theorem idxI_any {β : Type} (q : β → Bool) (ys : List β) : decide (idxI q ys ≥ 0) = ys.any q := by
  unfold idxI
  rw [← List.findIdx?_isSome]
  cases ys.findIdx? q with
  | none => rfl
  | some i => simp
/-- the loop of slices.IndexFunc -/
theorem idx_loop {P : Program} {t e : TypeId} {vs : VS} {f : FuncId} {fargs : vs.T → List Value} {a : Option Addr} {n c : Nat} {R : Value → World → Prop} {w0 : World} {β : Type} (xs : List vs.T) (ys : List β) (q : β → Bool) (hn : xs.length = n) (hy : ys.length = n) (hm : n ≤ 9223372036854775807)
    (RD : ∀ (j : Nat) (x : vs.T), xs[j]? = some x → ∀ w', bel w0 w' → ∀ K : vs.T → Prop, K x → rdp P (Instr.indexAt t (.slice a n c) (.int .i64 (j : Int))) (.one .addr) fun ad => rd P (Instr.loadAt e (.pointer (some ad))) vs w' K)
    (CALL : ∀ (j : Nat) (x : vs.T) (y : β), xs[j]? = some x → ys[j]? = some y → ∀ w', bel w0 w' → call P f (fargs x) (.one (.one .bool)) w' fun b w'' => b = q y ∧ bel w' w'')
    (hk : ∀ w', bel w0 w' → R (.int .i64 (idxI q ys)) w') :
    loop (T := (Int × Unit)) (0, ()) w0 fun (again1 : (Int × Unit) → World → Prop) (s2 : (Int × Unit)) w3 => ∀ _ : Nat → Value,
      br (decide (s2.1 < ((n : Nat) : Int))) (rdp P (Instr.indexAt t (.slice a n c) (.int .i64 s2.1)) (.one .addr) fun (x4 : Addr) =>
      rd P (Instr.loadAt e (.pointer (some x4))) vs w3 fun x5 =>
      call P f (fargs x5) (.one (.one .bool)) w3 fun (x6 : Bool) (w7 : World) =>
      br x6 (R (.int .i64 s2.1) w7)
      (z (IntKind.wrap .i64 (s2.1 + 1)) fun (z8 : Int) =>
      again1 (z8, ()) w7))
      (R (.int .i64 (-1)) w3) := by
  refine loop_up n (fun i w' => bel w0 w' ∧ ∀ j, j < i → ∀ y, ys[j]? = some y → q y = false) ⟨bel.refl _, fun j h => by omega⟩ ?_
  rintro i w hi ⟨hb, hq⟩ again hag _
  refine br_dec (fun e => ?_) (fun e => ?_)
  · dsimp only at e
    have hi' : i < n := by omega
    have hx : xs[i]? = some (xs[i]'(by omega)) := List.getElem?_eq_getElem (by omega)
    have hy' : ys[i]? = some (ys[i]'(by omega)) := List.getElem?_eq_getElem (by omega)
    refine RD i _ hx w hb _ ?_
    refine call_mono (CALL i _ _ hx hy' w hb) ?_
    rintro b w2 ⟨rfl, hb2⟩
    refine br_mk (fun hq' => ?_) (fun hq' => ?_)
    · have : idxI q ys = (i : Int) := by
        unfold idxI
        rw [List.findIdx?_eq_some_iff_getElem.2 ⟨by omega, hq', fun j hj => by
          have := hq j hj _ (List.getElem?_eq_getElem (by omega))
          simp [this]⟩]
      rw [← this]
      exact hk _ (hb.trans hb2)
    · refine z_i64 (by dsimp only; omega) ?_
      refine hag _ hi' ⟨hb.trans hb2, fun j hj y hy2 => ?_⟩
      rcases Nat.lt_or_ge j i with h | h
      · exact hq j h y hy2
      · have : j = i := by omega
        subst this
        rw [hy'] at hy2; cases hy2; exact hq'
  · dsimp only at e
    have hi' : i = n := by omega
    have : idxI q ys = -1 := by
      unfold idxI
      rw [List.findIdx?_eq_none_iff.2 fun y hy' => by
        obtain ⟨j, hj, rfl⟩ := List.mem_iff_getElem.1 hy'
        exact hq j (by omega) _ (List.getElem?_eq_getElem hj)]
    rw [← this]
    exact hk _ hb
/-- .. over numbers -/
theorem idx_ints {P : Program} {t e : TypeId} {z0 : Value} {bytes : Nat} (TS : TyS P t e z0 1 bytes) (he : scal P e = true) {kk : IntKind} {f : FuncId} {fargs : Int → List Value} {a : Option Addr} {n c : Nat} {w0 : World} {xs : List Int} (H : Sl w0 a n c 1 (ints kk xs)) (q : Int → Bool)
    (CALL : ∀ (j : Nat) (x : Int), xs[j]? = some x → ∀ w', bel w0 w' → call P f (fargs x) (.one (.one .bool)) w' fun b w'' => b = q x ∧ bel w' w'') :
    loop (T := (Int × Unit)) (0, ()) w0 fun (again1 : (Int × Unit) → World → Prop) (s2 : (Int × Unit)) w3 => ∀ _ : Nat → Value,
      br (decide (s2.1 < ((n : Nat) : Int))) (rdp P (Instr.indexAt t (.slice a n c) (.int .i64 s2.1)) (.one .addr) fun (x4 : Addr) =>
      rd P (Instr.loadAt e (.pointer (some x4))) (.one (.int kk)) w3 fun (x5 : Int) =>
      call P f (fargs x5) (.one (.one .bool)) w3 fun (x6 : Bool) (w7 : World) =>
      br x6 ((fun (v : Value) (w' : World) => ∃ x : Int, v = (RS.one (.one (.int .i64))).val x ∧ x = idxI q xs ∧ bel w0 w') (.int .i64 s2.1) w7)
      (z (IntKind.wrap .i64 (s2.1 + 1)) fun (z8 : Int) =>
      again1 (z8, ()) w7))
      ((fun (v : Value) (w' : World) => ∃ x : Int, v = (RS.one (.one (.int .i64))).val x ∧ x = idxI q xs ∧ bel w0 w') (.int .i64 (-1)) w3) := by
  have hl := H.int
  refine idx_loop (R := (fun (v : Value) (w' : World) => ∃ x : Int, v = (RS.one (.one (.int .i64))).val x ∧ x = idxI q xs ∧ bel w0 w')) (vs := .one (.int kk)) (fargs := fargs) xs xs q hl hl H.le (fun j x hx w' hb K hk => ?_) (fun j x y hx hy w' hb => ?_) (fun w' hb => ⟨_, rfl, rfl, hb⟩)
  · have hx' : (xs : List Int)[j]? = some (x : Int) := hx
    exact at_int TS he (H.kept hb) rfl (by have := (List.getElem?_eq_some_iff.1 hx').1; omega) (fun y hy => by rw [hx'] at hy; cases hy; exact hk)
  · have hx' : (xs : List Int)[j]? = some (x : Int) := hx
    rw [hx'] at hy; cases hy
    exact CALL j x hx' w' hb
/-- .. over the rows of a table -/
theorem idx_tab {P : Program} {t e : TypeId} {z0 : Value} {bytes : Nat} (TS : TyS P t e z0 1 bytes) (he : scal P e = true) {α : Type} {g : α → Value} {f : FuncId} {fargs : Hdr → List Value} {r : Hdr} {w0 : World} {T : List (List α)} (H : Tab g w0 r T) (q : List α → Bool)
    (CALL : ∀ (j : Nat) (x : Hdr) (y : List α), T[j]? = some y → Sl w0 x.1 x.2.1 x.2.2 1 (y.map g) → ∀ w', bel w0 w' → call P f (fargs x) (.one (.one .bool)) w' fun b w'' => b = q y ∧ bel w' w'') :
    loop (T := (Int × Unit)) (0, ()) w0 fun (again1 : (Int × Unit) → World → Prop) (s2 : (Int × Unit)) w3 => ∀ _ : Nat → Value,
      br (decide (s2.1 < ((r.2.1 : Nat) : Int))) (rdp P (Instr.indexAt t (.slice r.1 r.2.1 r.2.2) (.int .i64 s2.1)) (.one .addr) fun (x4 : Addr) =>
      rd P (Instr.loadAt e (.pointer (some x4))) (.one .slice) w3 fun (x5 : Option Addr × Nat × Nat) =>
      call P f (fargs x5) (.one (.one .bool)) w3 fun (x6 : Bool) (w7 : World) =>
      br x6 ((fun (v : Value) (w' : World) => ∃ x : Int, v = (RS.one (.one (.int .i64))).val x ∧ x = idxI q T ∧ bel w0 w') (.int .i64 s2.1) w7)
      (z (IntKind.wrap .i64 (s2.1 + 1)) fun (z8 : Int) =>
      again1 (z8, ()) w7))
      ((fun (v : Value) (w' : World) => ∃ x : Int, v = (RS.one (.one (.int .i64))).val x ∧ x = idxI q T ∧ bel w0 w') (.int .i64 (-1)) w3) := by
  obtain ⟨hs, h1, h2, h3⟩ := H.ex
  have hl : hs.length = r.2.1 := by have := h1.len; simpa using this
  refine idx_loop (R := (fun (v : Value) (w' : World) => ∃ x : Int, v = (RS.one (.one (.int .i64))).val x ∧ x = idxI q T ∧ bel w0 w')) (vs := .one .slice) (fargs := fargs) hs T q hl (by omega) h1.le (fun j x hx w' hb K hk => ?_) (fun j x y hx hy w' hb => ?_) (fun w' hb => ⟨_, rfl, rfl, hb⟩)
  · have hx' : (hs : List Hdr)[j]? = some (x : Hdr) := hx
    exact at_hdr TS he (h1.kept hb) rfl (by have := (List.getElem?_eq_some_iff.1 hx').1; omega) (fun y hy => by rw [hx'] at hy; cases hy; exact hk)
  · have hx' : (hs : List Hdr)[j]? = some (x : Hdr) := hx
    exact CALL j x y hy (h3 j x y hx' hy) w' hb
/-- .. over records -/
theorem idx_aggs {P : Program} {t e : TypeId} {z0 : Value} {sz bytes : Nat} (TS : TyS P t e z0 sz bytes) (ht : aggOf P e sz = true) {α : Type} {enc : α → List Value} (he : ∀ a, (enc a).length = sz) (h0 : 0 < sz) {l : List Sh} {dec : α → LT l} (hd : ∀ a, Lget l (enc a) = some (dec a)) {f : FuncId} {fargs : LT l → List Value} {a : Option Addr} {n c : Nat} {w0 : World} {L : List α} (H : Sl w0 a n c sz (L.flatMap enc)) (q : α → Bool)
    (CALL : ∀ (j : Nat) (x : α), L[j]? = some x → ∀ w', bel w0 w' → call P f (fargs (dec x)) (.one (.one .bool)) w' fun b w'' => b = q x ∧ bel w' w'') :
    loop (T := (Int × Unit)) (0, ()) w0 fun (again1 : (Int × Unit) → World → Prop) (s2 : (Int × Unit)) w3 => ∀ _ : Nat → Value,
      br (decide (s2.1 < ((n : Nat) : Int))) (rdp P (Instr.indexAt t (.slice a n c) (.int .i64 s2.1)) (.one .addr) fun (x4 : Addr) =>
      rd P (Instr.loadAt e (.pointer (some x4))) (.agg l) w3 fun (x5 : LT l) =>
      call P f (fargs x5) (.one (.one .bool)) w3 fun (x6 : Bool) (w7 : World) =>
      br x6 ((fun (v : Value) (w' : World) => ∃ x : Int, v = (RS.one (.one (.int .i64))).val x ∧ x = idxI q L ∧ bel w0 w') (.int .i64 s2.1) w7)
      (z (IntKind.wrap .i64 (s2.1 + 1)) fun (z8 : Int) =>
      again1 (z8, ()) w7))
      ((fun (v : Value) (w' : World) => ∃ x : Int, v = (RS.one (.one (.int .i64))).val x ∧ x = idxI q L ∧ bel w0 w') (.int .i64 (-1)) w3) := by
  have hl : L.length = n := by
    have := H.len
    rw [flat_len he] at this
    exact Nat.eq_of_mul_eq_mul_right h0 this
  refine idx_loop (R := (fun (v : Value) (w' : World) => ∃ x : Int, v = (RS.one (.one (.int .i64))).val x ∧ x = idxI q L ∧ bel w0 w')) (vs := .agg l) (fargs := fargs) (L.map dec) L q ((List.length_map ..).trans hl) hl H.le (fun j x hx w' hb K hk => ?_) (fun j x y hx hy w' hb => ?_) (fun w' hb => ⟨_, rfl, rfl, hb⟩)
  · have hx' : (L.map dec)[j]? = some x := hx
    rw [List.getElem?_map] at hx'
    cases hp : L[j]? with
    | none => rw [hp] at hx'; cases hx'
    | some p =>
      rw [hp] at hx'
      cases hx'
      exact at_agg TS ht he h0 (H.kept hb) rfl hp (hd p) hk
  · have hx' : (L.map dec)[j]? = some x := hx
    rw [List.getElem?_map, hy] at hx'
    cases hx'
    exact CALL j y hy w' hb
end Go.V

/- A block of one's own that others may write: relations for regions that tell their states. -/

namespace Go.V
open Go Go.RowKit Go.Q

/-- only one block that was there may have turned -/
abbrev Xg (b : Nat) : Rel := fun w w' => w.grownBy w' (some b)
theorem bel.xg {w w' : World} (h : bel w w') (b : Nat) : Xg b w w' := grown_of_bel h _
theorem Box.xg {w w' : World} {a : Addr} {cs : List Value} {b : Nat} (X : Box w a cs) (h : Xg b w w') (hne : a.block ≠ b) : Box w' a cs := X.grown h (by intro e; injection e; omega)
theorem _root_.Go.Q.Sl.xg {w w' : World} {a : Option Addr} {n c sz : Nat} {xs : List Value} {b : Nat} (S : Sl w a n c sz xs) (h : Xg b w w') (hne : ∀ ad, a = some ad → xs ≠ [] → ad.block ≠ b) : Sl w' a n c sz xs :=
  S.grown h fun ad ha hx e => hne ad ha hx (by injection e)
theorem Own.xg {w w' : World} {B : Nat} {e : TypeId} {sz : Nat} {a : Option Addr} {n c : Nat} {xs : List Value} {b : Nat} (O : Own w B e sz a n c xs) (h : Xg b w w') (hb : b < B) : Own w' B e sz a n c xs := by
  refine O.keptBy h ?_
  cases hk : blk a with
  | none => exact .inl rfl
  | some k => exact .inr fun q => by have := (O.lt k hk).1; injection q; omega
theorem rdE_box0 {P : Program} {E : Rel} {t : TypeId} {s : Sh} {w : World} {a : Addr} {cs : List Value} {v : Value} {x : s.T} {k : s.T → Prop} (ht : scal P t = true) (h : ∀ w', E w w' → Box w' a cs) (hi : cs[0]? = some v) (hx : s.get v = some x) (hk : k x) :
    rdE P E (Instr.loadAt t (.pointer (some a))) (.one s) w k := ⟨x, fun w' hw => by rw [run_loadAt, run_loadVar1 ht ((h w' hw).cell0 hi), Sh.get_spec hx]; rfl, hk⟩
theorem rdE_box {P : Program} {E : Rel} {t : TypeId} {s : Sh} {w : World} {a : Addr} {cs : List Value} {i : Nat} {v : Value} {x : s.T} {k : s.T → Prop} (ht : scal P t = true) (h : ∀ w', E w w' → Box w' a cs) (hi : cs[i]? = some v) (hx : s.get v = some x) (hk : k x) :
    rdE P E (Instr.loadAt t (.pointer (some (a.add i)))) (.one s) w k := ⟨x, fun w' hw => by rw [run_loadAt, run_loadVar1 ht ((h w' hw).cell hi), Sh.get_spec hx]; rfl, hk⟩
theorem flExC_mk {w0 : World} {B : Rel → (Nat → Rel) → ((Nat → Bool) → World → Prop) → Facts → Prop} (E : Rel) (G : Nat → Rel) (St : (Nat → Bool) → World → Prop) (Φ : Facts) (h1 : ∀ w, E w w) (h2 : ∀ a b c, E a b → E b c → E a c)
    (h3 : ∀ i j ags v w w', i ≠ j → Φ i ags v w → E w w' → G j w w' → Φ i ags v w') (h4 : St (fun _ => false) w0) (h5 : B E G St Φ) : flExC w0 B := ⟨E, G, St, Φ, h1, h2, h3, h4, h5⟩
theorem flcC_mk {St : (Nat → Bool) → World → Prop} {j : Nat} {E : Rel} {w0 : World} {pre : World → Prop} {ob : (Nat → Bool) → World → Prop} {T : Type} {nxt : T → Prop} (h1 : ∀ D w, D j = false → E w0 w → St D w → pre w → ob D w) (h2 : ∀ x, nxt x) : flcC St j E w0 pre ob nxt := ⟨h1, h2⟩
theorem flendC_mk {St : (Nat → Bool) → World → Prop} {L : List Nat} {E : Rel} {w0 : World} {pre k : World → Prop} (h : ∀ w, E w0 w → St (fun i => L.contains i) w → pre w → k w) : flendC St L E w0 pre k := h
theorem setD_self (D : Nat → Bool) (j : Nat) : setD D j j = true := by simp [setD]
theorem setD_ne {D : Nat → Bool} {i j : Nat} (h : i ≠ j) : setD D j i = D i := by simp [setD, h]
/-- frames over several blocks -/
structure Xb (S : Nat → Prop) (w w' : World) : Prop where
  os : w'.os = w.os
  tape : w'.tape = w.tape
  output : w'.output = w.output
  size : w.heap.size ≤ w'.heap.size
  block : ∀ k, k < w.heap.size → ¬ S k → w'.heap[k]? = w.heap[k]?
theorem Xb.refl (S : Nat → Prop) (w : World) : Xb S w w := ⟨rfl, rfl, rfl, Nat.le_refl _, fun _ _ _ => rfl⟩
theorem Xb.trans {S : Nat → Prop} {a b c : World} (h : Xb S a b) (h' : Xb S b c) : Xb S a c :=
  ⟨h'.os.trans h.os, h'.tape.trans h.tape, h'.output.trans h.output, Nat.le_trans h.size h'.size, fun k hk hs => by rw [h'.block k (by have := h.size; omega) hs, h.block k hk hs]⟩
theorem Xb.of {S : Nat → Prop} {w w' : World} {o : Option Nat} (h : w.grownBy w' o) (ho : ∀ k, o = some k → S k) : Xb S w w' :=
  ⟨h.os, h.tape, h.output, h.size, fun k hk hs => h.block k hk (fun e => hs (ho k e.symm))⟩
theorem Xb.bel {S : Nat → Prop} {a w w' : World} (h : bel a w) (h' : Xb S w w') (hs : ∀ k, S k → a.heap.size ≤ k) : bel a w' :=
  ⟨h'.os.trans h.os, h'.tape.trans h.tape, h'.output.trans h.output, Nat.le_trans h.size h'.size, fun k hk => by rw [h'.block k (by have := h.size; omega) (fun q => by have := hs k q; omega), h.block k hk]⟩
theorem Xb.grown {S : Nat → Prop} {w w' : World} (h : Xb S w w') {o : Option Nat} (hs : ∀ k, S k → k < w.heap.size → o = some k) : w.grownBy w' o :=
  ⟨h.os, h.tape, h.output, h.size, fun k hk hne => h.block k hk fun q => hne (hs k q hk).symm⟩
theorem Xb.more {S S' : Nat → Prop} {a w w' : World} (h : Xb S a w) (h' : Xb S' w w') (hs : ∀ k, S' k → S k ∨ a.heap.size ≤ k) : Xb S a w' :=
  ⟨h'.os.trans h.os, h'.tape.trans h.tape, h'.output.trans h.output, Nat.le_trans h.size h'.size, fun k hk hn => by
    rw [h'.block k (by have := h.size; omega) (fun q => by
      rcases hs k q with q | q
      · exact hn q
      · omega), h.block k hk hn]⟩
theorem _root_.Go.Q.Sl.xb {S : Nat → Prop} {w w' : World} {a : Option Addr} {n c sz : Nat} {xs : List Value} (H : Sl w a n c sz xs) (hX : Xb S w w') (hne : ∀ ad, a = some ad → xs ≠ [] → ¬ S ad.block) : Sl w' a n c sz xs := by
  refine ⟨H.len, H.cap, H.most, H.nil', fun k u hu => ?_⟩
  obtain ⟨ad, q1, q2, q3⟩ := H.at' k u hu
  have hx : xs ≠ [] := by rintro rfl; simp at hu
  refine ⟨ad, q1, ?_, by have := hX.size; omega⟩
  have := hX.block ad.block q3 (hne ad q1 hx)
  unfold World.cell? at q2 ⊢
  rw [add_block] at q2 ⊢
  rw [this]; exact q2
theorem Box.xb {S : Nat → Prop} {w w' : World} {a : Addr} {cs : List Value} (X : Box w a cs) (hX : Xb S w w') (hne : ¬ S a.block) : Box w' a cs :=
  ⟨X.off, X.spot, by obtain ⟨T, hT⟩ := X.blk; exact ⟨T, by rw [hX.block _ X.lt hne]; exact hT⟩⟩
/-- slices of different kinds of elements do not lie in one block -/
theorem Own.apart {w : World} {B B' : Nat} {e e' : TypeId} {sz sz' : Nat} {a a' : Option Addr} {n c n' c' : Nat} {xs ys : List Value} (h : Own w B e sz a n c xs) (h' : Own w B' e' sz' a' n' c' ys) (hne : e ≠ e') : ∀ k, blk a = some k → blk a' = some k → False := by
  intro k hk hk'
  obtain ⟨_, h2⟩ := h
  obtain ⟨_, h2'⟩ := h'
  rcases h2 with ⟨hv, _⟩ | ⟨g, cap, cur, hv, _, hh, _⟩
  · injection hv with ha; rw [ha] at hk; cases hk
  · rcases h2' with ⟨hv', _⟩ | ⟨g', cap', cur', hv', _, hh', _⟩
    · injection hv' with ha'; rw [ha'] at hk'; cases hk'
    · injection hv with ha
      injection hv' with ha'
      subst ha ha'
      have q1 : g = k := by simpa [blk] using hk
      have q2 : g' = k := by simpa [blk] using hk'
      subst q1
      subst q2
      rw [hh] at hh'
      injection hh' with hh'
      injection hh' with _ he _
      exact hne he
theorem xg_put {w w' w'' : World} {t : Nat} {o : Option Nat} (h : w.grownBy w' (some t)) (hg : w'.grownBy w'' o) (ho : ∀ k, o = some k → w.heap.size ≤ k ∨ k = t) : w.grownBy w'' (some t) :=
  ⟨hg.os.trans h.os, hg.tape.trans h.tape, hg.output.trans h.output, Nat.le_trans h.size hg.size, fun k hk hne => by
    rw [hg.block k (by have := h.size; omega) (fun e => by
      rcases ho k e.symm with q | q
      · omega
      · exact hne (by rw [q])), h.block k hk hne]⟩
end Go.V

/- copy, and regions with a relation. -/


namespace Go.V
open Go Go.RowKit Go.Q

theorem putAt_at : ∀ (vs pre cs : List Value), vs.length ≤ cs.length → putAt (pre ++ cs) pre.length vs = pre ++ vs ++ cs.drop vs.length
  | [], pre, cs, _ => by simp [putAt]
  | v :: vs, pre, [], h => by simp at h
  | v :: vs, pre, c :: cs, h => by
    simp only [putAt]
    have h1 : (pre ++ c :: cs).set pre.length v = (pre ++ [v]) ++ cs := by simp
    rw [h1]
    have := putAt_at vs (pre ++ [v]) cs (by simpa using h)
    simp only [List.length_append, List.length_cons, List.length_nil, Nat.zero_add] at this
    rw [this]; simp
theorem run_storeOwn {P : Program} {B : Nat} {e : TypeId} {ad : Addr} {n c : Nat} : ∀ (vs : List Value) (i : Nat) (w : World) (xs : List Value), Own w B e 1 (some ad) n c xs → i + vs.length ≤ xs.length → plainV vs = true →
    ∃ w', (storeCells ad vs i).run P w = .ok () w' ∧ Own w' B e 1 (some ad) n c (putAt xs i vs) ∧ w.grownBy w' (some ad.block) ∧ w'.heap.size = w.heap.size
  | [], i, w, xs, hb, _, _ => ⟨w, rfl, hb, grown_refl _ _, rfl⟩
  | v :: vs, i, w, xs, hb, hl, hp => by
    simp only [plainV, List.all_cons, Bool.and_eq_true] at hp
    simp only [List.length_cons] at hl
    obtain ⟨u, hu⟩ : ∃ u, xs[i]? = some u := ⟨_, List.getElem?_eq_getElem (by omega)⟩
    obtain ⟨ad', h1, hc, hfz, _⟩ := hb.cell (j := i) hu
    cases h1
    obtain ⟨w', h1, h2, h3, h4⟩ := run_storeOwn (P := P) vs (i + 1) (w.setCell (ad.add i) v) (xs.set i v) (hb.set i v) (by simp; omega) hp.2
    refine ⟨w', ?_, h2, ?_, by rw [h4, setCell_size]⟩
    · simp only [storeCells, Sem.run_bind]
      rw [run_store P w (ad.add i) v .plain hp.1, hc]
      simp only [hfz, Bool.false_eq_true, if_false, Result.andThen_ok, h1]
    · refine World.grownBy.trans ?_ h3
      have := setCell_grown w (ad.add i) v
      rwa [add_block] at this
/-- copy into a slice of one's own -/
theorem wr_copy {P : Program} {t e : TypeId} {z : Value} {bytes : Nat} (T : TyS P t e z 1 bytes) {w : World} {B : Nat} {a b : Option Addr} {n c m c' : Nat} {xs ys : List Value} {ty : TypeId} {k : Int → World → Prop}
    (O : Own w B e 1 a n c xs) (S : Sl w b m c' 1 ys) (hp : plainV ys = true)
    (hk : ∀ w', Own w' B e 1 a n c (ys.take n ++ xs.drop m) → w.grownBy w' (blk a) → w'.heap.size = w.heap.size → k ((Nat.min m n : Nat) : Int) w') :
    wr P (Builtin.copy_ #[t, t] ty #[.slice a n c, .slice b m c']) (.one (.int .i64)) w k := by
  obtain ⟨i, h1, _, h2, _⟩ := info_parts T.hi
  have hxs : xs.length = n := by have := O.1; omega
  have hys : ys.length = m := by have := S.len; omega
  have hi : i.size = 1 := h2
  have hmin : (Nat.min m n) = min m n := rfl
  have hcl : (ys.take n).length = Nat.min m n := by rw [List.length_take, hys, hmin]; omega
  have key : putAt xs 0 (ys.take n) = ys.take n ++ xs.drop m := by
    have := putAt_at (ys.take n) [] xs (by rw [hcl, hmin]; omega)
    simp only [List.nil_append, List.length_nil] at this
    rw [this, hcl, hmin]
    rcases Nat.le_total m n with q | q
    · rw [show min m n = m by omega]
    · rw [show min m n = n by omega, List.drop_of_length_le (by omega), List.drop_of_length_le (by omega)]
  have hpl : plainV (ys.take n) = true := by
    unfold plainV at hp ⊢
    rw [List.all_eq_true] at hp ⊢
    exact fun x hx => hp x (List.mem_of_mem_take hx)
  cases a with
  | none =>
    have hn0 : n = 0 := by
      rcases O.2 with ⟨hv, _⟩ | ⟨g, cap, cur, hv, _⟩
      · injection hv
      · cases hv
    subst hn0
    have hx0 : xs = [] := List.eq_nil_of_length_eq_zero hxs
    subst hx0
    refine ⟨(0 : Int), w, ?_, ?_⟩
    · cases b with
      | none => simp [Builtin.copy_, run_underlying T.ht, Builtin.lenOf, Builtin.firstCells, sizeOf, typeInfo, h1, goInt]; rfl
      | some b =>
        have hl := run_loadCells_list (P := P) w b [] (fun j v h => by simp at h)
        simp [Builtin.copy_, run_underlying T.ht, Builtin.lenOf, Builtin.firstCells, sizeOf, typeInfo, h1] at hl ⊢
        simp [hl, goInt]; rfl
    · have := hk w (by simpa using O) (grown_refl _ _) rfl
      simpa [hmin] using this
  | some ad =>
    obtain ⟨w', r1, r2, r3, r4⟩ := run_storeOwn (P := P) (ys.take n) 0 w xs O (by rw [hcl, hmin]; omega) hpl
    rw [key] at r2
    refine ⟨((Nat.min m n : Nat) : Int), w', ?_, hk w' r2 r3 r4⟩
    cases b with
    | none =>
      have hm0 : m = 0 := (S.nil' rfl).1
      subst hm0
      have hy0 : ys = [] := List.eq_nil_of_length_eq_zero hys
      subst hy0
      simp at r1
      simp [Builtin.copy_, run_underlying T.ht, Builtin.lenOf, Builtin.firstCells, sizeOf, typeInfo, h1, goInt, r1]; rfl
    | some b =>
      have hl := run_loadCells_list (P := P) w b (ys.take n) (fun j v h => by
        have hj : ys[j]? = some v := by
          rw [List.getElem?_take] at h
          split at h
          · exact h
          · cases h
        obtain ⟨ad', q1, q2, _⟩ := S.at' j v hj
        cases q1; exact q2)
      rw [hcl] at hl
      simp [Builtin.copy_, run_underlying T.ht, Builtin.lenOf, Builtin.firstCells, sizeOf, typeInfo, h1, hi, hl, r1, goInt]; rfl
theorem Own.putNew {w w' : World} {B : Nat} {e : TypeId} {sz : Nat} {a : Option Addr} {n c : Nat} {xs : List Value} {k : Nat} (O : Own w B e sz a n c xs) (h : w.grownBy w' (some k)) (hk : ∀ j, blk a = some j → j ≠ k) : Own w' B e sz a n c xs := by
  refine O.keptBy h ?_
  cases hj : blk a with
  | none => exact .inl rfl
  | some j => exact .inr fun q => hk j hj (by injection q)
theorem flExE_mk {B : Rel → Facts → Prop} (E : Rel) (Φ : Facts) (h1 : ∀ w, E w w) (h2 : ∀ a b c, E a b → E b c → E a c) (h3 : ∀ i ags v w w', Φ i ags v w → E w w' → Φ i ags v w') (h4 : B E Φ) : flExE B := ⟨E, Φ, h1, h2, h3, h4⟩
end Go.V

/- Queues: the tail of a block of one's own; two stores in one region. -/

namespace Go.V
open Go Go.RowKit Go.Q

/-- a queue: the cells from some place on -/
structure QAt (w : World) (B : Nat) (e : TypeId) (q : Option Addr × Nat × Nat) (xs : List Value) : Prop where
  len : xs.length = q.2.1
  cap : q.2.1 ≤ q.2.2
  most : q.2.2 ≤ maxLen
  nil' : q.1 = none → q.2.1 = 0 ∧ q.2.2 = 0
  mem : 0 < q.2.2 → ∃ g p cur, q.1 = some ⟨g, p, none⟩ ∧ B ≤ g ∧ w.heap[g]? = some (.cells cur e (0, 0)) ∧ p + q.2.2 = cur.size ∧ (cur.toList.drop p).take q.2.1 = xs
theorem QAt.nil (w : World) (B : Nat) (e : TypeId) : QAt w B e (none, 0, 0) [] := ⟨rfl, Nat.le_refl _, Nat.zero_le _, fun _ => ⟨rfl, rfl⟩, fun h => absurd h (by simp)⟩
theorem QAt.xg {w w' : World} {B : Nat} {e : TypeId} {q : Option Addr × Nat × Nat} {xs : List Value} {b : Nat} (h : QAt w B e q xs) (hg : w.grownBy w' (some b)) (hb : b < B) : QAt w' B e q xs :=
  ⟨h.len, h.cap, h.most, h.nil', fun hc => by
    obtain ⟨g, p, cur, h1, h2, h3, h4, h5⟩ := h.mem hc
    exact ⟨g, p, cur, h1, h2, (hg.block g (Array.getElem?_eq_some_iff.1 h3).1 (by intro e; injection e; omega)).trans h3, h4, h5⟩⟩
theorem QAt.up {w w' : World} {B : Nat} {e : TypeId} {q : Option Addr × Nat × Nat} {xs : List Value} (h : QAt w B e q xs) (hg : bel w w') : QAt w' B e q xs :=
  ⟨h.len, h.cap, h.most, h.nil', fun hc => by
    obtain ⟨g, p, cur, h1, h2, h3, h4, h5⟩ := h.mem hc
    exact ⟨g, p, cur, h1, h2, (Below.block hg g (Array.getElem?_eq_some_iff.1 h3).1).trans h3, h4, h5⟩⟩
theorem QAt.sl {w : World} {B : Nat} {e : TypeId} {q : Option Addr × Nat × Nat} {xs : List Value} (h : QAt w B e q xs) : Sl w q.1 q.2.1 q.2.2 1 xs := by
  have := h.most
  refine ⟨by rw [h.len, Nat.mul_one], h.cap, by unfold maxLen at this; omega, h.nil', fun j u hu => ?_⟩
  have hj : j < xs.length := (List.getElem?_eq_some_iff.1 hu).1
  obtain ⟨g, p, cur, h1, h2, h3, h4, h5⟩ := h.mem (by have := h.len; have := h.cap; omega)
  refine ⟨⟨g, p, none⟩, h1, ?_, (Array.getElem?_eq_some_iff.1 h3).1⟩
  rw [Addr.add_lit]
  unfold World.cell?
  simp only [h3, Option.isSome_none, Bool.false_eq_true, if_false]
  rw [← h5, List.getElem?_take] at hu
  split at hu
  · rw [List.getElem?_drop] at hu
    simpa using hu
  · cases hu
/-- the head falls off -/
theorem QAt.tail {w : World} {B : Nat} {e : TypeId} {q : Option Addr × Nat × Nat} {x : Value} {xs : List Value} (h : QAt w B e q (x :: xs)) : ∃ q' : Option Addr × Nat × Nat, (sliced q.1 1 q.2.1 q.2.2 1 = .slice q'.1 q'.2.1 q'.2.2) ∧ QAt w B e q' xs := by
  have hl := h.len
  have hc := h.cap
  have hm := h.most
  simp only [List.length_cons] at hl
  obtain ⟨g, p, cur, h1, h2, h3, h4, h5⟩ := h.mem (by omega)
  refine ⟨((if q.2.2 = 1 then q.1 else q.1.map (·.add (1 * 1))), q.2.1 - 1, q.2.2 - 1), rfl, by dsimp only; omega, by dsimp only; omega, by dsimp only; omega, fun e => ?_, fun hc' => ?_⟩
  · dsimp only at e
    rw [h1] at e
    split at e <;> cases e
  · dsimp only at hc' ⊢
    refine ⟨g, p + 1, cur, ?_, h2, h3, by omega, ?_⟩
    · rw [if_neg (by omega), h1]; simp [Addr.add_lit]
    · have e1 : q.2.1 = (q.2.1 - 1) + 1 := by omega
      rw [e1] at h5
      have hp : p < cur.toList.length := by rw [Array.length_toList]; omega
      rw [List.drop_eq_getElem_cons hp, List.take_succ_cons] at h5
      injection h5
theorem q_tail {P : Program} {t e : TypeId} {z : Value} {bytes : Nat} (T : TyS P t e z 1 bytes) {w : World} {B : Nat} {q : Option Addr × Nat × Nat} {x : Value} {xs : List Value} {K : (Option Addr × Nat × Nat) → Prop} (h : QAt w B e q (x :: xs)) (hk : ∀ q', QAt w B e q' xs → K q') :
    rdp P (Instr.sliceAt t (.slice q.1 q.2.1 q.2.2) (some (.int .i64 1)) none none) (.one .slice) K := by
  obtain ⟨q', h1, h2⟩ := h.tail
  refine ⟨q', fun w => ?_, hk q' h2⟩
  have hl := h.len
  simp only [List.length_cons] at hl
  have ht : P.underlying t = some (.slice (P.elem t)) := by rw [T.elem]; exact T.ht
  rw [run_sliceAt_slice _ _ _ _ _ _ ht, run_slice_l _ _ _ _ _ ht _ _ (by omega) (by omega), T.elem, T.size]
  simp only [Result.andThen_ok]
  rw [show (1 : Int).toNat = 1 from rfl, h1]; rfl
/-- an element is laid behind -/
theorem wr_appQ {P : Program} {t e : TypeId} {z : Value} {bytes : Nat} (T : TyS P t e z 1 bytes) {w : World} {B : Nat} {q : Option Addr × Nat × Nat} {xs : List Value} (O : QAt w B e q xs) {ty : TypeId} {v : Value} {k : (Option Addr × Nat × Nat) → World → Prop}
    (hB : B ≤ w.heap.size) (hz : z.cells.size = 1) (hv : v.cells.size = 1) (hp : plainV v.cells.toList = true) (hb : (q.2.1 + 1) * bytes ≤ 140737488355328) (hn : q.2.1 + 1 ≤ maxLen)
    (hk : ∀ q' w', QAt w' B e q' (xs ++ v.cells.toList) → Below B w w' → k q' w') :
    wr P (Instr.buildSlice t 1 #[(0, v)]) (.one .slice) w fun x w1 => wr P (Builtin.append_ #[t, t] ty #[.slice q.1 q.2.1 q.2.2, .slice x.1 x.2.1 x.2.2]) (.one .slice) w1 k := by
  refine wr_lit T v.cells (fill_one 1 v _ hv (by simp)) (by omega) (by omega) (by omega) (by unfold maxLen; omega) fun ad w1 L h1 h2 h3 => ?_
  have L1 := L B hB
  replace O := O.up h1
  have hl : v.cells.toList.length = 1 := by simpa using hv
  have hne : ∀ j u, v.cells.toList[j]? = some u → w1.cell? (ad.add j) = some u := fun j u hj => by
    obtain ⟨ad', q1, q2, _⟩ := L1.cell (j := j) hj
    cases q1; exact q2
  have h1c : ∀ u ∈ v.cells.toList, u.oneCell' = true := fun u hu => by unfold plainV at hp; rw [List.all_eq_true] at hp; exact hp u hu
  obtain ⟨i, hi0, hz0, hz1, hz2⟩ := info_parts T.hi
  have hx := O.len
  have hcm := O.most
  have b1 : Below B w w1 := ⟨h1.os, h1.tape, h1.output, h1.size, fun k hk => h1.block k (by omega)⟩
  by_cases hroom : q.2.1 + 1 ≤ q.2.2
  · obtain ⟨g, p, cur, g1, g2, g3, g4, g5⟩ := O.mem (by omega)
    have hst := run_storeCells_at P g (p + q.2.1) e v.cells.toList 0 cur w1 g3 (by rw [hl]; omega) h1c
    simp only [Nat.add_zero] at hst
    have hf := run_firstCells_some (P := P) w1 1 1 ad 1 1 v.cells.toList (by rw [hl]) hne
    refine ⟨((q.1, q.2.1 + 1, q.2.2) : Option Addr × Nat × Nat), w1.setRow g (cur.toList.take (p + q.2.1) ++ v.cells.toList ++ cur.toList.drop (p + q.2.1 + v.cells.toList.length)).toArray, ?_, hk _ _ ?_ ?_⟩
    · rw [g1]
      simp [Builtin.append_, run_underlying T.ht, sizeOf, typeInfo, hi0, hz1, Builtin.lenOf, hroom, hf, Addr.add_lit, hst]
      rfl
    · have hcs : cur.toList.length = cur.size := Array.length_toList
      refine ⟨by simp [hx, hv], by dsimp only; omega, hcm, (fun e => by rw [g1] at e; cases e), fun _ => ⟨g, p, _, g1, g2, setRow_heap w1 g cur _ e _ g3, ?_, ?_⟩⟩
      · simp only [List.size_toArray, List.length_append, List.length_take, List.length_drop, hl]
        omega
      · dsimp only
        rw [hl]
        have e1 : List.drop p (List.take (p + q.2.1) cur.toList) = xs := by
          rw [← g5, List.drop_take, show p + q.2.1 - p = q.2.1 by omega]
        rw [List.append_assoc, List.drop_append_of_le_length (by rw [List.length_take]; omega), e1, ← List.append_assoc]
        have e2 : q.2.1 + 1 = (xs ++ v.cells.toList).length := by rw [List.length_append, hx, hl]
        rw [e2]; exact List.take_left
    · exact ⟨b1.os, b1.tape, b1.output, by simpa using b1.size, fun k hk => (setRow_other w1 g k _ (by omega)).trans (b1.block k hk)⟩
  · have hcm' : grownCap w1 (q.2.1 + 1) q.2.2 e ≤ maxLen := grownCap_le_maxLen w1 _ _ e hn
    have hge := grownCap_ge w1 (q.2.1 + 1) q.2.2 e
    have hA : ∀ cs, Below B w (w1.drew.alloc (.cells cs e)) := fun cs => ⟨b1.os, b1.tape, b1.output, by have := b1.size; simp; omega, fun k hk => (Go.RowKit.Below.heap_alloc w1.drew _ k (by have := b1.size; show k < w1.heap.size; omega)).trans (b1.block k hk)⟩
    have hQ : ∀ olds : List Value, olds = xs → QAt (w1.drew.alloc (.cells (olds.toArray ++ v.cells.toList.toArray ++ Builtin.zeroCells z.cells (grownCap w1 (q.2.1 + 1) q.2.2 e - (q.2.1 + 1))) e)) B e (some ⟨w1.heap.size, 0, none⟩, q.2.1 + 1, grownCap w1 (q.2.1 + 1) q.2.2 e) (xs ++ v.cells.toList) := by
      intro olds ho
      subst ho
      refine ⟨by rw [List.length_append, hl, hx], hge, hcm', (fun e => by cases e), fun _ => ⟨w1.heap.size, 0, _, rfl, by have := b1.size; omega, heap_alloc_new w1.drew _, ?_, ?_⟩⟩
      · simp only [Array.size_append, List.size_toArray, size_zeroCells, hz, hl, hx]
        omega
      · simp only [Array.toList_append, List.append_assoc, List.drop_zero]
        have e2 : q.2.1 + 1 = (olds ++ v.cells.toList).length := by rw [List.length_append, hx, hl]
        rw [← List.append_assoc, e2]; exact List.take_left
    cases hq : q.1 with
    | none =>
      obtain ⟨n1, n2⟩ := O.nil' hq
      have hx0 : xs = [] := List.eq_nil_of_length_eq_zero (by omega)
      have hr := run_append_nil (P := P) w1 t ty e i z T.ht hi0 hz0 ad 1 1 v.cells.toList (by rw [hl, hz1]) hne (by omega) (by omega) (by rw [hz2]; rw [n1] at hb; omega)
      have hQ' := hQ [] hx0.symm
      rw [n1, n2] at hQ' ⊢
      simp only [Array.empty_append, Nat.zero_add] at hQ'
      exact ⟨(some ⟨w1.heap.size, 0, none⟩, 1, grownCap w1 1 0 e), _, hr, hk _ _ hQ' (hA _)⟩
    | some b =>
      have holds : ∀ j u, xs[j]? = some u → w1.cell? (b.add j) = some u := fun j u hu => by
        obtain ⟨ad', q1, q2, _⟩ := O.sl.at' j u hu
        rw [hq] at q1; cases q1; exact q2
      have hr := run_append_grow (P := P) w1 t ty e i z T.ht hi0 hz0 b q.2.1 q.2.2 xs (by rw [hx, hz1, Nat.mul_one]) holds ad 1 1 v.cells.toList (by rw [hl, hz1]) hne (by omega) (by unfold maxLen at hn; omega) (growslice_fits (by omega) (by rw [hz2]; exact hb))
      exact ⟨(some ⟨w1.heap.size, 0, none⟩, q.2.1 + 1, grownCap w1 (q.2.1 + 1) q.2.2 e), _, hr, hk _ _ (hQ xs rfl) (hA _)⟩
theorem rdE_boxN {P : Program} {E : Rel} {t : TypeId} {l : List Sh} {w : World} {a : Addr} {cs : List Value} {x : LT l} {k : LT l → Prop} (h : ∀ w', E w w' → Box w' a cs) (ht : aggOf P t cs.length = true) (hx : Lget l cs = some x) (hk : k x) :
    rdE P E (Instr.loadAt t (.pointer (some a))) (.agg l) w k := ⟨x, fun w' hw => by rw [run_loadAt, run_loadVarN ht (fun _ _ hj => (h w' hw).cell hj), Lget_spec hx]; rfl, hk⟩
/-- an append beyond the room: the new row is the next block -/
theorem wr_appG {P : Program} {t e : TypeId} {z : Value} {bytes : Nat} (T : TyS P t e z 1 bytes) {w : World} {B : Nat} {sa : Addr} {n c : Nat} {xs : List Value} (O : Own w B e 1 (some sa) n c xs) {ty : TypeId} {ad : Addr} {m mc : Nat} {ys : List Value} (H : Sl w (some ad) m mc 1 ys) {k : (Option Addr × Nat × Nat) → World → Prop}
    (hB : B ≤ w.heap.size) (hz : z.cells.size = 1) (hp : plainV ys = true) (hb : (n + m) * bytes ≤ 140737488355328) (hn : n + m ≤ maxLen) (hc : c < n + m)
    (hk : ∀ c' w', Own w' B e 1 (some ⟨w.heap.size, 0, none⟩) (n + m) c' (xs ++ ys) → w.grownBy w' (some sa.block) → k (some ⟨w.heap.size, 0, none⟩, n + m, c') w') :
    wr P (Builtin.append_ #[t, t] ty #[.slice (some sa) n c, .slice (some ad) m mc]) (.one .slice) w k := by
  have hy : ∀ j u, ys[j]? = some u → w.cell? (ad.add j) = some u := fun j u hj => by
    obtain ⟨ad', q1, q2, _⟩ := H.at' j u hj
    cases q1; exact q2
  have hx : ∀ j u, xs[j]? = some u → w.cell? (sa.add j) = some u := fun j u hj => by
    obtain ⟨ad', q1, q2, _⟩ := O.sl.at' j u hj
    cases q1; exact q2
  obtain ⟨a', c', w2, hr, hA⟩ := run_app (P := P) w t ty B e z 1 bytes T.ht T.hi hz (by omega) (some sa) n c xs O ad m mc ys H.len hy (fun u hu => by
      unfold plainV at hp; rw [List.all_eq_true] at hp; exact hp u hu) hb hn hB
  obtain ⟨i, hi0, hz0, hz1, hz2⟩ := info_parts T.hi
  have hr2 := run_append_grow (P := P) w t ty e i z T.ht hi0 hz0 sa n c xs (by rw [hz1]; exact O.1) hx ad m mc ys (by rw [hz1]; exact H.len) hy hc (by unfold maxLen at hn; omega) (growslice_fits hc (by rw [hz2]; exact hb))
  have e := hr.symm.trans hr2
  injection e with e1 e2
  injection e1 with e1 e3 e4
  have O' := hA.own
  rw [e1] at O' hr
  exact ⟨(some ⟨w.heap.size, 0, none⟩, n + m, c'), w2, hr, hk c' w2 O' hA.grown⟩
theorem idxQ {P : Program} {t e : TypeId} {z : Value} {bytes : Nat} (T : TyS P t e z 1 bytes) {a : Option Addr} {ad : Addr} {n c j : Nat} {k : IntKind} {i : Int} {K : Addr → Prop} (hj : i = (j : Int)) (h : j < n) (ha : a = some ad) (hk : K (ad.add j)) :
    rdp P (Instr.indexAt t (.slice a n c) (.int k i)) (.one .addr) K := by
  refine idx_mk T hj h ha ?_
  rw [Nat.mul_one]; exact hk
/-- 'a[i], b[k] = v, ..': the first store of a region that tells its states -/
theorem fl2 {P : Program} {w : World} {j j2 : Nat} {p1 p2 : Addr} {tA tB e : TypeId} {z : Value} {bytes : Nat} (T : TyS P tA e z 1 bytes) {B0 : Nat} {a : Addr} {n c : Nat} {xs : List Value} (O : Own w B0 e 1 (some a) n c xs) {h2 : Option Addr × Nat × Nat} {i : Int} {k : Nat} {v : Value}
    (hs : sizeIs P e 1 = true) (hr1 : scal P tA = true) (hr2 : scal P tB = true)
    (q1 : ∀ w', Xg a.block w w' → w'.cell? p1 = some (.slice (some a) n c)) (q2 : ∀ w', Xg a.block w w' → w'.cell? p2 = some (.slice h2.1 h2.2.1 h2.2.2))
    (hi : i = (k : Int)) (hk : k < n) (hv : v.oneCell' = true) {K : (Option Addr × Nat × Nat) → World → Prop}
    (hK : ∀ w', Own w' B0 e 1 (some a) n c (xs.set k v) → Xg a.block w w' → K h2 w') :
    flExC w fun E G Y F => rdE P (ER Y [j, j2] E) (Instr.loadAt tA (.pointer (some p1))) (.one .slice) w fun x57 => rdE P (ER Y [j2] E) (Instr.loadAt tB (.pointer (some p2))) (.one .slice) w fun x58 =>
      rdp P (Instr.indexAt tA (.slice x57.1 x57.2.1 x57.2.2) (.int .i64 i)) (.one .addr) fun x59 =>
      flcC Y j E w (fun _ => True) (fun D w60 => wu P (Instr.storeAt e (.pointer (some x59)) v) w60 fun w63 => (E w60 w63 ∧ G j w60 w63 ∧ Y (setD D j) w63 ∧ F j [] undef w63)) fun (_ : Unit) =>
      flendC Y [j] E w (fun w66 => F j [] (.tuple #[]) w66 ∧ True) fun w65 => K x58 w65 := by
  refine flExC_mk (Xg a.block) (fun _ _ _ => True) (fun D w' => (D j = false → Own w' B0 e 1 (some a) n c xs) ∧ (D j = true → Own w' B0 e 1 (some a) n c (xs.set k v))) (fun _ _ _ _ => True)
    (fun w => grown_refl w _) (fun _ _ _ a b => grown_trans a b) (fun _ _ _ _ _ _ _ _ _ _ => trivial) ⟨fun _ => O, fun q => by cases q⟩ ?_
  refine ⟨((some a, n, c) : Option Addr × Nat × Nat), fun w' hE => by rw [run_loadAt, run_loadVar1 hr1 (q1 w' hE.1)]; rfl, ?_⟩
  refine ⟨h2, fun w' hE => by rw [run_loadAt, run_loadVar1 hr2 (q2 w' hE.1)]; rfl, ?_⟩
  refine idxQ T hi (by dsimp only; omega) rfl ?_
  refine flcC_mk (fun D w47 hD hE hS _ => ?_) (fun _ => ?_)
  · refine wu_own hs (hS.1 hD) hk hv fun w50 O' hg _ => ?_
    exact ⟨hg, trivial, ⟨(fun q => by rw [setD_self] at q; cases q), fun _ => O'⟩, trivial⟩
  · refine flendC_mk fun w52 hE hS _ => ?_
    exact hK w52 (hS.2 (by simp)) hE
end Go.V

/- Stable sorting, as a function of places: no program in sight. -/

namespace Go.Srt

/-- a strict weak order of tags -/
structure SWO (k : Nat → Nat → Prop) : Prop where
  irr : ∀ a, ¬ k a a
  tr : ∀ a b c, k a b → k b c → k a c
  neg : ∀ a b c, k a c → k a b ∨ k b c
/-- ties are broken by the tags -/
def Lt (k : Nat → Nat → Prop) (s t : Nat) : Prop := k s t ∨ (¬ k t s ∧ s < t)
section
variable {k : Nat → Nat → Prop}
theorem Lt.tr (K : SWO k) {a b c : Nat} (h : Lt k a b) (h' : Lt k b c) : Lt k a c := by
  rcases h with h | ⟨h1, h2⟩ <;> rcases h' with h' | ⟨h1', h2'⟩
  · exact .inl (K.tr _ _ _ h h')
  · rcases K.neg a c b h with q | q
    · exact .inl q
    · exact absurd q h1'
  · rcases K.neg b a c h' with q | q
    · exact absurd q h1
    · exact .inl q
  · refine .inr ⟨fun q => ?_, by omega⟩
    rcases K.neg c b a q with r | r
    · exact h1' r
    · exact h1 r
theorem Lt.tot (a b : Nat) (h : a ≠ b) : Lt k a b ∨ Lt k b a := by
  by_cases h1 : k a b
  · exact .inl (.inl h1)
  · by_cases h2 : k b a
    · exact .inr (.inl h2)
    · rcases Nat.lt_or_gt_of_ne h with q | q
      · exact .inl (.inr ⟨h2, q⟩)
      · exact .inr (.inr ⟨h1, q⟩)
theorem Lt.asym (K : SWO k) {a b : Nat} (h : Lt k a b) : ¬ Lt k b a := fun h' => by
  rcases Lt.tr K h h' with q | ⟨_, q⟩
  · exact K.irr a q
  · omega
/-- a later tag is less only by its key -/
theorem Lt.late {s t : Nat} (h : s < t) : Lt k t s ↔ k t s := ⟨fun q => q.elim id fun q => absurd q.2 (by omega), .inl⟩
theorem Lt.early (K : SWO k) {s t : Nat} (h : s < t) : ¬ k t s ↔ Lt k s t := by
  constructor
  · intro q
    rcases Lt.tot (k := k) s t (by omega) with r | r
    · exact r
    · exact absurd ((Lt.late h).1 r) q
  · intro q r
    exact Lt.asym K q (.inl r)
end
/-- places a to b ascend -/
def Srtd (k : Nat → Nat → Prop) (f : Nat → Nat) (a b : Nat) : Prop := ∀ x y, a ≤ x → x < y → y < b → Lt k (f x) (f y)
/-- the same tags, in another order -/
structure RP (a b : Nat) (f g : Nat → Nat) : Prop where
  at' : ∀ x, a ≤ x → x < b → ∃ y, a ≤ y ∧ y < b ∧ g x = f y
  on' : ∀ y, a ≤ y → y < b → ∃ x, a ≤ x ∧ x < b ∧ g x = f y
  off' : ∀ x, ¬ (a ≤ x ∧ x < b) → g x = f x
theorem RP.refl (a b : Nat) (f : Nat → Nat) : RP a b f f := ⟨fun x h1 h2 => ⟨x, h1, h2, rfl⟩, fun x h1 h2 => ⟨x, h1, h2, rfl⟩, fun _ _ => rfl⟩
theorem RP.trans {a b : Nat} {f g h : Nat → Nat} (h1 : RP a b f g) (h2 : RP a b g h) : RP a b f h := by
  refine ⟨fun x p q => ?_, fun x p q => ?_, fun x hx => by rw [h2.off' x hx, h1.off' x hx]⟩
  · obtain ⟨y, y1, y2, y3⟩ := h2.at' x p q
    obtain ⟨z, z1, z2, z3⟩ := h1.at' y y1 y2
    exact ⟨z, z1, z2, y3.trans z3⟩
  · obtain ⟨y, y1, y2, y3⟩ := h1.on' x p q
    obtain ⟨z, z1, z2, z3⟩ := h2.on' y y1 y2
    exact ⟨z, z1, z2, z3.trans y3⟩
theorem RP.mono {a b a' b' : Nat} {f g : Nat → Nat} (h : RP a b f g) (h1 : a' ≤ a) (h2 : b ≤ b') : RP a' b' f g := by
  refine ⟨fun x p q => ?_, fun x p q => ?_, fun x hx => h.off' x (by omega)⟩
  · by_cases c : a ≤ x ∧ x < b
    · obtain ⟨y, y1, y2, y3⟩ := h.at' x c.1 c.2
      exact ⟨y, by omega, by omega, y3⟩
    · exact ⟨x, p, q, h.off' x c⟩
  · by_cases c : a ≤ x ∧ x < b
    · obtain ⟨y, y1, y2, y3⟩ := h.on' x c.1 c.2
      exact ⟨y, by omega, by omega, y3⟩
    · exact ⟨x, p, q, h.off' x c⟩
theorem RP.at {a b : Nat} {f g : Nat → Nat} (h : RP a b f g) {x : Nat} (h1 : a ≤ x) (h2 : x < b) : ∃ y, a ≤ y ∧ y < b ∧ g x = f y := h.at' x h1 h2
theorem RP.off {a b : Nat} {f g : Nat → Nat} (h : RP a b f g) {x : Nat} (hx : ¬ (a ≤ x ∧ x < b)) : g x = f x := h.off' x hx
/-- two places change -/
def sw (f : Nat → Nat) (i j : Nat) : Nat → Nat := fun x => if x = i then f j else if x = j then f i else f x
/-- blocks a..m and m..b change -/
def rot (f : Nat → Nat) (a m b : Nat) : Nat → Nat := fun x => if a ≤ x ∧ x < a + (b - m) then f (x + (m - a)) else if a + (b - m) ≤ x ∧ x < b then f (x - (b - m)) else f x
/-- n places from a on and from b on change -/
def swp (f : Nat → Nat) (a b n : Nat) : Nat → Nat := fun x => if a ≤ x ∧ x < a + n then f (x + (b - a)) else if b ≤ x ∧ x < b + n then f (x - (b - a)) else f x
theorem swp_zero (f : Nat → Nat) (a b : Nat) : swp f a b 0 = f := by
  funext x; unfold swp
  rw [if_neg (by omega), if_neg (by omega)]
theorem swp_step {f : Nat → Nat} {a b n : Nat} (h : a + n < b) : sw (swp f a b n) (a + n) (b + n) = swp f a b (n + 1) := by
  funext x
  simp only [swp, sw]
  (repeat' split) <;> first | rfl | (exfalso; omega) | (congr 1; omega)
/-- the steps of a rotation -/
theorem rot_left {f : Nat → Nat} {m i j : Nat} (hi : i ≤ m) (hij : j < i) : rot (swp f (m - i) m j) (m - (i - j)) m (m + j) = rot f (m - i) m (m + j) := by
  funext x
  simp only [rot, swp]
  (repeat' split) <;> first | rfl | (exfalso; omega) | (congr 1; omega)
theorem rot_right {f : Nat → Nat} {m i j : Nat} (hi : i ≤ m) (hij : i < j) : rot (swp f (m - i) (m + j - i) i) (m - i) m (m + (j - i)) = rot f (m - i) m (m + j) := by
  funext x
  simp only [rot, swp]
  (repeat' split) <;> first | rfl | (exfalso; omega) | (congr 1; omega)
theorem rot_mid {f : Nat → Nat} {m i : Nat} (hi : i ≤ m) : swp f (m - i) m i = rot f (m - i) m (m + i) := by
  funext x
  simp only [rot, swp]
  (repeat' split) <;> first | rfl | (exfalso; omega) | (congr 1; omega)
theorem rot_RP {f : Nat → Nat} {a m b : Nat} (h1 : a ≤ m) (h2 : m ≤ b) : RP a b f (rot f a m b) := by
  refine ⟨fun x hx hy => ?_, fun x hx hy => ?_, fun x hx => ?_⟩
  · by_cases h : x < a + (b - m)
    · exact ⟨x + (m - a), by omega, by omega, by unfold rot; rw [if_pos ⟨hx, h⟩]⟩
    · exact ⟨x - (b - m), by omega, by omega, by unfold rot; rw [if_neg (by omega), if_pos (by omega)]⟩
  · by_cases h : x < m
    · refine ⟨x + (b - m), by omega, by omega, ?_⟩
      unfold rot
      rw [if_neg (by omega), if_pos (by omega)]; congr 1; omega
    · refine ⟨x - (m - a), by omega, by omega, ?_⟩
      unfold rot
      rw [if_pos (by omega)]; congr 1; omega
  · unfold rot
    rw [if_neg (by omega), if_neg (by omega)]
/-- a later place is laid before others -/
theorem rot_up {f : Nat → Nat} {a k : Nat} (h : a ≤ k) : sw (rot f a (a + 1) (k + 1)) k (k + 1) = rot f a (a + 1) (k + 2) := by
  funext x
  simp only [rot, sw]
  (repeat' split) <;> first | rfl | (exfalso; omega) | (congr 1; omega)
theorem rot_down {f : Nat → Nat} {k m : Nat} (h : k < m) : sw (rot f (k + 1) m (m + 1)) (k + 1) k = rot f k m (m + 1) := by
  funext x
  simp only [rot, sw]
  (repeat' split) <;> first | rfl | (exfalso; omega) | (congr 1; omega)
/-- a rotation that brings the halves in order -/
theorem rot_srt {k : Nat → Nat → Prop} {f : Nat → Nat} {a m b : Nat} (h1 : a ≤ m) (h2 : m ≤ b) (s1 : Srtd k f a m) (s2 : Srtd k f m b) (h : ∀ x y, a ≤ x → x < m → m ≤ y → y < b → Lt k (f y) (f x)) : Srtd k (rot f a m b) a b := by
  intro x y hx hxy hy
  unfold rot
  by_cases c1 : x < a + (b - m)
  · rw [if_pos ⟨hx, c1⟩]
    by_cases c2 : y < a + (b - m)
    · rw [if_pos ⟨by omega, c2⟩]
      exact s2 _ _ (by omega) (by omega) (by omega)
    · rw [if_neg (by omega), if_pos (by omega)]
      exact h _ _ (by omega) (by omega) (by omega) (by omega)
  · rw [if_neg (by omega), if_pos (by omega), if_neg (by omega), if_pos (by omega)]
    exact s1 _ _ (by omega) (by omega) (by omega)
theorem srt_join {k : Nat → Nat → Prop} {f : Nat → Nat} {a m b : Nat} (s1 : Srtd k f a m) (s2 : Srtd k f m b) (h : ∀ x y, a ≤ x → x < m → m ≤ y → y < b → Lt k (f x) (f y)) : Srtd k f a b := by
  intro x y hx hxy hy
  by_cases c1 : y < m
  · exact s1 x y hx hxy c1
  · by_cases c2 : x < m
    · exact h x y hx c2 (by omega) hy
    · exact s2 x y (by omega) hxy hy
theorem srt_congr {k : Nat → Nat → Prop} {f g : Nat → Nat} {a b : Nat} (h : Srtd k f a b) (he : ∀ x, a ≤ x → x < b → g x = f x) : Srtd k g a b := fun x y hx hxy hy => by
  rw [he x hx (by omega), he y (by omega) hy]; exact h x y hx hxy hy
end Go.Srt

/- Stable sorting: insertion, the symmetric merge, blocks. -/

namespace Go.Srt
variable {k : Nat → Nat → Prop}

theorem srt_one (f : Nat → Nat) (a : Nat) : Srtd k f a (a + 1) := fun x y h1 h2 h3 => by omega
theorem srt_sub {f : Nat → Nat} {a b a' b' : Nat} (h : Srtd k f a b) (h1 : a ≤ a') (h2 : b' ≤ b) : Srtd k f a' b' := fun x y p q r => h x y (by omega) q (by omega)
theorem Lt.k_left (K : SWO k) {s t u : Nat} (h : Lt k s t) (h' : k t u) : k s u := by
  rcases h with h | ⟨h1, _⟩
  · exact K.tr _ _ _ h h'
  · rcases K.neg t s u h' with q | q
    · exact absurd q h1
    · exact q
theorem Lt.k_right (K : SWO k) {s t u : Nat} (h : Lt k s t) (h' : k u s) : k u t := by
  rcases h with h | ⟨h1, _⟩
  · exact K.tr _ _ _ h' h
  · rcases K.neg u t s h' with q | q
    · exact q
    · exact absurd q h1
/-- an element goes down to its place -/
theorem ins_srt (K : SWO k) {f : Nat → Nat} {a j i : Nat} (h1 : a ≤ j) (h2 : j ≤ i) (s : Srtd k f a i) (hl : ∀ x, j ≤ x → x < i → Lt k (f i) (f x)) (hr : j = a ∨ Lt k (f (j - 1)) (f i)) : Srtd k (rot f j i (i + 1)) a (i + 1) := by
  have q1 : Srtd k (rot f j i (i + 1)) j (i + 1) := rot_srt h2 (by omega) (srt_sub s h1 (Nat.le_refl _)) (srt_one f i) fun x y hx hy hz hw => by
    have : y = i := by omega
    rw [this]; exact hl x hx hy
  have q2 : Srtd k (rot f j i (i + 1)) a j := srt_congr (srt_sub s (Nat.le_refl _) h2) fun x _ hx => by
    unfold rot; rw [if_neg (by omega), if_neg (by omega)]
  refine srt_join q2 q1 fun x y hx hxj hy hyi => ?_
  have ex : rot f j i (i + 1) x = f x := by unfold rot; rw [if_neg (by omega), if_neg (by omega)]
  rw [ex]
  unfold rot
  by_cases c : y = j
  · rw [if_pos (by omega)]
    have e : y + (i - j) = i := by omega
    rw [e]
    rcases hr with hr | hr
    · omega
    · by_cases c2 : x = j - 1
      · rw [c2]; exact hr
      · exact Lt.tr K (s x (j - 1) hx (by omega) (by omega)) hr
  · rw [if_neg (by omega), if_pos (by omega)]
    exact s x _ hx (by omega) (by omega)
/-- the first element goes up to its place -/
theorem up_srt {f : Nat → Nat} {a i b : Nat} (h1 : a + 1 ≤ i) (h2 : i ≤ b) (s : Srtd k f (a + 1) b) (hl : ∀ x, a + 1 ≤ x → x < i → Lt k (f x) (f a)) (hr : ∀ y, i ≤ y → y < b → Lt k (f a) (f y)) : Srtd k (rot f a (a + 1) i) a b := by
  have q1 : Srtd k (rot f a (a + 1) i) a i := rot_srt (by omega) h1 (srt_one f a) (srt_sub s (Nat.le_refl _) h2) fun x y hx hy hz hw => by
    have : x = a := by omega
    rw [this]; exact hl y hz hw
  have q2 : Srtd k (rot f a (a + 1) i) i b := srt_congr (srt_sub s h1 (Nat.le_refl _)) fun x hx _ => by
    unfold rot; rw [if_neg (by omega), if_neg (by omega)]
  refine srt_join q1 q2 fun x y hx hxj hy hyi => ?_
  have ey : rot f a (a + 1) i y = f y := by unfold rot; rw [if_neg (by omega), if_neg (by omega)]
  rw [ey]
  unfold rot
  by_cases c : x + 1 < i
  · rw [if_pos (by omega)]
    have e : x + (a + 1 - a) = x + 1 := by omega
    rw [e]
    exact s _ _ (by omega) (by omega) hyi
  · rw [if_neg (by omega), if_pos (by omega)]
    have e : x - (i - (a + 1)) = a := by omega
    rw [e]
    exact hr y hy hyi
theorem rot_id {f : Nat → Nat} {a m b : Nat} (h : a = m ∨ m = b) : rot f a m b = f := by
  funext x; unfold rot
  rcases h with h | h
  · by_cases c : a ≤ x ∧ x < a + (b - m)
    · rw [if_pos c]; congr 1; omega
    · rw [if_neg c, if_neg (by omega)]
  · rw [if_neg (by omega)]
    by_cases c : a + (b - m) ≤ x ∧ x < b
    · rw [if_pos c]; congr 1; omega
    · rw [if_neg c]
/-- what a merge is asked -/
structure Mrg (k : Nat → Nat → Prop) (f : Nat → Nat) (a m b : Nat) : Prop where
  am : a ≤ m
  mb : m ≤ b
  l : Srtd k f a m
  r : Srtd k f m b
  tags : ∀ x y, a ≤ x → x < m → m ≤ y → y < b → f x < f y
/-- the search of the symmetric merge -/
structure Cut (k : Nat → Nat → Prop) (f : Nat → Nat) (p lo s r hi : Nat) : Prop where
  h1 : lo ≤ s
  h2 : s ≤ r
  h3 : r ≤ hi
  no : ∀ c, lo ≤ c → c < s → ¬ k (f (p - c)) (f c)
  yes : ∀ c, r ≤ c → c < hi → k (f (p - c)) (f c)
theorem Cut.step1 (K : SWO k) {f : Nat → Nat} {a m b p lo s r hi c : Nat} (M : Mrg k f a m b) (C : Cut k f p lo s r hi) (hb : ∀ x, lo ≤ x → x < hi → a ≤ x ∧ x < m ∧ m ≤ p - x ∧ p - x < b) (hc1 : s ≤ c) (hc2 : c < r) (h : ¬ k (f (p - c)) (f c)) : Cut k f p lo (c + 1) r hi := by
  obtain ⟨h1, h2, h3, no, yes⟩ := C
  refine ⟨by omega, by omega, h3, fun x hx hx' q => ?_, yes⟩
  have b1 := hb x hx (by omega)
  have b2 := hb c (by omega) (by omega)
  rcases Nat.lt_or_ge x c with e | e
  · have q1 := Lt.k_left K (M.r (p - c) (p - x) (by omega) (by omega) (by omega)) q
    exact h (Lt.k_right K (M.l x c (by omega) e (by omega)) q1)
  · have : x = c := by omega
    subst this; exact h q
theorem Cut.step2 (K : SWO k) {f : Nat → Nat} {a m b p lo s r hi c : Nat} (M : Mrg k f a m b) (C : Cut k f p lo s r hi) (hb : ∀ x, lo ≤ x → x < hi → a ≤ x ∧ x < m ∧ m ≤ p - x ∧ p - x < b) (hc1 : s ≤ c) (hc2 : c < r) (h : k (f (p - c)) (f c)) : Cut k f p lo s c hi := by
  obtain ⟨h1, h2, h3, no, yes⟩ := C
  refine ⟨h1, hc1, by omega, no, fun x hx hx' => ?_⟩
  have b1 := hb x (by omega) (by omega)
  have b2 := hb c (by omega) (by omega)
  rcases Nat.lt_or_ge c x with e | e
  · have q1 := Lt.k_left K (M.r (p - x) (p - c) (by omega) (by omega) (by omega)) h
    exact Lt.k_right K (M.l c x (by omega) e (by omega)) q1
  · have : x = c := by omega
    subst this; exact h
/-- what the search finds -/
structure Found (k : Nat → Nat → Prop) (f : Nat → Nat) (a m b s e : Nat) : Prop where
  las : a ≤ s
  sm : s ≤ m
  me : m ≤ e
  eb : e ≤ b
  lo : ∀ x y, a ≤ x → x < s → e ≤ y → y < b → Lt k (f x) (f y)
  hi : ∀ x y, s ≤ x → x < m → m ≤ y → y < e → Lt k (f y) (f x)
theorem Cut.found (K : SWO k) {f : Nat → Nat} {a m b p n lo s hi e : Nat} (M : Mrg k f a m b) (C : Cut k f p lo s s hi) (hb : ∀ x, lo ≤ x → x < hi → a ≤ x ∧ x < m ∧ m ≤ p - x ∧ p - x < b) (hp : p + 1 = n) (he : e = n - s)
    (has : a ≤ s) (hsm : s ≤ m) (hme : m ≤ e) (heb : e ≤ b) (hlo : s = lo → a = s ∨ e = b) (hhi : s = hi → s = m ∨ e = m) : Found k f a m b s e := by
  obtain ⟨h1, _, h3, no, yes⟩ := C
  refine ⟨has, hsm, hme, heb, fun x y hx hxs hy hyb => ?_, fun x y hx hxm hy hye => ?_⟩
  · by_cases c : s = lo
    · rcases hlo c with q | q <;> omega
    · have b1 := hb (s - 1) (by omega) (by omega)
      have q := no (s - 1) (by omega) (by omega)
      have e1 : p - (s - 1) = e := by omega
      rw [e1] at q
      have tg := M.tags x y hx (by omega) (by omega) hyb
      refine (Lt.early K tg).1 fun q' => q ?_
      have q1 : k (f e) (f x) := by
        by_cases c2 : y = e
        · rw [← c2]; exact q'
        · exact Lt.k_left K (M.r e y (by omega) (by omega) hyb) q'
      by_cases c3 : x = s - 1
      · rw [← c3]; exact q1
      · exact Lt.k_right K (M.l x (s - 1) hx (by omega) (by omega)) q1
  · by_cases c : s = hi
    · rcases hhi c with q | q <;> omega
    · have b1 := hb s h1 (by omega)
      have q := yes s (Nat.le_refl _) (by omega)
      have e1 : p - s = e - 1 := by omega
      rw [e1] at q
      refine .inl ?_
      have q1 : k (f y) (f s) := by
        by_cases c2 : y = e - 1
        · rw [c2]; exact q
        · exact Lt.k_left K (M.r y (e - 1) hy (by omega) (by omega)) q
      by_cases c3 : x = s
      · rw [c3]; exact q1
      · exact Lt.k_right K (M.l s x (by omega) (by omega) hxm) q1
theorem rot_lo {f : Nat → Nat} {a m b x : Nat} (h : x < a) : rot f a m b x = f x := by unfold rot; rw [if_neg (by omega), if_neg (by omega)]
theorem rot_hi {f : Nat → Nat} {a m b x : Nat} (h : b ≤ x) (h2 : a ≤ m) (h3 : m ≤ b) : rot f a m b x = f x := by unfold rot; rw [if_neg (by omega), if_neg (by omega)]
theorem rot_1 {f : Nat → Nat} {a m b x : Nat} (h : a ≤ x) (h2 : x < a + (b - m)) : rot f a m b x = f (x + (m - a)) := by unfold rot; rw [if_pos ⟨h, h2⟩]
theorem rot_2 {f : Nat → Nat} {a m b x : Nat} (h : a + (b - m) ≤ x) (h2 : x < b) : rot f a m b x = f (x - (b - m)) := by unfold rot; rw [if_neg (by omega), if_pos ⟨h, h2⟩]
theorem sym_split {f : Nat → Nat} {a m b s e : Nat} (M : Mrg k f a m b) (F : Found k f a m b s e) :
    Mrg k (rot f s m e) a s (s + (e - m)) ∧ Mrg k (rot f s m e) (s + (e - m)) e b ∧ (∀ x y, a ≤ x → x < s + (e - m) → s + (e - m) ≤ y → y < b → Lt k (rot f s m e x) (rot f s m e y)) ∧ RP a b f (rot f s m e) := by
  obtain ⟨am, mb, l, r, tags⟩ := M
  obtain ⟨has, sm, me, eb, lo, hi⟩ := F
  refine ⟨⟨has, by omega, ?_, ?_, ?_⟩, ⟨by omega, eb, ?_, ?_, ?_⟩, ?_, (rot_RP sm me).mono has eb⟩
  · exact srt_congr (srt_sub l (Nat.le_refl _) sm) fun x _ hx => rot_lo hx
  · intro x y hx hxy hy
    rw [rot_1 hx (by omega), rot_1 (by omega) hy]
    exact r _ _ (by omega) (by omega) (by omega)
  · intro x y hx hxs hy hym
    rw [rot_lo hxs, rot_1 hy hym]
    exact tags _ _ hx (by omega) (by omega) (by omega)
  · intro x y hx hxy hy
    rw [rot_2 hx (by omega), rot_2 (by omega) hy]
    exact l _ _ (by omega) (by omega) (by omega)
  · exact srt_congr (srt_sub r me (Nat.le_refl _)) fun x hx _ => rot_hi hx sm me
  · intro x y hx hxs hy hym
    rw [rot_2 hx hxs, rot_hi hy sm me]
    exact tags _ _ (by omega) (by omega) (by omega) hym
  · intro x y hx hxm hy hyb
    by_cases c1 : x < s
    · rw [rot_lo c1]
      by_cases c2 : y < e
      · rw [rot_2 hy c2]; exact l _ _ hx (by omega) (by omega)
      · rw [rot_hi (by omega) sm me]; exact lo _ _ hx c1 (by omega) hyb
    · rw [rot_1 (by omega) hxm]
      by_cases c2 : y < e
      · rw [rot_2 hy c2]; exact hi _ _ (by omega) (by omega) (by omega) (by omega)
      · rw [rot_hi (by omega) sm me]; exact r _ _ (by omega) (by omega) hyb
theorem sym_join {f g g1 g2 : Nat → Nat} {a c b : Nat} (h0 : a ≤ c) (h00 : c ≤ b) (h1 : RP a b f g) (h2 : RP a c g g1) (s1 : Srtd k g1 a c) (h3 : RP c b g1 g2) (s2 : Srtd k g2 c b) (hx : ∀ x y, a ≤ x → x < c → c ≤ y → y < b → Lt k (g x) (g y)) : RP a b f g2 ∧ Srtd k g2 a b := by
  refine ⟨h1.trans ((h2.mono (Nat.le_refl _) h00).trans (h3.mono h0 (Nat.le_refl _))), srt_join (srt_congr s1 fun x _ hx => h3.off (by omega)) s2 fun x y p1 p2 p3 p4 => ?_⟩
  rw [h3.off (show ¬ (c ≤ x ∧ x < b) by omega)]
  obtain ⟨x', q1, q2, q3⟩ := h2.at p1 p2
  obtain ⟨y', r1, r2, r3⟩ := h3.at p3 p4
  rw [q3, r3, h2.off (show ¬ (a ≤ y' ∧ y' < c) by omega)]
  exact hx _ _ q1 q2 r1 r2
/-- a block of B places from o on: its tags stay in it, it ascends -/
structure Good (k : Nat → Nat → Prop) (n : Nat) (f : Nat → Nat) (o B : Nat) : Prop where
  tags : ∀ x, o ≤ x → x < o + B → x < n → o ≤ f x ∧ f x < o + B ∧ f x < n
  srt : ∀ x y, o ≤ x → x < y → y < o + B → y < n → Lt k (f x) (f y)
theorem Good.same {n : Nat} {f g : Nat → Nat} {o B : Nat} (h : Good k n f o B) (he : ∀ x, o ≤ x → x < o + B → g x = f x) : Good k n g o B :=
  ⟨fun x h1 h2 h3 => by rw [he x h1 h2]; exact h.tags x h1 h2 h3, fun x y h1 h2 h3 h4 => by rw [he x h1 (by omega), he y (by omega) h3]; exact h.srt x y h1 h2 h3 h4⟩
theorem Good.none {n : Nat} {f : Nat → Nat} {o B : Nat} (h : n ≤ o) : Good k n f o B := ⟨fun x h1 h2 h3 => by omega, fun x y h1 h2 h3 h4 => by omega⟩
/-- two neighbours that were merged -/
theorem Good.two {n : Nat} {f g : Nat → Nat} {o B b : Nat} (h1 : Good k n f o B) (h2 : Good k n f (o + B) B) (hb : b ≤ o + 2 * B) (hb2 : b = o + 2 * B ∨ b = n) (hbn : b ≤ n) (r : RP o b f g) (s : Srtd k g o b) : Good k n g o (2 * B) := by
  refine ⟨fun x p1 p2 p3 => ?_, fun x y p1 p2 p3 p4 => s x y p1 p2 (by omega)⟩
  obtain ⟨y, q1, q2, q3⟩ := r.at p1 (show x < b by omega)
  rw [q3]
  by_cases c : y < o + B
  · have := h1.tags y q1 c (by omega); omega
  · have := h2.tags y (by omega) (by omega) (by omega); omega
theorem Good.mrg {n : Nat} {f : Nat → Nat} {o B b : Nat} (h1 : Good k n f o B) (h2 : Good k n f (o + B) B) (hb : b ≤ o + 2 * B) (hb2 : o + B ≤ b) (hbn : b ≤ n) : Mrg k f o (o + B) b :=
  ⟨by omega, hb2, fun x y p1 p2 p3 => h1.srt x y p1 p2 p3 (by omega), fun x y p1 p2 p3 => h2.srt x y p1 p2 (by omega) (by omega), fun x y p1 p2 p3 p4 => by
    have := h1.tags x p1 p2 (by omega)
    have := h2.tags y p3 (by omega) (by omega)
    omega⟩
theorem Good.one {n : Nat} {f : Nat → Nat} {o B : Nat} (h1 : Good k n f o B) (h : n ≤ o + B) : Good k n f o (2 * B) :=
  ⟨fun x p1 p2 p3 => by have := h1.tags x p1 (by omega) p3; omega, fun x y p1 p2 p3 p4 => h1.srt x y p1 p2 (by omega) p4⟩
theorem Good.ins {n : Nat} {f g : Nat → Nat} {o B b : Nat} (hi : ∀ x, o ≤ x → f x = x) (hb2 : b = o + B ∨ b = n) (hb : b ≤ o + B) (hbn : b ≤ n) (r : RP o b f g) (s : Srtd k g o b) : Good k n g o B := by
  refine ⟨fun x p1 p2 p3 => ?_, fun x y p1 p2 p3 p4 => s x y p1 p2 (by omega)⟩
  obtain ⟨y, q1, q2, q3⟩ := r.at p1 (show x < b by omega)
  rw [q3, hi y q1]; omega
/-- the state of the loop that merges -/
structure Half (k : Nat → Nat → Prop) (n : Nat) (f : Nat → Nat) (B q : Nat) : Prop where
  done : ∀ i, i < q → Good k n f (i * (2 * B)) (2 * B)
  todo : ∀ i, 2 * q ≤ i → Good k n f (i * B) B
theorem Half.start {n : Nat} {f : Nat → Nat} {B : Nat} (h : ∀ i, Good k n f (i * B) B) : Half k n f B 0 := ⟨fun i hi => by omega, fun i _ => h i⟩
theorem mul_two (q B : Nat) : q * (2 * B) = 2 * q * B := by rw [Nat.mul_comm 2 q, Nat.mul_assoc]
theorem mul_suc (q B : Nat) : (q + 1) * B = q * B + B := Nat.succ_mul q B
theorem Half.g1 {n : Nat} {f : Nat → Nat} {B q : Nat} (h : Half k n f B q) : Good k n f (q * (2 * B)) B := by rw [mul_two]; exact h.todo _ (Nat.le_refl _)
theorem Half.g2 {n : Nat} {f : Nat → Nat} {B q : Nat} (h : Half k n f B q) : Good k n f (q * (2 * B) + B) B := by
  have := h.todo (2 * q + 1) (by omega)
  rw [mul_suc, ← mul_two] at this; exact this
theorem Half.step {n : Nat} {f g : Nat → Nat} {B q b : Nat} (h : Half k n f B q) (hb : b ≤ q * (2 * B) + 2 * B) (r : RP (q * (2 * B)) b f g) (hg : Good k n g (q * (2 * B)) (2 * B)) : Half k n g B (q + 1) := by
  refine ⟨fun i hi => ?_, fun i hi => ?_⟩
  · rcases Nat.lt_or_ge i q with e | e
    · refine (h.done i e).same fun x h1 h2 => r.off ?_
      have : (i + 1) * (2 * B) ≤ q * (2 * B) := Nat.mul_le_mul_right _ e
      rw [mul_suc] at this; omega
    · have : i = q := by omega
      subst this; exact hg
  · refine (h.todo i (by omega)).same fun x h1 h2 => r.off ?_
    have : (2 * (q + 1)) * B ≤ i * B := Nat.mul_le_mul_right _ hi
    have e : 2 * (q + 1) * B = q * (2 * B) + 2 * B := by rw [← mul_two, mul_suc]
    omega
theorem Half.fin {n : Nat} {f : Nat → Nat} {B q : Nat} (h : Half k n f B q) (hn : n ≤ q * (2 * B)) (i : Nat) : Good k n f (i * (2 * B)) (2 * B) := by
  rcases Nat.lt_or_ge i q with e | e
  · exact h.done i e
  · have : q * (2 * B) ≤ i * (2 * B) := Nat.mul_le_mul_right _ e
    exact Good.none (by omega)
/-- the state of the loop that inserts -/
structure Firsts (k : Nat → Nat → Prop) (n : Nat) (f : Nat → Nat) (q : Nat) : Prop where
  done : ∀ i, i < q → Good k n f (i * 20) 20
  todo : ∀ x, q * 20 ≤ x → f x = x
theorem Firsts.step {n : Nat} {f g : Nat → Nat} {q b : Nat} (h : Firsts k n f q) (hb : b ≤ q * 20 + 20) (hb2 : b = q * 20 + 20 ∨ b = n) (hbn : b ≤ n) (r : RP (q * 20) b f g) (s : Srtd k g (q * 20) b) : Firsts k n g (q + 1) := by
  refine ⟨fun i hi => ?_, fun x hx => ?_⟩
  · rcases Nat.lt_or_ge i q with e | e
    · exact (h.done i e).same fun x h1 h2 => r.off (by omega)
    · have : i = q := by omega
      subst this; exact Good.ins h.todo hb2 hb hbn r s
  · rw [r.off (by omega), h.todo x (by omega)]
theorem Firsts.fin {n : Nat} {f : Nat → Nat} {q : Nat} (h : Firsts k n f q) (hn : n ≤ q * 20) (i : Nat) : Good k n f (i * 20) 20 := by
  rcases Nat.lt_or_ge i q with e | e
  · exact h.done i e
  · exact Good.none (by omega)
theorem Good.all {n : Nat} {f : Nat → Nat} {B : Nat} (h : ∀ i, Good k n f (i * B) B) (hB : n ≤ B) : Srtd k f 0 n := fun x y h1 h2 h3 => by
  have := (h 0).srt x y (by omega) h2 (by omega) h3
  exact this
/-- the tags of a range that was permuted -/
theorem RP.lt {n : Nat} {f : Nat → Nat} (h : RP 0 n id f) {x : Nat} (hx : x < n) : f x < n := by
  obtain ⟨y, _, h2, h3⟩ := h.at (Nat.zero_le x) hx
  rw [h3]; exact h2
open Go
def mkV (n : Nat) (V : Nat → Value) (f : Nat → Nat) : List Value := (List.range n).map fun x => V (f x)
theorem mkV_len (n : Nat) (V : Nat → Value) (f : Nat → Nat) : (mkV n V f).length = n := by simp [mkV]
theorem mkV_at {n : Nat} {V : Nat → Value} {f : Nat → Nat} {x : Nat} (h : x < n) : (mkV n V f)[x]? = some (V (f x)) := by simp [mkV, h]
theorem mkV_sw {n : Nat} {V : Nat → Value} {f : Nat → Nat} {i j : Nat} : ((mkV n V f).set i (V (f j))).set j (V (f i)) = mkV n V (sw f i j) := by
  apply List.ext_getElem?
  intro x
  by_cases hx : x < n
  · rw [mkV_at hx]
    unfold sw
    by_cases h2 : x = j
    · subst h2
      rw [List.getElem?_set_self (by rw [List.length_set, mkV_len]; exact hx)]
      by_cases h1 : x = i
      · subst h1; rw [if_pos rfl]
      · rw [if_neg h1, if_pos rfl]
    · rw [List.getElem?_set_ne (fun e => h2 e.symm)]
      by_cases h1 : x = i
      · subst h1
        rw [List.getElem?_set_self (by rw [mkV_len]; exact hx), if_pos rfl]
      · rw [List.getElem?_set_ne (fun e => h1 e.symm), mkV_at hx, if_neg h1, if_neg h2]
  · rw [List.getElem?_eq_none (by simp [mkV_len]; omega), List.getElem?_eq_none (by simp [mkV_len]; omega)]
end Go.Srt

/- What the seat's program may turn (asked by every condition). -/



namespace Go.Proofs
open Go Go.RowKit
theorem follows_ : Try.prog.follows .mixedOrders = true := by kernel_rfl
end Go.Proofs

/- The conditions of functions, printed by our tool; each is checked against the code by the kernel. -/



namespace Go.Proofs
open Go Go.V Go.RowKit
/-- slices.SortStableFunc[[]int,int] -/
def S25 (x_a : Option Addr) (x_n : Nat) (x_c : Nat) (cap1_0 : Addr) (cap1_1 : Addr) (cap1_2 : Addr) (w0 : World) (R : Value → World → Prop) : Prop :=
 call Try.prog 33 [(.slice x_a x_n x_c), (.int .i64 ((x_n : Nat) : Int)), (.func (.func 26) #[] #[(.pointer (some cap1_0)), (.pointer (some cap1_1)), (.pointer (some cap1_2))])] (.many []) w0 fun (_x1 : (Unit)) (w2 : World) =>
 R (.tuple #[]) w2
def H25 : Hints := ⟨[], [], [], []⟩
set_option maxRecDepth 100000 in
theorem S25_eq (x_a : Option Addr) (x_n : Nat) (x_c : Nat) (cap1_0 : Addr) (cap1_1 : Addr) (cap1_2 : Addr) (w0 : World) (R : Value → World → Prop) : vcFn Try.prog H25 Try.f25 [(.slice x_a x_n x_c), (.func (.func 26) #[] #[(.pointer (some cap1_0)), (.pointer (some cap1_1)), (.pointer (some cap1_2))])] w0 R = S25 x_a x_n x_c cap1_0 cap1_1 cap1_2 w0 R := by kernel_rfl
set_option maxRecDepth 100000 in
theorem S25_calls (x_a : Option Addr) (x_n : Nat) (x_c : Nat) (cap1_0 : Addr) (cap1_1 : Addr) (cap1_2 : Addr) (w0 : World) (R : Value → World → Prop) (h : S25 x_a x_n x_c cap1_0 cap1_1 cap1_2 w0 R) : Calls Try.prog 25 #[(.slice x_a x_n x_c), (.func (.func 26) #[] #[(.pointer (some cap1_0)), (.pointer (some cap1_1)), (.pointer (some cap1_2))])] w0 (ret R) := by
  rw [← S25_eq] at h; exact vcFn_sound follows_ Try.func25 h

/-- slices.stableCmpFunc[int] -/
def S33 (data_a : Option Addr) (data_n : Nat) (data_c : Nat) (n_ : Int) (cap2_0 : Addr) (cap2_1 : Addr) (cap2_2 : Addr) (w0 : World) (R : Value → World → Prop) : Prop :=
 loop (T := (Int × Int × Unit)) (0, 20, ()) w0 fun (again1 : (Int × Int × Unit) → World → Prop) (s2 : (Int × Int × Unit)) w3 => ∀ _ : Nat → Value,
 br (decide (s2.2.1 ≤ n_)) (call Try.prog 39 [(.slice data_a data_n data_c), (.int .i64 s2.1), (.int .i64 s2.2.1), (.func (.func 26) #[] #[(.pointer (some cap2_0)), (.pointer (some cap2_1)), (.pointer (some cap2_2))])] (.many []) w3 fun (_x4 : (Unit)) (w5 : World) =>
 z (IntKind.wrap .i64 (s2.2.1 + 20)) fun (z6 : Int) =>
 again1 (s2.2.1, z6, ()) w5)
 (call Try.prog 39 [(.slice data_a data_n data_c), (.int .i64 s2.1), (.int .i64 n_), (.func (.func 26) #[] #[(.pointer (some cap2_0)), (.pointer (some cap2_1)), (.pointer (some cap2_2))])] (.many []) w3 fun (_x7 : (Unit)) (w8 : World) =>
 loop (T := (Int × Unit)) (20, ()) w8 fun (again9 : (Int × Unit) → World → Prop) (s10 : (Int × Unit)) w11 => ∀ _ : Nat → Value,
 br (decide (s10.1 < n_)) (z (IntKind.wrap .i64 (2 * s10.1)) fun (z12 : Int) =>
 loop (T := (Int × Int × Unit)) (0, z12, ()) w11 fun (again13 : (Int × Int × Unit) → World → Prop) (s14 : (Int × Int × Unit)) w15 => ∀ _ : Nat → Value,
 br (decide (s14.2.1 ≤ n_)) (z (IntKind.wrap .i64 (s14.1 + s10.1)) fun (z16 : Int) =>
 call Try.prog 40 [(.slice data_a data_n data_c), (.int .i64 s14.1), (.int .i64 z16), (.int .i64 s14.2.1), (.func (.func 26) #[] #[(.pointer (some cap2_0)), (.pointer (some cap2_1)), (.pointer (some cap2_2))])] (.many []) w15 fun (_x17 : (Unit)) (w18 : World) =>
 z (IntKind.wrap .i64 (2 * s10.1)) fun (z19 : Int) =>
 z (IntKind.wrap .i64 (s14.2.1 + z19)) fun (z20 : Int) =>
 again13 (s14.2.1, z20, ()) w18)
 (join (T := (Unit)) (fun (_s22 : (Unit)) w23 => ∀ _ : Nat → Value,
 z (IntKind.wrap .i64 (s10.1 * 2)) fun (z24 : Int) =>
 again9 (z24, ()) w23)
  fun (K21 : (Unit) → World → Prop) =>
 z (IntKind.wrap .i64 (s14.1 + s10.1)) fun (z25 : Int) =>
 br (decide (z25 < n_)) (call Try.prog 40 [(.slice data_a data_n data_c), (.int .i64 s14.1), (.int .i64 z25), (.int .i64 n_), (.func (.func 26) #[] #[(.pointer (some cap2_0)), (.pointer (some cap2_1)), (.pointer (some cap2_2))])] (.many []) w15 fun (_x26 : (Unit)) (w27 : World) =>
 K21 (()) w27)
 (K21 (()) w15)))
 (R (.tuple #[]) w11))
def H33 : Hints := ⟨[(2, 0, [(7, (.one (.int .i64))), (8, (.one (.int .i64)))]), (2, 2, [(6, (.one (.int .i64)))]), (2, 4, [(7, (.one (.int .i64))), (8, (.one (.int .i64)))]), (0, 54, [])], [], [], []⟩
set_option maxRecDepth 100000 in
theorem S33_eq (data_a : Option Addr) (data_n : Nat) (data_c : Nat) (n_ : Int) (cap2_0 : Addr) (cap2_1 : Addr) (cap2_2 : Addr) (w0 : World) (R : Value → World → Prop) : vcFn Try.prog H33 Try.f33 [(.slice data_a data_n data_c), (.int .i64 n_), (.func (.func 26) #[] #[(.pointer (some cap2_0)), (.pointer (some cap2_1)), (.pointer (some cap2_2))])] w0 R = S33 data_a data_n data_c n_ cap2_0 cap2_1 cap2_2 w0 R := by kernel_rfl
set_option maxRecDepth 100000 in
theorem S33_calls (data_a : Option Addr) (data_n : Nat) (data_c : Nat) (n_ : Int) (cap2_0 : Addr) (cap2_1 : Addr) (cap2_2 : Addr) (w0 : World) (R : Value → World → Prop) (h : S33 data_a data_n data_c n_ cap2_0 cap2_1 cap2_2 w0 R) : Calls Try.prog 33 #[(.slice data_a data_n data_c), (.int .i64 n_), (.func (.func 26) #[] #[(.pointer (some cap2_0)), (.pointer (some cap2_1)), (.pointer (some cap2_2))])] w0 (ret R) := by
  rw [← S33_eq] at h; exact vcFn_sound follows_ Try.func33 h

/-- slices.insertionSortCmpFunc[int] -/
def S39 (data_a : Option Addr) (data_n : Nat) (data_c : Nat) (a_ : Int) (b_ : Int) (cap3_0 : Addr) (cap3_1 : Addr) (cap3_2 : Addr) (w0 : World) (R : Value → World → Prop) : Prop :=
 z (IntKind.wrap .i64 (a_ + 1)) fun (z1 : Int) =>
 loop (T := (Int × Unit)) (z1, ()) w0 fun (again2 : (Int × Unit) → World → Prop) (s3 : (Int × Unit)) w4 => ∀ _ : Nat → Value,
 br (decide (s3.1 < b_)) (join (T := (Unit)) (fun (_s6 : (Unit)) w7 => ∀ _ : Nat → Value,
 z (IntKind.wrap .i64 (s3.1 + 1)) fun (z8 : Int) =>
 again2 (z8, ()) w7)
  fun (K5 : (Unit) → World → Prop) =>
 loop (T := (Int × Unit)) (s3.1, ()) w4 fun (again9 : (Int × Unit) → World → Prop) (s10 : (Int × Unit)) w11 => ∀ _ : Nat → Value,
 drw w11 fun w12 =>
 br (decide (s10.1 > a_)) (rdp Try.prog (Instr.indexAt 22 (.slice data_a data_n data_c) (.int .i64 s10.1)) (.one .addr) fun (x13 : Addr) =>
 rd Try.prog (Instr.loadAt 3 (.pointer (some x13))) (.one (.int .i64)) w12 fun (x14 : Int) =>
 z (IntKind.wrap .i64 (s10.1 - 1)) fun (z15 : Int) =>
 rdp Try.prog (Instr.indexAt 22 (.slice data_a data_n data_c) (.int .i64 z15)) (.one .addr) fun (x16 : Addr) =>
 rd Try.prog (Instr.loadAt 3 (.pointer (some x16))) (.one (.int .i64)) w12 fun (x17 : Int) =>
 call Try.prog 26 [(.int .i64 x14), (.int .i64 x17), (.pointer (some cap3_0)), (.pointer (some cap3_1)), (.pointer (some cap3_2))] (.one (.one (.int .i64))) w12 fun (x18 : Int) (w19 : World) =>
 br (decide (x18 < 0)) (drw w19 fun w20 =>
 z (IntKind.wrap .i64 (s10.1 - 1)) fun (z21 : Int) =>
 z (IntKind.wrap .i64 (s10.1 - 1)) fun (z22 : Int) =>
 rdp Try.prog (Instr.indexAt 22 (.slice data_a data_n data_c) (.int .i64 z22)) (.one .addr) fun (x23 : Addr) =>
 rd Try.prog (Instr.loadAt 3 (.pointer (some x23))) (.one (.int .i64)) w20 fun (x24 : Int) =>
 rdp Try.prog (Instr.indexAt 22 (.slice data_a data_n data_c) (.int .i64 s10.1)) (.one .addr) fun (x25 : Addr) =>
 rd Try.prog (Instr.loadAt 3 (.pointer (some x25))) (.one (.int .i64)) w20 fun (x26 : Int) =>
 rdp Try.prog (Instr.indexAt 22 (.slice data_a data_n data_c) (.int .i64 s10.1)) (.one .addr) fun (x27 : Addr) =>
 wu Try.prog (Instr.storeAt 3 (.pointer (some x27)) (.int .i64 x24)) w20 fun (w28 : World) =>
 rdp Try.prog (Instr.indexAt 22 (.slice data_a data_n data_c) (.int .i64 z21)) (.one .addr) fun (x29 : Addr) =>
 wu Try.prog (Instr.storeAt 3 (.pointer (some x29)) (.int .i64 x26)) w28 fun (w30 : World) =>
 z (IntKind.wrap .i64 (s10.1 - 1)) fun (z31 : Int) =>
 again9 (z31, ()) w30)
 (K5 (()) w19))
 (K5 (()) w12))
 (R (.tuple #[]) w4)
def H39 : Hints := ⟨[(2, 0, [(8, (.one (.int .i64)))]), (2, 2, [(9, (.one (.int .i64)))]), (1, 1, [])], [(4, 14), (6, 14)], [], []⟩
set_option maxRecDepth 100000 in
theorem S39_eq (data_a : Option Addr) (data_n : Nat) (data_c : Nat) (a_ : Int) (b_ : Int) (cap3_0 : Addr) (cap3_1 : Addr) (cap3_2 : Addr) (w0 : World) (R : Value → World → Prop) : vcFn Try.prog H39 Try.f39 [(.slice data_a data_n data_c), (.int .i64 a_), (.int .i64 b_), (.func (.func 26) #[] #[(.pointer (some cap3_0)), (.pointer (some cap3_1)), (.pointer (some cap3_2))])] w0 R = S39 data_a data_n data_c a_ b_ cap3_0 cap3_1 cap3_2 w0 R := by kernel_rfl
set_option maxRecDepth 100000 in
theorem S39_calls (data_a : Option Addr) (data_n : Nat) (data_c : Nat) (a_ : Int) (b_ : Int) (cap3_0 : Addr) (cap3_1 : Addr) (cap3_2 : Addr) (w0 : World) (R : Value → World → Prop) (h : S39 data_a data_n data_c a_ b_ cap3_0 cap3_1 cap3_2 w0 R) : Calls Try.prog 39 #[(.slice data_a data_n data_c), (.int .i64 a_), (.int .i64 b_), (.func (.func 26) #[] #[(.pointer (some cap3_0)), (.pointer (some cap3_1)), (.pointer (some cap3_2))])] w0 (ret R) := by
  rw [← S39_eq] at h; exact vcFn_sound follows_ Try.func39 h

/-- slices.symMergeCmpFunc[int] -/
def S40 (data_a : Option Addr) (data_n : Nat) (data_c : Nat) (a_ : Int) (m_ : Int) (b_ : Int) (cap4_0 : Addr) (cap4_1 : Addr) (cap4_2 : Addr) (w0 : World) (R : Value → World → Prop) : Prop :=
 z (IntKind.wrap .i64 (m_ - a_)) fun (z1 : Int) =>
 br (z1 == 1) (loop (T := (Int × Int × Unit)) (m_, b_, ()) w0 fun (again2 : (Int × Int × Unit) → World → Prop) (s3 : (Int × Int × Unit)) w4 => ∀ _ : Nat → Value,
 br (decide (s3.1 < s3.2.1)) (z (IntKind.wrap .i64 (s3.1 + s3.2.1)) fun (z5 : Int) =>
 z (IntKind.wrap .u64 z5) fun (z6 : Int) =>
 rdp Try.prog (cmpS .shr 49 (.tmp 37) (.const (.int .u64 1)) (.int .u64 z6) (.int .u64 1)) (.one (.int .u64)) fun (x7 : Int) =>
 z (IntKind.wrap .i64 x7) fun (z8 : Int) =>
 drw w4 fun w9 =>
 rdp Try.prog (Instr.indexAt 22 (.slice data_a data_n data_c) (.int .i64 z8)) (.one .addr) fun (x10 : Addr) =>
 rd Try.prog (Instr.loadAt 3 (.pointer (some x10))) (.one (.int .i64)) w9 fun (x11 : Int) =>
 rdp Try.prog (Instr.indexAt 22 (.slice data_a data_n data_c) (.int .i64 a_)) (.one .addr) fun (x12 : Addr) =>
 rd Try.prog (Instr.loadAt 3 (.pointer (some x12))) (.one (.int .i64)) w9 fun (x13 : Int) =>
 call Try.prog 26 [(.int .i64 x11), (.int .i64 x13), (.pointer (some cap4_0)), (.pointer (some cap4_1)), (.pointer (some cap4_2))] (.one (.one (.int .i64))) w9 fun (x14 : Int) (w15 : World) =>
 br (decide (x14 < 0)) (z (IntKind.wrap .i64 (z8 + 1)) fun (z16 : Int) =>
 again2 (z16, s3.2.1, ()) w15)
 (again2 (s3.1, z8, ()) w15))
 (loop (T := (Int × Unit)) (a_, ()) w4 fun (again17 : (Int × Unit) → World → Prop) (s18 : (Int × Unit)) w19 => ∀ _ : Nat → Value,
 z (IntKind.wrap .i64 (s3.1 - 1)) fun (z20 : Int) =>
 br (decide (s18.1 < z20)) (drw w19 fun w21 =>
 z (IntKind.wrap .i64 (s18.1 + 1)) fun (z22 : Int) =>
 z (IntKind.wrap .i64 (s18.1 + 1)) fun (z23 : Int) =>
 rdp Try.prog (Instr.indexAt 22 (.slice data_a data_n data_c) (.int .i64 z23)) (.one .addr) fun (x24 : Addr) =>
 rd Try.prog (Instr.loadAt 3 (.pointer (some x24))) (.one (.int .i64)) w21 fun (x25 : Int) =>
 rdp Try.prog (Instr.indexAt 22 (.slice data_a data_n data_c) (.int .i64 s18.1)) (.one .addr) fun (x26 : Addr) =>
 rd Try.prog (Instr.loadAt 3 (.pointer (some x26))) (.one (.int .i64)) w21 fun (x27 : Int) =>
 rdp Try.prog (Instr.indexAt 22 (.slice data_a data_n data_c) (.int .i64 s18.1)) (.one .addr) fun (x28 : Addr) =>
 wu Try.prog (Instr.storeAt 3 (.pointer (some x28)) (.int .i64 x25)) w21 fun (w29 : World) =>
 rdp Try.prog (Instr.indexAt 22 (.slice data_a data_n data_c) (.int .i64 z22)) (.one .addr) fun (x30 : Addr) =>
 wu Try.prog (Instr.storeAt 3 (.pointer (some x30)) (.int .i64 x27)) w29 fun (w31 : World) =>
 z (IntKind.wrap .i64 (s18.1 + 1)) fun (z32 : Int) =>
 again17 (z32, ()) w31)
 (R (.tuple #[]) w19)))
 (z (IntKind.wrap .i64 (b_ - m_)) fun (z33 : Int) =>
 br (z33 == 1) (loop (T := (Int × Int × Unit)) (a_, m_, ()) w0 fun (again34 : (Int × Int × Unit) → World → Prop) (s35 : (Int × Int × Unit)) w36 => ∀ _ : Nat → Value,
 br (decide (s35.1 < s35.2.1)) (z (IntKind.wrap .i64 (s35.1 + s35.2.1)) fun (z37 : Int) =>
 z (IntKind.wrap .u64 z37) fun (z38 : Int) =>
 rdp Try.prog (cmpS .shr 49 (.tmp 89) (.const (.int .u64 1)) (.int .u64 z38) (.int .u64 1)) (.one (.int .u64)) fun (x39 : Int) =>
 z (IntKind.wrap .i64 x39) fun (z40 : Int) =>
 drw w36 fun w41 =>
 rdp Try.prog (Instr.indexAt 22 (.slice data_a data_n data_c) (.int .i64 m_)) (.one .addr) fun (x42 : Addr) =>
 rd Try.prog (Instr.loadAt 3 (.pointer (some x42))) (.one (.int .i64)) w41 fun (x43 : Int) =>
 rdp Try.prog (Instr.indexAt 22 (.slice data_a data_n data_c) (.int .i64 z40)) (.one .addr) fun (x44 : Addr) =>
 rd Try.prog (Instr.loadAt 3 (.pointer (some x44))) (.one (.int .i64)) w41 fun (x45 : Int) =>
 call Try.prog 26 [(.int .i64 x43), (.int .i64 x45), (.pointer (some cap4_0)), (.pointer (some cap4_1)), (.pointer (some cap4_2))] (.one (.one (.int .i64))) w41 fun (x46 : Int) (w47 : World) =>
 br (!(decide (x46 < 0))) (z (IntKind.wrap .i64 (z40 + 1)) fun (z48 : Int) =>
 again34 (z48, s35.2.1, ()) w47)
 (again34 (s35.1, z40, ()) w47))
 (loop (T := (Int × Unit)) (m_, ()) w36 fun (again49 : (Int × Unit) → World → Prop) (s50 : (Int × Unit)) w51 => ∀ _ : Nat → Value,
 br (decide (s50.1 > s35.1)) (drw w51 fun w52 =>
 z (IntKind.wrap .i64 (s50.1 - 1)) fun (z53 : Int) =>
 z (IntKind.wrap .i64 (s50.1 - 1)) fun (z54 : Int) =>
 rdp Try.prog (Instr.indexAt 22 (.slice data_a data_n data_c) (.int .i64 z54)) (.one .addr) fun (x55 : Addr) =>
 rd Try.prog (Instr.loadAt 3 (.pointer (some x55))) (.one (.int .i64)) w52 fun (x56 : Int) =>
 rdp Try.prog (Instr.indexAt 22 (.slice data_a data_n data_c) (.int .i64 s50.1)) (.one .addr) fun (x57 : Addr) =>
 rd Try.prog (Instr.loadAt 3 (.pointer (some x57))) (.one (.int .i64)) w52 fun (x58 : Int) =>
 rdp Try.prog (Instr.indexAt 22 (.slice data_a data_n data_c) (.int .i64 s50.1)) (.one .addr) fun (x59 : Addr) =>
 wu Try.prog (Instr.storeAt 3 (.pointer (some x59)) (.int .i64 x56)) w52 fun (w60 : World) =>
 rdp Try.prog (Instr.indexAt 22 (.slice data_a data_n data_c) (.int .i64 z53)) (.one .addr) fun (x61 : Addr) =>
 wu Try.prog (Instr.storeAt 3 (.pointer (some x61)) (.int .i64 x58)) w60 fun (w62 : World) =>
 z (IntKind.wrap .i64 (s50.1 - 1)) fun (z63 : Int) =>
 again49 (z63, ()) w62)
 (R (.tuple #[]) w51)))
 (z (IntKind.wrap .i64 (a_ + b_)) fun (z64 : Int) =>
 z (IntKind.wrap .u64 z64) fun (z65 : Int) =>
 rdp Try.prog (cmpS .shr 49 (.tmp 132) (.const (.int .u64 1)) (.int .u64 z65) (.int .u64 1)) (.one (.int .u64)) fun (x66 : Int) =>
 z (IntKind.wrap .i64 x66) fun (z67 : Int) =>
 z (IntKind.wrap .i64 (z67 + m_)) fun (z68 : Int) =>
 join (T := (Int × Int × Unit)) (fun (s70 : (Int × Int × Unit)) w71 => ∀ _ : Nat → Value,
 z (IntKind.wrap .i64 (z68 - 1)) fun (z72 : Int) =>
 loop (T := (Int × Int × Unit)) (s70.1, s70.2.1, ()) w71 fun (again73 : (Int × Int × Unit) → World → Prop) (s74 : (Int × Int × Unit)) w75 => ∀ _ : Nat → Value,
 br (decide (s74.1 < s74.2.1)) (z (IntKind.wrap .i64 (s74.1 + s74.2.1)) fun (z76 : Int) =>
 z (IntKind.wrap .u64 z76) fun (z77 : Int) =>
 rdp Try.prog (cmpS .shr 49 (.tmp 155) (.const (.int .u64 1)) (.int .u64 z77) (.int .u64 1)) (.one (.int .u64)) fun (x78 : Int) =>
 z (IntKind.wrap .i64 x78) fun (z79 : Int) =>
 drw w75 fun w80 =>
 z (IntKind.wrap .i64 (z72 - z79)) fun (z81 : Int) =>
 rdp Try.prog (Instr.indexAt 22 (.slice data_a data_n data_c) (.int .i64 z81)) (.one .addr) fun (x82 : Addr) =>
 rd Try.prog (Instr.loadAt 3 (.pointer (some x82))) (.one (.int .i64)) w80 fun (x83 : Int) =>
 rdp Try.prog (Instr.indexAt 22 (.slice data_a data_n data_c) (.int .i64 z79)) (.one .addr) fun (x84 : Addr) =>
 rd Try.prog (Instr.loadAt 3 (.pointer (some x84))) (.one (.int .i64)) w80 fun (x85 : Int) =>
 call Try.prog 26 [(.int .i64 x83), (.int .i64 x85), (.pointer (some cap4_0)), (.pointer (some cap4_1)), (.pointer (some cap4_2))] (.one (.one (.int .i64))) w80 fun (x86 : Int) (w87 : World) =>
 br (!(decide (x86 < 0))) (z (IntKind.wrap .i64 (z79 + 1)) fun (z88 : Int) =>
 again73 (z88, s74.2.1, ()) w87)
 (again73 (s74.1, z79, ()) w87))
 (z (IntKind.wrap .i64 (z68 - s74.1)) fun (z89 : Int) =>
 join (T := (Unit)) (fun (_s91 : (Unit)) w92 => ∀ _ : Nat → Value,
 join (T := (Unit)) (fun (_s94 : (Unit)) w95 => ∀ _ : Nat → Value,
 br (decide (z67 < z89)) (br (decide (z89 < b_)) (call Try.prog 40 [(.slice data_a data_n data_c), (.int .i64 z67), (.int .i64 z89), (.int .i64 b_), (.func (.func 26) #[] #[(.pointer (some cap4_0)), (.pointer (some cap4_1)), (.pointer (some cap4_2))])] (.many []) w95 fun (_x96 : (Unit)) (w97 : World) =>
 R (.tuple #[]) w97)
 (R (.tuple #[]) w95))
 (R (.tuple #[]) w95))
  fun (K93 : (Unit) → World → Prop) =>
 br (decide (a_ < s74.1)) (br (decide (s74.1 < z67)) (call Try.prog 40 [(.slice data_a data_n data_c), (.int .i64 a_), (.int .i64 s74.1), (.int .i64 z67), (.func (.func 26) #[] #[(.pointer (some cap4_0)), (.pointer (some cap4_1)), (.pointer (some cap4_2))])] (.many []) w92 fun (_x98 : (Unit)) (w99 : World) =>
 K93 (()) w99)
 (K93 (()) w92))
 (K93 (()) w92))
  fun (K90 : (Unit) → World → Prop) =>
 br (decide (s74.1 < m_)) (br (decide (m_ < z89)) (call Try.prog 46 [(.slice data_a data_n data_c), (.int .i64 s74.1), (.int .i64 m_), (.int .i64 z89), (.func (.func 26) #[] #[(.pointer (some cap4_0)), (.pointer (some cap4_1)), (.pointer (some cap4_2))])] (.many []) w75 fun (_x100 : (Unit)) (w101 : World) =>
 K90 (()) w101)
 (K90 (()) w75))
 (K90 (()) w75)))
  fun (K69 : (Int × Int × Unit) → World → Prop) =>
 br (decide (m_ > z67)) (z (IntKind.wrap .i64 (z68 - b_)) fun (z102 : Int) =>
 K69 (z102, z67, ()) w0)
 (K69 (a_, m_, ()) w0)))
def H40 : Hints := ⟨[(2, 0, [(10, (.one (.int .i64))), (11, (.one (.int .i64)))]), (2, 2, [(13, (.one (.int .i64)))]), (2, 4, [(14, (.one (.int .i64))), (15, (.one (.int .i64)))]), (2, 6, [(17, (.one (.int .i64)))]), (0, 140, [(20, (.one (.int .i64))), (21, (.one (.int .i64)))]), (2, 8, [(20, (.one (.int .i64))), (21, (.one (.int .i64)))]), (0, 185, []), (0, 199, [])], [(5, 9), (11, 14), (17, 9), (23, 14), (35, 11)], [], []⟩
set_option maxRecDepth 100000 in
theorem S40_eq (data_a : Option Addr) (data_n : Nat) (data_c : Nat) (a_ : Int) (m_ : Int) (b_ : Int) (cap4_0 : Addr) (cap4_1 : Addr) (cap4_2 : Addr) (w0 : World) (R : Value → World → Prop) : vcFn Try.prog H40 Try.f40 [(.slice data_a data_n data_c), (.int .i64 a_), (.int .i64 m_), (.int .i64 b_), (.func (.func 26) #[] #[(.pointer (some cap4_0)), (.pointer (some cap4_1)), (.pointer (some cap4_2))])] w0 R = S40 data_a data_n data_c a_ m_ b_ cap4_0 cap4_1 cap4_2 w0 R := by kernel_rfl
set_option maxRecDepth 100000 in
theorem S40_calls (data_a : Option Addr) (data_n : Nat) (data_c : Nat) (a_ : Int) (m_ : Int) (b_ : Int) (cap4_0 : Addr) (cap4_1 : Addr) (cap4_2 : Addr) (w0 : World) (R : Value → World → Prop) (h : S40 data_a data_n data_c a_ m_ b_ cap4_0 cap4_1 cap4_2 w0 R) : Calls Try.prog 40 #[(.slice data_a data_n data_c), (.int .i64 a_), (.int .i64 m_), (.int .i64 b_), (.func (.func 26) #[] #[(.pointer (some cap4_0)), (.pointer (some cap4_1)), (.pointer (some cap4_2))])] w0 (ret R) := by
  rw [← S40_eq] at h; exact vcFn_sound follows_ Try.func40 h

/-- slices.rotateCmpFunc[int] -/
def S46 (data_a : Option Addr) (data_n : Nat) (data_c : Nat) (a_ : Int) (m_ : Int) (b_ : Int) (cap4_0 : Addr) (cap4_1 : Addr) (cap4_2 : Addr) (w0 : World) (R : Value → World → Prop) : Prop :=
 z (IntKind.wrap .i64 (m_ - a_)) fun (z1 : Int) =>
 z (IntKind.wrap .i64 (b_ - m_)) fun (z2 : Int) =>
 loop (T := (Int × Int × Unit)) (z1, z2, ()) w0 fun (again3 : (Int × Int × Unit) → World → Prop) (s4 : (Int × Int × Unit)) w5 => ∀ _ : Nat → Value,
 br (s4.1 != s4.2.1) (br (decide (s4.1 > s4.2.1)) (z (IntKind.wrap .i64 (m_ - s4.1)) fun (z6 : Int) =>
 call Try.prog 58 [(.slice data_a data_n data_c), (.int .i64 z6), (.int .i64 m_), (.int .i64 s4.2.1), (.func (.func 26) #[] #[(.pointer (some cap4_0)), (.pointer (some cap4_1)), (.pointer (some cap4_2))])] (.many []) w5 fun (_x7 : (Unit)) (w8 : World) =>
 z (IntKind.wrap .i64 (s4.1 - s4.2.1)) fun (z9 : Int) =>
 again3 (z9, s4.2.1, ()) w8)
 (z (IntKind.wrap .i64 (m_ - s4.1)) fun (z10 : Int) =>
 z (IntKind.wrap .i64 (m_ + s4.2.1)) fun (z11 : Int) =>
 z (IntKind.wrap .i64 (z11 - s4.1)) fun (z12 : Int) =>
 call Try.prog 58 [(.slice data_a data_n data_c), (.int .i64 z10), (.int .i64 z12), (.int .i64 s4.1), (.func (.func 26) #[] #[(.pointer (some cap4_0)), (.pointer (some cap4_1)), (.pointer (some cap4_2))])] (.many []) w5 fun (_x13 : (Unit)) (w14 : World) =>
 z (IntKind.wrap .i64 (s4.2.1 - s4.1)) fun (z15 : Int) =>
 again3 (s4.1, z15, ()) w14))
 (z (IntKind.wrap .i64 (m_ - s4.1)) fun (z16 : Int) =>
 call Try.prog 58 [(.slice data_a data_n data_c), (.int .i64 z16), (.int .i64 m_), (.int .i64 s4.1), (.func (.func 26) #[] #[(.pointer (some cap4_0)), (.pointer (some cap4_1)), (.pointer (some cap4_2))])] (.many []) w5 fun (_x17 : (Unit)) (w18 : World) =>
 R (.tuple #[]) w18)
def H46 : Hints := ⟨[(2, 0, [(10, (.one (.int .i64))), (11, (.one (.int .i64)))])], [], [], []⟩
set_option maxRecDepth 100000 in
theorem S46_eq (data_a : Option Addr) (data_n : Nat) (data_c : Nat) (a_ : Int) (m_ : Int) (b_ : Int) (cap4_0 : Addr) (cap4_1 : Addr) (cap4_2 : Addr) (w0 : World) (R : Value → World → Prop) : vcFn Try.prog H46 Try.f46 [(.slice data_a data_n data_c), (.int .i64 a_), (.int .i64 m_), (.int .i64 b_), (.func (.func 26) #[] #[(.pointer (some cap4_0)), (.pointer (some cap4_1)), (.pointer (some cap4_2))])] w0 R = S46 data_a data_n data_c a_ m_ b_ cap4_0 cap4_1 cap4_2 w0 R := by kernel_rfl
set_option maxRecDepth 100000 in
theorem S46_calls (data_a : Option Addr) (data_n : Nat) (data_c : Nat) (a_ : Int) (m_ : Int) (b_ : Int) (cap4_0 : Addr) (cap4_1 : Addr) (cap4_2 : Addr) (w0 : World) (R : Value → World → Prop) (h : S46 data_a data_n data_c a_ m_ b_ cap4_0 cap4_1 cap4_2 w0 R) : Calls Try.prog 46 #[(.slice data_a data_n data_c), (.int .i64 a_), (.int .i64 m_), (.int .i64 b_), (.func (.func 26) #[] #[(.pointer (some cap4_0)), (.pointer (some cap4_1)), (.pointer (some cap4_2))])] w0 (ret R) := by
  rw [← S46_eq] at h; exact vcFn_sound follows_ Try.func46 h

/-- slices.swapRangeCmpFunc[int] -/
def S58 (data_a : Option Addr) (data_n : Nat) (data_c : Nat) (a_ : Int) (b_ : Int) (n_ : Int) (_cap4_0 : Addr) (_cap4_1 : Addr) (_cap4_2 : Addr) (w0 : World) (R : Value → World → Prop) : Prop :=
 loop (T := (Int × Unit)) (0, ()) w0 fun (again1 : (Int × Unit) → World → Prop) (s2 : (Int × Unit)) w3 => ∀ _ : Nat → Value,
 br (decide (s2.1 < n_)) (drw w3 fun w4 =>
 z (IntKind.wrap .i64 (a_ + s2.1)) fun (z5 : Int) =>
 z (IntKind.wrap .i64 (b_ + s2.1)) fun (z6 : Int) =>
 z (IntKind.wrap .i64 (b_ + s2.1)) fun (z7 : Int) =>
 rdp Try.prog (Instr.indexAt 22 (.slice data_a data_n data_c) (.int .i64 z7)) (.one .addr) fun (x8 : Addr) =>
 rd Try.prog (Instr.loadAt 3 (.pointer (some x8))) (.one (.int .i64)) w4 fun (x9 : Int) =>
 z (IntKind.wrap .i64 (a_ + s2.1)) fun (z10 : Int) =>
 rdp Try.prog (Instr.indexAt 22 (.slice data_a data_n data_c) (.int .i64 z10)) (.one .addr) fun (x11 : Addr) =>
 rd Try.prog (Instr.loadAt 3 (.pointer (some x11))) (.one (.int .i64)) w4 fun (x12 : Int) =>
 rdp Try.prog (Instr.indexAt 22 (.slice data_a data_n data_c) (.int .i64 z5)) (.one .addr) fun (x13 : Addr) =>
 wu Try.prog (Instr.storeAt 3 (.pointer (some x13)) (.int .i64 x9)) w4 fun (w14 : World) =>
 rdp Try.prog (Instr.indexAt 22 (.slice data_a data_n data_c) (.int .i64 z6)) (.one .addr) fun (x15 : Addr) =>
 wu Try.prog (Instr.storeAt 3 (.pointer (some x15)) (.int .i64 x12)) w14 fun (w16 : World) =>
 z (IntKind.wrap .i64 (s2.1 + 1)) fun (z17 : Int) =>
 again1 (z17, ()) w16)
 (R (.tuple #[]) w3)
def H58 : Hints := ⟨[(2, 0, [(10, (.one (.int .i64)))])], [(3, 20)], [], []⟩
set_option maxRecDepth 100000 in
theorem S58_eq (data_a : Option Addr) (data_n : Nat) (data_c : Nat) (a_ : Int) (b_ : Int) (n_ : Int) (cap4_0 : Addr) (cap4_1 : Addr) (cap4_2 : Addr) (w0 : World) (R : Value → World → Prop) : vcFn Try.prog H58 Try.f58 [(.slice data_a data_n data_c), (.int .i64 a_), (.int .i64 b_), (.int .i64 n_), (.func (.func 26) #[] #[(.pointer (some cap4_0)), (.pointer (some cap4_1)), (.pointer (some cap4_2))])] w0 R = S58 data_a data_n data_c a_ b_ n_ cap4_0 cap4_1 cap4_2 w0 R := by kernel_rfl
set_option maxRecDepth 100000 in
theorem S58_calls (data_a : Option Addr) (data_n : Nat) (data_c : Nat) (a_ : Int) (b_ : Int) (n_ : Int) (cap4_0 : Addr) (cap4_1 : Addr) (cap4_2 : Addr) (w0 : World) (R : Value → World → Prop) (h : S58 data_a data_n data_c a_ b_ n_ cap4_0 cap4_1 cap4_2 w0 R) : Calls Try.prog 58 #[(.slice data_a data_n data_c), (.int .i64 a_), (.int .i64 b_), (.int .i64 n_), (.func (.func 26) #[] #[(.pointer (some cap4_0)), (.pointer (some cap4_1)), (.pointer (some cap4_2))])] w0 (ret R) := by
  rw [← S58_eq] at h; exact vcFn_sound follows_ Try.func58 h

end Go.Proofs

/- slices.SortStableFunc, walked: printed by wip/sort/gen.py for one use. -/


namespace Go.Proofs.Ytckgpiboelhefaa.Ap
open Go.RowKit Go.Q Go.V Go.Srt

theorem zn {e : Int} (x : Nat) {k : Int → Prop} (h : e = (x : Int)) (hb : x < 9223372036854775808) (hk : k (x : Int)) : z (IntKind.wrap .i64 e) k := by
  subst h; exact z_i64 (by omega) hk
theorem half_mk {t : TypeId} {x y : Operand} {e : Int} (u : Nat) (h : e = (u : Int)) (hb : u < 4611686018427387904) {k : Int → Prop} (hk : k ((u / 2 : Nat) : Int)) :
    z (IntKind.wrap .i64 e) fun z5 => z (IntKind.wrap .u64 z5) fun z6 => rdp Try.prog (cmpS .shr t x y (.int .u64 z6) (.int .u64 1)) (.one (.int .u64)) fun x7 => z (IntKind.wrap .i64 x7) k := by
  refine zn u h (by omega) ?_
  refine z_u64 (by omega) ?_
  refine rdp_shr 1 rfl (by decide) ?_
  refine zn (u / 2) ?_ (by omega) hk
  show (u : Int) / 2 = _
  omega
theorem tyE : TyS Try.prog 22 3 (.int .i64 0) 1 8 := ⟨by kernel_rfl, by kernel_rfl⟩
abbrev VV (d : Nat → Int) : Nat → Value := fun s => .int .i64 (d s)
/-- what the comparison tells, whatever was written into the row -/
def Cm (k : Nat → Nat → Prop) (n : Nat) (d : Nat → Int) (a : Option Addr) (p0 p1 p2 : Addr) (w : World) : Prop :=
  ∀ w', w.grownBy w' (blk a) → ∀ s t, s < n → t < n → call Try.prog 26 [VV d s, VV d t, .pointer (some p0), .pointer (some p1), .pointer (some p2)] (.one (.one (.int .i64))) w' fun (x : Int) w'' => (x < 0 ↔ k s t) ∧ bel w' w''
abbrev OV (w : World) (B : Nat) (a : Option Addr) (n c : Nat) (d : Nat → Int) (f : Nat → Nat) : Prop := Own w B 3 1 a n c (mkV n (VV d) f)
section
variable {k : Nat → Nat → Prop} {w : World} {B : Nat} {a : Option Addr} {n c : Nat} {d : Nat → Int} {f : Nat → Nat} {p0 p1 p2 : Addr}
theorem Cm.up (h : Cm k n d a p0 p1 p2 w) {w' : World} (hg : w.grownBy w' (blk a)) : Cm k n d a p0 p1 p2 w' := fun w'' h'' => h w'' (hg.trans h'')
theorem rdV (O : OV w B a n c d f) {i : Int} {j : Nat} (hj : i = (j : Int)) (h : j < n) {K : Int → Prop} (hk : K (d (f j))) :
    rdp Try.prog (Instr.indexAt 22 (.slice a n c) (.int .i64 i)) (.one .addr) fun ad => rd Try.prog (Instr.loadAt 3 (.pointer (some ad))) (.one (.int .i64)) w K :=
  at_mk tyE (by kernel_rfl) O.sl hj (mkV_at h) (by simp [Sh.get]) hk
theorem setV (O : OV w B a n c d f) {i j : Nat} (hi : i < n) (hj : j < n) {ii jj : Int} (ei : ii = (i : Int)) (ej : jj = (j : Int)) {K : World → Prop} (hK : ∀ w', OV w' B a n c d (sw f i j) → w.grownBy w' (blk a) → K w') :
    rdp Try.prog (Instr.indexAt 22 (.slice a n c) (.int .i64 ii)) (.one .addr) fun x => wu Try.prog (Instr.storeAt 3 (.pointer (some x)) (VV d (f j))) w fun w1 =>
      rdp Try.prog (Instr.indexAt 22 (.slice a n c) (.int .i64 jj)) (.one .addr) fun x => wu Try.prog (Instr.storeAt 3 (.pointer (some x)) (VV d (f i))) w1 K := by
  refine set_mk tyE O ei hi rfl fun w1 O1 g1 _ => ?_
  refine set_mk tyE O1 ej hj rfl fun w2 O2 g2 _ => hK w2 ?_ (g1.trans g2)
  rw [mkV_sw] at O2; exact O2
abbrev fnV (p0 p1 p2 : Addr) : Value := .func (.func 26) #[] #[.pointer (some p0), .pointer (some p1), .pointer (some p2)]
theorem swapC {lo hi m : Nat} (h1 : lo + m ≤ hi) (h2 : hi + m ≤ n) (hn : n < 1152921504606846976) (O : OV w B a n c d f) :
    call Try.prog 58 [.slice a n c, .int .i64 (lo : Int), .int .i64 (hi : Int), .int .i64 (m : Int), fnV p0 p1 p2] (.many []) w fun _ w' => OV w' B a n c d (swp f lo hi m) ∧ w.grownBy w' (blk a) := by
  refine call_of (S58_calls a n c _ _ _ p0 p1 p2 w _ ?_)
  unfold S58
  refine loop_up m (fun i w' => OV w' B a n c d (swp f lo hi i) ∧ w.grownBy w' (blk a)) ⟨by rw [swp_zero]; exact O, grown_refl _ _⟩ fun i w1 hi1 ⟨O1, g1⟩ again hag _ => ?_
  refine br_dec (fun e => ?_) (fun e => ?_)
  · dsimp only at e
    have him : i < m := by omega
    refine drw_mk fun w2 hb2 _ => ?_
    replace O1 : OV w2 B a n c d _ := Own.kept O1 hb2
    refine zn (lo + i) (by dsimp only; omega) (by omega) ?_
    refine zn (hi + i) (by dsimp only; omega) (by omega) ?_
    refine zn (hi + i) (by dsimp only; omega) (by omega) ?_
    refine rdV O1 rfl (by omega) ?_
    refine zn (lo + i) (by dsimp only; omega) (by omega) ?_
    refine rdV O1 rfl (by omega) ?_
    refine setV O1 (i := lo + i) (j := hi + i) (by omega) (by omega) rfl rfl fun w3 O3 g3 => ?_
    rw [swp_step (by omega)] at O3
    refine zn (i + 1) (by dsimp only; omega) (by omega) ?_
    exact hag w3 him ⟨O3, g1.trans ((grown_of_bel hb2 _).trans g3)⟩
  · dsimp only at e
    have : i = m := by omega
    subst this
    exact ⟨(), rfl, O1, g1⟩
theorem rotC {lo m hi : Nat} (h1 : lo < m) (h2 : m < hi) (h3 : hi ≤ n) (hn : n < 1152921504606846976) (O : OV w B a n c d f) :
    call Try.prog 46 [.slice a n c, .int .i64 (lo : Int), .int .i64 (m : Int), .int .i64 (hi : Int), fnV p0 p1 p2] (.many []) w fun _ w' => OV w' B a n c d (rot f lo m hi) ∧ w.grownBy w' (blk a) := by
  refine call_of (S46_calls a n c _ _ _ p0 p1 p2 w _ ?_)
  unfold S46
  refine zn (m - lo) (by omega) (by omega) ?_
  refine zn (hi - m) (by omega) (by omega) ?_
  refine loop_gh (G := Nat × Nat) (fun g s w' => s = ((g.1 : Int), (g.2 : Int), ()) ∧ 0 < g.1 ∧ g.1 ≤ m ∧ 0 < g.2 ∧ m + g.2 ≤ n ∧ w.grownBy w' (blk a) ∧ ∃ h, OV w' B a n c d h ∧ rot h (m - g.1) m (m + g.2) = rot f lo m hi) (fun g => g.1 + g.2) (m - lo, hi - m)
    ⟨rfl, by dsimp only; omega, by dsimp only; omega, by dsimp only; omega, by dsimp only; omega, grown_refl _ _, f, O, by
      dsimp only
      have e1 : m - (m - lo) = lo := by omega
      have e2 : m + (hi - m) = hi := by omega
      rw [e1, e2]⟩ ?_
  rintro ⟨i, j⟩ s w1 ⟨rfl, hi0, him, hj0, hjm, g1, h, O1, er⟩ again hag _
  dsimp only at hi0 him hj0 hjm er ⊢
  refine br_ne (fun e => ?_) (fun e => ?_)
  · refine br_dec (fun e2 => ?_) (fun e2 => ?_)
    · refine zn (m - i) (by omega) (by omega) ?_
      refine call_mono (swapC (lo := m - i) (hi := m) (m := j) (by omega) (by omega) hn O1) fun _ w2 ⟨O2, g2⟩ => ?_
      refine zn (i - j) (by omega) (by omega) ?_
      exact hag (i - j, j) _ w2 ⟨rfl, by dsimp only; omega, by dsimp only; omega, hj0, hjm, g1.trans g2, _, O2, by rw [← er]; exact rot_left him (by omega)⟩ (by dsimp only; omega)
    · refine zn (m - i) (by omega) (by omega) ?_
      refine zn (m + j) (by omega) (by omega) ?_
      refine zn (m + j - i) (by omega) (by omega) ?_
      refine call_mono (swapC (lo := m - i) (hi := m + j - i) (m := i) (by omega) (by omega) hn O1) fun _ w2 ⟨O2, g2⟩ => ?_
      refine zn (j - i) (by omega) (by omega) ?_
      exact hag (i, j - i) _ w2 ⟨rfl, hi0, him, by dsimp only; omega, by dsimp only; omega, g1.trans g2, _, O2, by rw [← er]; exact rot_right him (by omega)⟩ (by dsimp only; omega)
  · have : i = j := by omega
    subst this
    refine zn (m - i) (by omega) (by omega) ?_
    refine call_mono (swapC (lo := m - i) (hi := m) (m := i) (by omega) (by omega) hn O1) fun _ w2 ⟨O2, g2⟩ => ?_
    rw [rot_mid him, er] at O2
    exact ⟨(), rfl, O2, g1.trans g2⟩
theorem insC (K : SWO k) (cm : Cm k n d a p0 p1 p2 w) (R0 : RP 0 n id f) {lo hi : Nat} (h1 : lo ≤ hi) (h2 : hi ≤ n) (hn : n < 1152921504606846976) (tg : ∀ x y, lo ≤ x → x < y → y < hi → f x < f y) (O : OV w B a n c d f) :
    call Try.prog 39 [.slice a n c, .int .i64 (lo : Int), .int .i64 (hi : Int), fnV p0 p1 p2] (.many []) w fun _ w' => ∃ g, RP lo hi f g ∧ Srtd k g lo hi ∧ OV w' B a n c d g ∧ w.grownBy w' (blk a) := by
  refine call_of (S39_calls a n c _ _ p0 p1 p2 w _ ?_)
  unfold S39
  refine zn (lo + 1) (by omega) (by omega) ?_
  refine loop_gh (G := Nat) (fun i s w' => s = ((i : Int), ()) ∧ lo + 1 ≤ i ∧ (i ≤ hi ∨ i = lo + 1) ∧ w.grownBy w' (blk a) ∧ ∃ g, OV w' B a n c d g ∧ RP lo i f g ∧ Srtd k g lo i ∧ (i = lo + 1 → g = f)) (fun i => hi - i) (lo + 1)
    ⟨rfl, Nat.le_refl _, .inr rfl, grown_refl _ _, f, O, RP.refl _ _ _, srt_one _ _, fun _ => rfl⟩ ?_
  rintro i s w1 ⟨rfl, hli, hih, g1, g, O1, r1, s1, e1⟩ again hag _
  dsimp only
  refine br_dec (fun e => ?_) (fun e => ?_)
  · have hi' : i < hi := by omega
    have R1 : RP 0 n id g := R0.trans (r1.mono (Nat.zero_le _) (by omega))
    have tgi : ∀ x, lo ≤ x → x < i → g x < g i := fun x q1 q2 => by
      obtain ⟨y, y1, y2, y3⟩ := r1.at q1 q2
      rw [y3, r1.off (show ¬ (lo ≤ i ∧ i < i) by omega)]
      exact tg y i y1 y2 hi'
    refine join_mk (fun _ w' => w.grownBy w' (blk a) ∧ ∃ g', OV w' B a n c d g' ∧ RP lo (i + 1) f g' ∧ Srtd k g' lo (i + 1)) (fun K5 hK5 => ?_) (fun _ w7 ⟨g7, h7, O7, r7, s7⟩ _ => ?_)
    · refine loop_gh (G := Nat) (fun j s w' => s = ((j : Int), ()) ∧ lo ≤ j ∧ j ≤ i ∧ w.grownBy w' (blk a) ∧ OV w' B a n c d (rot g j i (i + 1)) ∧ ∀ x, j ≤ x → x < i → Lt k (g i) (g x)) (fun j => j) i
        ⟨rfl, by omega, Nat.le_refl _, g1, by rw [rot_id (.inl rfl)]; exact O1, fun x q1 q2 => by omega⟩ ?_
      rintro j s w11 ⟨rfl, hlj, hji, g11, O11, hlt⟩ again2 hag2 _
      dsimp only
      have rr : ∀ j, lo ≤ j → j ≤ i → RP lo (i + 1) f (rot g j i (i + 1)) := fun j q1 q2 => (r1.mono (Nat.le_refl _) (by omega)).trans ((rot_RP q2 (by omega)).mono q1 (Nat.le_refl _))
      refine drw_mk fun w12 hb12 _ => ?_
      replace O11 : OV w12 B a n c d _ := Own.kept O11 hb12
      have g12 := g11.trans (grown_of_bel hb12 _)
      refine br_dec (fun e2 => ?_) (fun e2 => ?_)
      · obtain ⟨j', rfl⟩ : ∃ j', j = j' + 1 := ⟨j - 1, by omega⟩
        have q1 : rot g (j' + 1) i (i + 1) (j' + 1) = g i := by rw [rot_1 (Nat.le_refl _) (by omega)]; congr 1; omega
        have q2 : rot g (j' + 1) i (i + 1) j' = g j' := rot_lo (by omega)
        refine rdV O11 (j := j' + 1) rfl (by omega) ?_
        refine zn j' (by omega) (by omega) ?_
        refine rdV O11 (j := j') rfl (by omega) ?_
        refine call_mono (cm w12 g12 (rot g (j' + 1) i (i + 1) (j' + 1)) (rot g (j' + 1) i (i + 1) j') (by rw [q1]; exact R1.lt (by omega)) (by rw [q2]; exact R1.lt (by omega))) fun (x18 : Int) w19 ⟨hk, hb19⟩ => ?_
        rw [q1, q2] at hk
        replace O11 : OV w19 B a n c d _ := Own.kept O11 hb19
        have g19 := g12.trans (grown_of_bel hb19 _)
        refine br_dec (fun e3 => ?_) (fun e3 => ?_)
        · refine drw_mk fun w20 hb20 _ => ?_
          replace O11 : OV w20 B a n c d _ := Own.kept O11 hb20
          refine zn j' (by omega) (by omega) ?_
          refine zn j' (by omega) (by omega) ?_
          refine rdV O11 (j := j') rfl (by omega) ?_
          refine rdV O11 (j := j' + 1) rfl (by omega) ?_
          refine setV O11 (i := j' + 1) (j := j') (by omega) (by omega) rfl rfl fun w3 O3 g3 => ?_
          rw [rot_down (by omega)] at O3
          refine zn j' (by omega) (by omega) ?_
          refine hag2 j' _ w3 ⟨rfl, by omega, by omega, (g19.trans (grown_of_bel hb20 _)).trans g3, O3, fun x p1 p2 => ?_⟩ (by omega)
          by_cases c : x = j'
          · rw [c]; exact .inl (hk.1 e3)
          · exact hlt x (by omega) p2
        · exact hK5 () _ ⟨g19, _, O11, rr _ hlj hji, ins_srt K hlj hji s1 hlt (.inr ((Lt.early K (tgi j' (by omega) (by omega))).1 fun q => e3 (hk.2 q)))⟩
      · have : j = lo := by omega
        subst this
        exact hK5 () _ ⟨g12, _, O11, rr _ hlj hji, ins_srt K hlj hji s1 hlt (.inl rfl)⟩
    · refine zn (i + 1) (by omega) (by omega) ?_
      exact hag (i + 1) _ w7 ⟨rfl, by omega, .inl (by omega), g7, h7, O7, r7, s7, fun q => by omega⟩ (by omega)
  · rcases Nat.lt_or_ge lo hi with q | q
    · have : i = hi := by omega
      subst this
      exact ⟨(), rfl, g, r1, s1, O1, g1⟩
    · have e0 := e1 (by omega)
      subst e0
      exact ⟨(), rfl, g, RP.refl _ _ _, srt_sub s1 (Nat.le_refl _) (by omega), O1, g1⟩
end
end Go.Proofs.Ytckgpiboelhefaa.Ap

/- The symmetric merge and the whole stable sort, walked. -/

namespace Go.Proofs.Ytckgpiboelhefaa.Ap
open Go.RowKit Go.Q Go.V Go.Srt
section
variable {k : Nat → Nat → Prop} {B : Nat} {a : Option Addr} {n c : Nat} {d : Nat → Int} {p0 p1 p2 : Addr}
/-- the cut, brought to the two halves: the calls behind the search -/
theorem symC (K : SWO k) (hn : n < 1152921504606846976) : ∀ (l : Nat) {w : World} {f : Nat → Nat} {lo m hi : Nat}, hi - lo = l → lo < m → m < hi → hi ≤ n → RP 0 n id f → Mrg k f lo m hi → Cm k n d a p0 p1 p2 w → OV w B a n c d f →
    call Try.prog 40 [.slice a n c, .int .i64 (lo : Int), .int .i64 (m : Int), .int .i64 (hi : Int), fnV p0 p1 p2] (.many []) w fun _ w' => ∃ g, RP lo hi f g ∧ Srtd k g lo hi ∧ OV w' B a n c d g ∧ w.grownBy w' (blk a) := by
  intro l
  induction l using Nat.strongRecOn with
  | ind l IH =>
  intro w f lo m hi hl h1 h2 h3 R0 M cm O
  have flt : ∀ x, x < hi → f x < n := fun x hx => R0.lt (by omega)
  refine call_of (S40_calls a n c _ _ _ p0 p1 p2 w _ ?_)
  unfold S40
  refine zn (m - lo) (by omega) (by omega) ?_
  refine br_eq (fun e1 => ?_) (fun e1 => ?_)
  · -- one element to the left
    have em : m = lo + 1 := by omega
    subst em
    refine loop_gh (G := Nat × Nat) (fun g s w' => s = ((g.1 : Int), (g.2 : Int), ()) ∧ lo + 1 ≤ g.1 ∧ g.1 ≤ g.2 ∧ g.2 ≤ hi ∧ (∀ x, lo + 1 ≤ x → x < g.1 → k (f x) (f lo)) ∧ (∀ y, g.2 ≤ y → y < hi → ¬ k (f y) (f lo)) ∧ OV w' B a n c d f ∧ w.grownBy w' (blk a)) (fun g => g.2 - g.1) (lo + 1, hi)
      ⟨rfl, Nat.le_refl _, by dsimp only; omega, Nat.le_refl _, fun x q1 q2 => by dsimp only at q2; omega, fun x q1 q2 => by dsimp only at q1; omega, O, grown_refl _ _⟩ ?_
    rintro ⟨i, j⟩ s w4 ⟨rfl, q1, q2, q3, lt, ge, O4, g4⟩ again hag _
    dsimp only at q1 q2 q3 lt ge ⊢
    refine br_dec (fun e => ?_) (fun e => ?_)
    · have hc1 : i ≤ (i + j) / 2 := by omega
      have hc2 : (i + j) / 2 < j := by omega
      refine half_mk (i + j) (by omega) (by omega) ?_
      generalize (i + j) / 2 = h at hc1 hc2
      refine drw_mk fun w9 hb9 _ => ?_
      replace O4 : OV w9 B a n c d _ := Own.kept O4 hb9
      have g9 := g4.trans (grown_of_bel hb9 _)
      refine rdV O4 (j := h) rfl (by omega) ?_
      refine rdV O4 (j := lo) rfl (by omega) ?_
      refine call_mono (cm w9 g9 (f h) (f lo) (flt h (by omega)) (flt lo (by omega))) fun (x : Int) w15 ⟨hk, hb15⟩ => ?_
      replace O4 : OV w15 B a n c d _ := Own.kept O4 hb15
      have g15 := g9.trans (grown_of_bel hb15 _)
      refine br_dec (fun e3 => ?_) (fun e3 => ?_)
      · refine zn (h + 1) (by omega) (by omega) ?_
        refine hag (h + 1, j) _ w15 ⟨rfl, by dsimp only; omega, by dsimp only; omega, q3, fun x p1 p2 => ?_, ge, O4, g15⟩ (by dsimp only; omega)
        dsimp only at p2
        by_cases c : x = h
        · rw [c]; exact hk.1 e3
        · exact Lt.k_left K (M.r x h p1 (by omega) (by omega)) (hk.1 e3)
      · refine hag (i, h) _ w15 ⟨rfl, q1, hc1, by dsimp only; omega, lt, fun y p1 p2 => ?_, O4, g15⟩ (by dsimp only; omega)
        dsimp only at p1
        by_cases c : y = h
        · rw [c]; exact fun q => e3 (hk.2 q)
        · exact fun q => e3 (hk.2 (Lt.k_left K (M.r h y (by omega) (by omega) p2) q))
    · have : i = j := by omega
      subst this
      refine loop_gh (G := Nat) (fun g s w' => s = ((g : Int), ()) ∧ lo ≤ g ∧ g + 1 ≤ i ∧ OV w' B a n c d (rot f lo (lo + 1) (g + 1)) ∧ w.grownBy w' (blk a)) (fun g => i - g) lo
        ⟨rfl, Nat.le_refl _, q1, by rw [rot_id (.inr rfl)]; exact O4, g4⟩ ?_
      rintro u s w19 ⟨rfl, p1, p2, O19, g19⟩ again2 hag2 _
      dsimp only
      refine zn (i - 1) (by omega) (by omega) ?_
      refine br_dec (fun e5 => ?_) (fun e5 => ?_)
      · refine drw_mk fun w21 hb21 _ => ?_
        replace O19 : OV w21 B a n c d _ := Own.kept O19 hb21
        refine zn (u + 1) (by omega) (by omega) ?_
        refine zn (u + 1) (by omega) (by omega) ?_
        refine rdV O19 (j := u + 1) rfl (by omega) ?_
        refine rdV O19 (j := u) rfl (by omega) ?_
        refine setV O19 (i := u) (j := u + 1) (by omega) (by omega) rfl rfl fun w3 O3 g3 => ?_
        rw [rot_up p1] at O3
        refine zn (u + 1) (by omega) (by omega) ?_
        exact hag2 (u + 1) _ w3 ⟨rfl, by omega, by omega, O3, (g19.trans (grown_of_bel hb21 _)).trans g3⟩ (by omega)
      · have : u + 1 = i := by omega
        rw [this] at O19
        exact ⟨(), rfl, _, (rot_RP (by omega) q1).mono (Nat.le_refl _) q3, up_srt q1 q3 M.r (fun x z1 z2 => .inl (lt x z1 z2)) (fun y z1 z2 => (Lt.early K (M.tags lo y (Nat.le_refl _) (by omega) (by omega) z2)).1 (ge y z1 z2)), O19, g19⟩
  refine zn (hi - m) (by omega) (by omega) ?_
  refine br_eq (fun e2 => ?_) (fun e2 => ?_)
  · -- one element to the right
    have em : hi = m + 1 := by omega
    subst em
    refine loop_gh (G := Nat × Nat) (fun g s w' => s = ((g.1 : Int), (g.2 : Int), ()) ∧ lo ≤ g.1 ∧ g.1 ≤ g.2 ∧ g.2 ≤ m ∧ (∀ x, lo ≤ x → x < g.1 → ¬ k (f m) (f x)) ∧ (∀ y, g.2 ≤ y → y < m → k (f m) (f y)) ∧ OV w' B a n c d f ∧ w.grownBy w' (blk a)) (fun g => g.2 - g.1) (lo, m)
      ⟨rfl, Nat.le_refl _, by dsimp only; omega, Nat.le_refl _, fun x q1 q2 => by dsimp only at q2; omega, fun x q1 q2 => by dsimp only at q1; omega, O, grown_refl _ _⟩ ?_
    rintro ⟨i, j⟩ s w4 ⟨rfl, q1, q2, q3, lt, ge, O4, g4⟩ again hag _
    dsimp only at q1 q2 q3 lt ge ⊢
    refine br_dec (fun e => ?_) (fun e => ?_)
    · have hc1 : i ≤ (i + j) / 2 := by omega
      have hc2 : (i + j) / 2 < j := by omega
      refine half_mk (i + j) (by omega) (by omega) ?_
      generalize (i + j) / 2 = h at hc1 hc2
      refine drw_mk fun w9 hb9 _ => ?_
      replace O4 : OV w9 B a n c d _ := Own.kept O4 hb9
      have g9 := g4.trans (grown_of_bel hb9 _)
      refine rdV O4 (j := m) rfl (by omega) ?_
      refine rdV O4 (j := h) rfl (by omega) ?_
      refine call_mono (cm w9 g9 (f m) (f h) (flt m (by omega)) (flt h (by omega))) fun (x : Int) w15 ⟨hk, hb15⟩ => ?_
      replace O4 : OV w15 B a n c d _ := Own.kept O4 hb15
      have g15 := g9.trans (grown_of_bel hb15 _)
      refine br_not (fun e3 => ?_) (fun e3 => ?_)
      · have e3 : ¬ k (f m) (f h) := fun q => by have := hk.2 q; simp at e3; omega
        refine zn (h + 1) (by omega) (by omega) ?_
        refine hag (h + 1, j) _ w15 ⟨rfl, by dsimp only; omega, by dsimp only; omega, q3, fun x p1 p2 => ?_, ge, O4, g15⟩ (by dsimp only; omega)
        dsimp only at p2
        by_cases c : x = h
        · rw [c]; exact e3
        · exact fun q => e3 (Lt.k_right K (M.l x h p1 (by omega) (by omega)) q)
      · have e3 : k (f m) (f h) := hk.1 (of_decide_eq_true e3)
        refine hag (i, h) _ w15 ⟨rfl, q1, hc1, by dsimp only; omega, lt, fun y p1 p2 => ?_, O4, g15⟩ (by dsimp only; omega)
        dsimp only at p1
        by_cases c : y = h
        · rw [c]; exact e3
        · exact Lt.k_right K (M.l h y (by omega) (by omega) p2) e3
    · have : i = j := by omega
      subst this
      refine loop_gh (G := Nat) (fun g s w' => s = ((g : Int), ()) ∧ i ≤ g ∧ g ≤ m ∧ OV w' B a n c d (rot f g m (m + 1)) ∧ w.grownBy w' (blk a)) (fun g => g) m
        ⟨rfl, q3, Nat.le_refl _, by rw [rot_id (.inl rfl)]; exact O4, g4⟩ ?_
      rintro u s w19 ⟨rfl, p1, p2, O19, g19⟩ again2 hag2 _
      dsimp only
      refine br_dec (fun e5 => ?_) (fun e5 => ?_)
      · obtain ⟨v, rfl⟩ : ∃ v, u = v + 1 := ⟨u - 1, by omega⟩
        refine drw_mk fun w21 hb21 _ => ?_
        replace O19 : OV w21 B a n c d _ := Own.kept O19 hb21
        refine zn v (by omega) (by omega) ?_
        refine zn v (by omega) (by omega) ?_
        refine rdV O19 (j := v) rfl (by omega) ?_
        refine rdV O19 (j := v + 1) rfl (by omega) ?_
        refine setV O19 (i := v + 1) (j := v) (by omega) (by omega) rfl rfl fun w3 O3 g3 => ?_
        rw [rot_down (by omega)] at O3
        refine zn v (by omega) (by omega) ?_
        exact hag2 v _ w3 ⟨rfl, by omega, by omega, O3, (g19.trans (grown_of_bel hb21 _)).trans g3⟩ (by omega)
      · have : u = i := by omega
        rw [this] at O19
        exact ⟨(), rfl, _, (rot_RP q3 (by omega)).mono q1 (Nat.le_refl _), ins_srt K q1 q3 M.l (fun x z1 z2 => .inl (ge x z1 z2)) (by
          by_cases c : i = lo
          · exact .inl c
          · exact .inr ((Lt.early K (M.tags (i - 1) m (by omega) (by omega) (Nat.le_refl _) (by omega))).1 (lt (i - 1) (by omega) (by omega)))), O19, g19⟩
  -- the search for the cut
  have hm1 : lo ≤ (lo + hi) / 2 := by omega
  have hm2 : lo + hi ≤ 2 * ((lo + hi) / 2) + 1 := by omega
  have hm3 : 2 * ((lo + hi) / 2) ≤ lo + hi := by omega
  refine half_mk (lo + hi) (by omega) (by omega) ?_
  generalize (lo + hi) / 2 = mid at hm1 hm2 hm3
  refine zn (mid + m) (by omega) (by omega) ?_
  refine join_mk (fun s w' => w' = w ∧ ∃ L H : Nat, s = ((L : Int), (H : Int), ()) ∧ lo ≤ L ∧ L ≤ H ∧ H ≤ m ∧ H ≤ mid ∧ mid + m ≤ L + hi ∧ (L = lo ∨ L + hi = mid + m) ∧ (H = m ∨ H = mid)) (fun K69 hK69 => ?_) ?_
  · refine br_dec (fun e => ?_) (fun e => ?_)
    · refine zn (mid + m - hi) (by omega) (by omega) ?_
      exact hK69 _ _ ⟨rfl, mid + m - hi, mid, rfl, by omega, by omega, by omega, by omega, by omega, .inr (by omega), .inr rfl⟩
    · exact hK69 _ _ ⟨rfl, lo, m, rfl, by omega, by omega, by omega, by omega, by omega, .inl rfl, .inl rfl⟩
  rintro s w71 ⟨rfl, L, H, rfl, b1, b2, b3, b4, b5, b6, b7⟩ _
  have hb : ∀ x, L ≤ x → x < H → lo ≤ x ∧ x < m ∧ m ≤ mid + m - 1 - x ∧ mid + m - 1 - x < hi := fun x p1 p2 => by omega
  dsimp only
  refine zn (mid + m - 1) (by omega) (by omega) ?_
  refine loop_gh (G := Nat × Nat) (fun g s w' => s = ((g.1 : Int), (g.2 : Int), ()) ∧ Cut k f (mid + m - 1) L g.1 g.2 H ∧ OV w' B a n c d f ∧ w71.grownBy w' (blk a)) (fun g => g.2 - g.1) (L, H)
    ⟨rfl, ⟨Nat.le_refl _, b2, Nat.le_refl _, fun x q1 q2 => by dsimp only at q2; omega, fun x q1 q2 => by dsimp only at q1; omega⟩, O, grown_refl _ _⟩ ?_
  rintro ⟨s, r⟩ s' w75 ⟨rfl, C, O75, g75⟩ again hag _
  dsimp only at C ⊢
  have c1 := C.h1
  have c2 := C.h2
  have c3 := C.h3
  refine br_dec (fun e => ?_) (fun e => ?_)
  · have hc1 : s ≤ (s + r) / 2 := by omega
    have hc2 : (s + r) / 2 < r := by omega
    refine half_mk (s + r) (by omega) (by omega) ?_
    generalize (s + r) / 2 = h at hc1 hc2
    refine drw_mk fun w80 hb80 _ => ?_
    replace O75 : OV w80 B a n c d _ := Own.kept O75 hb80
    have g80 := g75.trans (grown_of_bel hb80 _)
    have bh := hb h (by omega) (by omega)
    refine zn (mid + m - 1 - h) (by omega) (by omega) ?_
    refine rdV O75 (j := mid + m - 1 - h) rfl (by omega) ?_
    refine rdV O75 (j := h) rfl (by omega) ?_
    refine call_mono (cm w80 g80 (f (mid + m - 1 - h)) (f h) (flt _ (by omega)) (flt h (by omega))) fun (x : Int) w87 ⟨hk, hb87⟩ => ?_
    replace O75 : OV w87 B a n c d _ := Own.kept O75 hb87
    have g87 := g80.trans (grown_of_bel hb87 _)
    refine br_not (fun e3 => ?_) (fun e3 => ?_)
    · have e3 : ¬ k (f (mid + m - 1 - h)) (f h) := fun q => by have := hk.2 q; simp at e3; omega
      refine zn (h + 1) (by omega) (by omega) ?_
      exact hag (h + 1, r) _ w87 ⟨rfl, C.step1 K M hb hc1 hc2 e3, O75, g87⟩ (by dsimp only; omega)
    · have e3 : k (f (mid + m - 1 - h)) (f h) := hk.1 (of_decide_eq_true e3)
      exact hag (s, h) _ w87 ⟨rfl, C.step2 K M hb hc1 hc2 e3, O75, g87⟩ (by dsimp only; omega)
  have : s = r := by omega
  subst this
  have F : Go.Srt.Found k f lo m hi s (mid + m - s) := C.found K M hb (n := mid + m) (by omega) rfl (by omega) (by omega) (by omega) (by omega) (fun q => by omega) (fun q => by omega)
  obtain ⟨M1, M2, cross, r1⟩ := sym_split M F
  have e0 : s + (mid + m - s - m) = mid := by omega
  rw [e0] at M1 M2 cross
  refine zn (mid + m - s) (by omega) (by omega) ?_
  generalize he : mid + m - s = e at M1 M2 cross r1 F
  have f1 := F.las; have f2 := F.sm; have f3 := F.me; have f4 := F.eb
  refine join_mk (fun _ w' => OV w' B a n c d (rot f s m e) ∧ w71.grownBy w' (blk a)) (fun K90 hK90 => ?_) (fun _ w92 ⟨O92, g92⟩ _ => ?_)
  · refine br_dec (fun u1 => ?_) (fun u1 => ?_)
    · refine br_dec (fun u2 => ?_) (fun u2 => ?_)
      · refine call_mono (rotC (lo := s) (m := m) (hi := e) (by omega) (by omega) (by omega) hn O75) fun _ w' ⟨O', g'⟩ => ?_
        exact hK90 () _ ⟨O', g75.trans g'⟩
      · exact hK90 () _ ⟨by rw [rot_id (.inr (by omega))]; exact O75, g75⟩
    · exact hK90 () _ ⟨by rw [rot_id (.inl (by omega))]; exact O75, g75⟩
  generalize rot f s m e = g at M1 M2 cross r1 O92
  have R1 : RP 0 n id g := R0.trans (r1.mono (Nat.zero_le _) h3)
  refine join_mk (fun _ w' => ∃ g1, RP lo mid g g1 ∧ Srtd k g1 lo mid ∧ OV w' B a n c d g1 ∧ w71.grownBy w' (blk a)) (fun K93 hK93 => ?_) ?_
  · refine br_dec (fun u1 => ?_) (fun u1 => ?_)
    · refine br_dec (fun u2 => ?_) (fun u2 => ?_)
      · refine call_mono (@IH (mid - lo) (by omega) w92 g lo s mid rfl (by omega) (by omega) (by omega) R1 M1 (cm.up g92) O92) fun _ w' ⟨g1, p1, p2, p3, p4⟩ => ?_
        exact hK93 () _ ⟨g1, p1, p2, p3, g92.trans p4⟩
      · exact hK93 () _ ⟨g, RP.refl _ _ _, srt_sub M1.l (Nat.le_refl _) (by omega), O92, g92⟩
    · exact hK93 () _ ⟨g, RP.refl _ _ _, srt_sub M1.r (by omega) (Nat.le_refl _), O92, g92⟩
  rintro _ w95 ⟨g1, p1, p2, p3, p4⟩ _
  have M2' : Mrg k g1 mid e hi := ⟨M2.am, M2.mb, srt_congr M2.l fun x q1 q2 => p1.off (by omega), srt_congr M2.r fun x q1 q2 => p1.off (by omega), fun x y q1 q2 q3 q4 => by
    rw [p1.off (show ¬ (lo ≤ x ∧ x < mid) by omega), p1.off (show ¬ (lo ≤ y ∧ y < mid) by omega)]; exact M2.tags x y q1 q2 q3 q4⟩
  have R2 : RP 0 n id g1 := R1.trans (p1.mono (Nat.zero_le _) (by omega))
  have fin : ∀ w' g2, RP mid hi g1 g2 → Srtd k g2 mid hi → OV w' B a n c d g2 → w71.grownBy w' (blk a) → ∃ x, (Value.tuple #[]) = RS.val (.many []) x ∧ ∃ g, RP lo hi f g ∧ Srtd k g lo hi ∧ OV w' B a n c d g ∧ w71.grownBy w' (blk a) := fun w' g2 z1 z2 z3 z4 => by
    obtain ⟨y1, y2⟩ := sym_join (by omega) (by omega) r1 p1 p2 z1 z2 cross
    exact ⟨(), rfl, g2, y1, y2, z3, z4⟩
  refine br_dec (fun u1 => ?_) (fun u1 => ?_)
  · refine br_dec (fun u2 => ?_) (fun u2 => ?_)
    · refine call_mono (@IH (hi - mid) (by omega) w95 g1 mid e hi rfl (by omega) (by omega) (by omega) R2 M2' (cm.up p4) p3) fun _ w' ⟨g2, z1, z2, z3, z4⟩ => ?_
      exact fin w' g2 z1 z2 z3 (p4.trans z4)
    · exact fin w95 g1 (RP.refl _ _ _) (srt_sub M2'.l (Nat.le_refl _) (by omega)) p3 p4
  · exact fin w95 g1 (RP.refl _ _ _) (srt_sub M2'.r (by omega) (Nat.le_refl _)) p3 p4
end
end Go.Proofs.Ytckgpiboelhefaa.Ap

/- slices.SortStableFunc, whole. -/

namespace Go.Proofs.Ytckgpiboelhefaa.Ap
open Go.RowKit Go.Q Go.V Go.Srt
section
variable {k : Nat → Nat → Prop} {w : World} {B : Nat} {a : Option Addr} {n c : Nat} {d : Nat → Int} {p0 p1 p2 : Addr}
theorem stC (K : SWO k) (hn : n < 1152921504606846976) (cm : Cm k n d a p0 p1 p2 w) (O : OV w B a n c d id) :
    call Try.prog 33 [.slice a n c, .int .i64 (n : Int), fnV p0 p1 p2] (.many []) w fun _ w' => ∃ g, RP 0 n id g ∧ Srtd k g 0 n ∧ OV w' B a n c d g ∧ w.grownBy w' (blk a) := by
  refine call_of (S33_calls a n c _ p0 p1 p2 w _ ?_)
  unfold S33
  refine loop_gh (G := Nat) (fun q s w' => s = (((q * 20 : Nat) : Int), ((q * 20 + 20 : Nat) : Int), ()) ∧ q * 20 ≤ n ∧ ∃ g, Firsts k n g q ∧ RP 0 n id g ∧ OV w' B a n c d g ∧ w.grownBy w' (blk a)) (fun q => n - q) 0
    ⟨rfl, by omega, id, ⟨fun i hi => by omega, fun x _ => rfl⟩, RP.refl _ _ _, O, grown_refl _ _⟩ ?_
  rintro q s w3 ⟨rfl, hq, g, F, R0, O3, g3⟩ again hag _
  dsimp only
  refine br_dec (fun e => ?_) (fun e => ?_)
  · refine call_mono (insC K (cm.up g3) R0 (lo := q * 20) (hi := q * 20 + 20) (by omega) (by omega) hn (fun x y p1 p2 p3 => by rw [F.todo x p1, F.todo y (by omega)]; exact p2) O3) fun _ w5 ⟨g', r1, s1, O5, g5⟩ => ?_
    refine zn ((q + 1) * 20 + 20) (by omega) (by omega) ?_
    refine hag (q + 1) _ w5 ⟨?_, by omega, g', F.step (by omega) (.inl rfl) (by omega) r1 s1, R0.trans (r1.mono (by omega) (by omega)), O5, g3.trans g5⟩ (by omega)
    have : (q + 1) * 20 = q * 20 + 20 := by omega
    rw [this]
  · refine call_mono (insC K (cm.up g3) R0 (lo := q * 20) (hi := n) (by omega) (by omega) hn (fun x y p1 p2 p3 => by rw [F.todo x p1, F.todo y (by omega)]; exact p2) O3) fun _ w8 ⟨g', r1, s1, O8, g8⟩ => ?_
    have F' := F.step (b := n) (by omega) (.inr rfl) (Nat.le_refl _) r1 s1
    have R8 := R0.trans (r1.mono (Nat.zero_le _) (Nat.le_refl _))
    replace g8 := g3.trans g8
    clear F R0 O3 g3 r1 s1 hag
    refine loop_gh (G := Nat) (fun D s w' => s = ((D : Int), ()) ∧ 0 < D ∧ ∃ g, (∀ i, Go.Srt.Good k n g (i * D) D) ∧ RP 0 n id g ∧ OV w' B a n c d g ∧ w.grownBy w' (blk a)) (fun D => n - D) 20
      ⟨rfl, by omega, g', F'.fin (by omega), R8, O8, g8⟩ ?_
    rintro D s w11 ⟨rfl, hD, g1, G1, R1, O1, g11⟩ again2 hag2 _
    dsimp only
    refine br_dec (fun e2 => ?_) (fun e2 => ?_)
    · refine zn (2 * D) (by omega) (by omega) ?_
      refine loop_gh (G := Nat) (fun q s w' => s = (((q * (2 * D) : Nat) : Int), ((q * (2 * D) + 2 * D : Nat) : Int), ()) ∧ q * (2 * D) ≤ n ∧ ∃ g, Half k n g D q ∧ RP 0 n id g ∧ OV w' B a n c d g ∧ w.grownBy w' (blk a)) (fun q => n - q * (2 * D)) 0
        ⟨by rw [Nat.zero_mul, Nat.zero_add]; rfl, by rw [Nat.zero_mul]; omega, g1, Half.start G1, R1, O1, g11⟩ ?_
      rintro q s w15 ⟨rfl, hq, g2, H, R2, O2, g15⟩ again3 hag3 _
      dsimp only
      have es := mul_suc q (2 * D)
      have ho : ∃ o, o = q * (2 * D) := ⟨_, rfl⟩
      obtain ⟨o, ho⟩ := ho
      have X1 := H.g1
      have X2 := H.g2
      rw [← ho] at hq X1 X2 es ⊢
      refine br_dec (fun e3 => ?_) (fun e3 => ?_)
      · refine zn (o + D) (by omega) (by omega) ?_
        refine call_mono (symC K hn (2 * D) (lo := o) (m := o + D) (hi := o + 2 * D) (by omega) (by omega) (by omega) (by omega) R2 (Go.Srt.Good.mrg X1 X2 (by omega) (by omega) (by omega)) (cm.up g15) O2) fun _ w18 ⟨g', r1, s1, O18, g18⟩ => ?_
        refine zn (2 * D) (by omega) (by omega) ?_
        refine zn ((q + 1) * (2 * D) + 2 * D) (by rw [es]; omega) (by rw [es]; omega) ?_
        refine hag3 (q + 1) _ w18 ⟨by rw [es], by rw [es]; omega, g', ?_, R2.trans (r1.mono (Nat.zero_le _) (by omega)), O18, g15.trans g18⟩ (by rw [es, ← ho]; omega)
        have gg := Go.Srt.Good.two X1 X2 (Nat.le_refl _) (.inl rfl) (by omega) r1 s1
        rw [ho] at r1 gg
        exact H.step (Nat.le_refl _) r1 gg
      · refine join_mk (fun _ w' => ∃ g, (∀ i, Go.Srt.Good k n g (i * (2 * D)) (2 * D)) ∧ RP 0 n id g ∧ OV w' B a n c d g ∧ w.grownBy w' (blk a)) (fun K21 hK21 => ?_) (fun _ w23 ⟨g', G', R', O', g23⟩ _ => ?_)
        · refine zn (o + D) (by omega) (by omega) ?_
          refine br_dec (fun e4 => ?_) (fun e4 => ?_)
          · refine call_mono (symC K hn (n - o) (lo := o) (m := o + D) (hi := n) rfl (by omega) (by omega) (Nat.le_refl _) R2 (Go.Srt.Good.mrg X1 X2 (by omega) (by omega) (Nat.le_refl _)) (cm.up g15) O2) fun _ w27 ⟨g', r1, s1, O27, g27⟩ => ?_
            have gg := Go.Srt.Good.two X1 X2 (b := n) (by omega) (.inr rfl) (Nat.le_refl _) r1 s1
            rw [ho] at r1 gg
            exact hK21 () _ ⟨g', (H.step (b := n) (by rw [← ho]; omega) r1 gg).fin (by rw [es]; omega), R2.trans (r1.mono (Nat.zero_le _) (Nat.le_refl _)), O27, g15.trans g27⟩
          · have gg := Go.Srt.Good.one X1 (by omega)
            have r0 : RP (q * (2 * D)) (q * (2 * D)) g2 g2 := RP.refl _ _ _
            rw [ho] at gg
            exact hK21 () _ ⟨g2, (H.step (by omega) r0 gg).fin (by rw [es]; omega), R2, O2, g15⟩
        · refine zn (2 * D) (by omega) (by omega) ?_
          exact hag2 (2 * D) _ w23 ⟨rfl, by omega, g', G', R', O', g23⟩ (by omega)
    · exact ⟨(), rfl, g1, R1, Go.Srt.Good.all G1 (by omega), O1, g11⟩
theorem sortC (K : SWO k) (hn : n < 1152921504606846976) (cm : Cm k n d a p0 p1 p2 w) (O : OV w B a n c d id) :
    call Try.prog 25 [.slice a n c, fnV p0 p1 p2] (.many []) w fun _ w' => ∃ g, RP 0 n id g ∧ Srtd k g 0 n ∧ OV w' B a n c d g ∧ w.grownBy w' (blk a) := by
  refine call_of (S25_calls a n c p0 p1 p2 w _ ?_)
  unfold S25
  refine call_mono (stC K hn cm O) fun _ w' ⟨g, h⟩ => ?_
  exact ⟨(), rfl, g, h⟩
end
end Go.Proofs.Ytckgpiboelhefaa.Ap

/- Apportioning: plain law. -/

namespace Go.Dist
open Go.Srt

def low (T S w : Int) : Int := T * w / S
def rm (T S w : Int) : Int := T * w % S
def kk (T : Int) (ws : List Int) (s t : Nat) : Prop := rm T ws.sum (ws.getD t 0) < rm T ws.sum (ws.getD s 0)
theorem kk_swo (T : Int) (ws : List Int) : SWO (kk T ws) := by
  refine ⟨fun a => ?_, fun a b c => ?_, fun a b c => ?_⟩ <;> unfold kk <;> omega
def inF (f : Nat → Nat) (j x : Nat) : Bool := (List.range j).any fun i => f i == x
theorem inF_zero (f : Nat → Nat) (x : Nat) : inF f 0 x = false := rfl
theorem inF_iff {f : Nat → Nat} {j x : Nat} : inF f j x = true ↔ ∃ i, i < j ∧ f i = x := by
  unfold inF; simp
theorem inF_suc (f : Nat → Nat) (j x : Nat) : inF f (j + 1) x = (inF f j x || f j == x) := by
  unfold inF; rw [List.range_succ, List.any_append]; simp
def mkI (n : Nat) (g : Nat → Int) : List Int := (List.range n).map g
theorem mkI_len (n : Nat) (g : Nat → Int) : (mkI n g).length = n := by simp [mkI]
theorem mkI_at {n : Nat} {g : Nat → Int} {x : Nat} (h : x < n) : (mkI n g)[x]? = some (g x) := by simp [mkI, h]
theorem mkI_congr {n : Nat} {g h : Nat → Int} (e : ∀ x, x < n → g x = h x) : mkI n g = mkI n h := by
  unfold mkI; exact List.map_congr_left fun x hx => e x (List.mem_range.1 hx)
theorem mkI_set {n : Nat} {g : Nat → Int} {x : Nat} {v : Int} : (mkI n g).set x v = mkI n fun y => if y = x then v else g y := by
  apply List.ext_getElem?
  intro y
  by_cases hy : y < n
  · rw [mkI_at hy]
    by_cases h : y = x
    · subst h
      rw [List.getElem?_set_self (by rw [mkI_len]; exact hy), if_pos rfl]
    · rw [List.getElem?_set_ne (fun e => h e.symm), mkI_at hy, if_neg h]
  · rw [List.getElem?_eq_none (by rw [List.length_set, mkI_len]; omega), List.getElem?_eq_none (by rw [mkI_len]; omega)]
theorem mkI_zero (n : Nat) : List.replicate n (0 : Int) = mkI n fun _ => 0 := by
  apply List.ext_getElem?
  intro y
  by_cases hy : y < n
  · rw [mkI_at hy]; simp [hy]
  · rw [List.getElem?_eq_none (by simp; omega), List.getElem?_eq_none (by rw [mkI_len]; omega)]
theorem mkI_eq {ws : List Int} {n : Nat} (h : ws.length = n) (g : Int → Int) : ws.map g = mkI n fun i => g (ws.getD i 0) := by
  apply List.ext_getElem?
  intro y
  by_cases hy : y < n
  · rw [mkI_at hy, List.getElem?_map, List.getD_eq_getElem?_getD, List.getElem?_eq_getElem (by omega)]; rfl
  · rw [List.getElem?_eq_none (by rw [List.length_map]; omega), List.getElem?_eq_none (by rw [mkI_len]; omega)]
def left (T : Int) (ws : List Int) (i : Nat) : Int := T - ((ws.take i).map (low T ws.sum)).sum
def outL (T : Int) (ws : List Int) (f : Nat → Nat) (j : Nat) : List Int := mkI ws.length fun i => low T ws.sum (ws.getD i 0) + if inF f j i then 1 else 0
def big (w : Int) : Bool := decide (w > 1000000)
def apErr (T : Int) (ws : List Int) : Option Int :=
  if ws.length > 1000 ∨ T > 1000000000 ∨ ws.any big = true then some 8
  else if ws.any (fun w => decide (w < 0)) = true then some 1
  else if T < 0 ∨ (ws.sum = 0 ∧ T > 0) then some 1 else none
/-- what is apportioned -/
structure Fine (T : Int) (ws : List Int) : Prop where
  n : ws.length ≤ 1000
  t0 : 0 ≤ T
  t : T ≤ 1000000000
  w : ∀ w ∈ ws, 0 ≤ w ∧ w ≤ 1000000
  z : ws.sum = 0 → T = 0
theorem fine_of {T : Int} {ws : List Int} (h : apErr T ws = none) : Fine T ws := by
  unfold apErr at h
  split at h
  · cases h
  · split at h
    · cases h
    · split at h
      · cases h
      · rename_i h1 h2 h3
        refine ⟨by omega, by omega, by omega, fun w hw => ?_, fun q => by omega⟩
        constructor
        · have : ¬ w < 0 := fun q => h2 (List.any_eq_true.2 ⟨w, hw, by simp; omega⟩)
          omega
        · have : ¬ w > 1000000 := fun q => h1 (.inr (.inr (List.any_eq_true.2 ⟨w, hw, by unfold big; simp; omega⟩)))
          omega
theorem sum_nn : ∀ {l : List Int}, (∀ w ∈ l, 0 ≤ w) → 0 ≤ l.sum
  | [], _ => by simp
  | a :: l, h => by
    have h1 := h a (by simp)
    have h2 := sum_nn (l := l) fun w hw => h w (by simp [hw])
    rw [List.sum_cons]; omega
theorem sum_le {c : Int} : ∀ {l : List Int}, (∀ w ∈ l, w ≤ c) → l.sum ≤ l.length * c
  | [], _ => by simp
  | a :: l, h => by
    have h1 := h a (by simp)
    have h2 := sum_le (l := l) fun w hw => h w (by simp [hw])
    rw [List.sum_cons, List.length_cons]
    have : ((l.length + 1 : Nat) : Int) * c = l.length * c + c := by rw [Int.natCast_add, Int.add_mul]; omega
    omega
theorem sum_take_suc {l : List Int} {i : Nat} {x : Int} (h : l[i]? = some x) : (l.take (i + 1)).sum = (l.take i).sum + x := by
  rw [List.take_add_one, h]; simp
theorem low_b {T S w : Int} (h0 : 0 ≤ T) (h1 : T ≤ 1000000000) (h2 : 0 ≤ w) (h3 : w ≤ 1000000) (hS : 0 ≤ S) : 0 ≤ T * w ∧ T * w ≤ 1000000000000000 ∧ 0 ≤ low T S w ∧ low T S w ≤ 1000000000000000 := by
  have q1 : 0 ≤ T * w := Int.mul_nonneg h0 h2
  have q2 : T * w ≤ 1000000000 * 1000000 := Int.mul_le_mul h1 h3 h2 (by omega)
  have q3 : 0 ≤ T * w / S := Int.ediv_nonneg q1 hS
  have q4 : T * w / S ≤ T * w := Int.ediv_le_self _ q1
  exact ⟨q1, by omega, q3, by unfold low; omega⟩
theorem Fine.s0 {T : Int} {ws : List Int} (F : Fine T ws) : 0 ≤ ws.sum := sum_nn fun w hw => (F.w w hw).1
theorem Fine.take {T : Int} {ws : List Int} (F : Fine T ws) (i : Nat) : 0 ≤ (ws.take i).sum ∧ (ws.take i).sum ≤ 1000000000 := by
  have h1 : 0 ≤ (ws.take i).sum := sum_nn fun w hw => (F.w w (List.mem_of_mem_take hw)).1
  have h2 : (ws.take i).sum ≤ (ws.take i).length * 1000000 := sum_le fun w hw => (F.w w (List.mem_of_mem_take hw)).2
  have h3 : (ws.take i).length ≤ ws.length := by rw [List.length_take]; omega
  have := F.n
  omega
theorem Fine.lows {T : Int} {ws : List Int} (F : Fine T ws) (i : Nat) : 0 ≤ ((ws.take i).map (low T ws.sum)).sum ∧ ((ws.take i).map (low T ws.sum)).sum ≤ 1000000000000000000 := by
  have hb : ∀ w ∈ (ws.take i).map (low T ws.sum), 0 ≤ w ∧ w ≤ 1000000000000000 := fun w hw => by
    obtain ⟨v, hv, rfl⟩ := List.mem_map.1 hw
    have := F.w v (List.mem_of_mem_take hv)
    exact (low_b F.t0 F.t this.1 this.2 F.s0).2.2
  have h1 := sum_nn fun w hw => (hb w hw).1
  have h2 := sum_le fun w hw => (hb w hw).2
  have h3 : ((ws.take i).map (low T ws.sum)).length ≤ ws.length := by rw [List.length_map, List.length_take]; omega
  have := F.n
  omega
theorem left_suc {T : Int} {ws : List Int} {i : Nat} {x : Int} (h : ws[i]? = some x) : left T ws (i + 1) = left T ws i - low T ws.sum x := by
  unfold left
  rw [List.take_add_one, h]
  simp; omega
theorem parts (T S : Int) : ∀ (l : List Int), T * l.sum = S * (l.map (low T S)).sum + (l.map (rm T S)).sum
  | [] => by simp
  | a :: l => by
    have ih := parts T S l
    have e : T * a = S * low T S a + rm T S a := (Int.mul_ediv_add_emod (T * a) S).symm
    simp only [List.sum_cons, List.map_cons, Int.mul_add]
    omega
/-- what is left over is less than one for each -/
theorem Fine.left {T : Int} {ws : List Int} (F : Fine T ws) : 0 ≤ left T ws ws.length ∧ left T ws ws.length ≤ ws.length := by
  have e := parts T ws.sum ws
  unfold Go.Dist.left
  rw [List.take_length]
  generalize hLe : (ws.map (low T ws.sum)).sum = L at e
  rcases Int.lt_or_eq_of_le F.s0 with hs | hs
  · have r1 : 0 ≤ (ws.map (rm T ws.sum)).sum := sum_nn fun w hw => by
      obtain ⟨v, _, rfl⟩ := List.mem_map.1 hw
      exact Int.emod_nonneg _ (by omega)
    have r2 : (ws.map (rm T ws.sum)).sum ≤ ws.length * ws.sum := by
      have := sum_le (l := ws.map (rm T ws.sum)) (c := ws.sum) fun w hw => by
        obtain ⟨v, _, rfl⟩ := List.mem_map.1 hw
        exact Int.le_of_lt (Int.emod_lt_of_pos _ hs)
      rwa [List.length_map] at this
    have e2 : (T - L) * ws.sum = (ws.map (rm T ws.sum)).sum := by rw [Int.sub_mul, e, Int.mul_comm L]; omega
    constructor
    · refine Int.not_lt.1 fun q => ?_
      have := Int.mul_lt_mul_of_pos_right q hs
      rw [e2, Int.zero_mul] at this; omega
    · refine Int.not_lt.1 fun q => ?_
      have := Int.mul_lt_mul_of_pos_right q hs
      rw [e2] at this; omega
  · have ht := F.z hs.symm
    have hL : L = 0 := by
      rw [← hLe, ← hs]
      have : ws.map (low T 0) = ws.map fun _ => (0 : Int) := List.map_congr_left fun w _ => by unfold low; simp
      rw [this]
      clear e F hs this hLe
      induction ws with
      | nil => rfl
      | cons a l ih => simpa using ih
    omega
/-- the sorted order is one to one -/
theorem srt_inj {k : Nat → Nat → Prop} (K : SWO k) {f : Nat → Nat} {n i j : Nat} (s : Srtd k f 0 n) (hi : i < n) (hj : j < n) (h : f i = f j) : i = j := by
  rcases Nat.lt_trichotomy i j with q | q | q
  · have := s i j (Nat.zero_le _) q hj
    rw [h] at this; exact absurd this (Lt.asym K this)
  · exact q
  · have := s j i (Nat.zero_le _) q hi
    rw [h] at this; exact absurd this (Lt.asym K this)
theorem not_in {k : Nat → Nat → Prop} (K : SWO k) {f : Nat → Nat} {n i : Nat} (s : Srtd k f 0 n) (hi : i < n) : inF f i (f i) = false := by
  cases h : inF f i (f i) with
  | false => rfl
  | true =>
    obtain ⟨j, h1, h2⟩ := inF_iff.1 h
    have := srt_inj K s (by omega) hi h2
    omega
/-- one more is given -/
theorem outL_suc {k : Nat → Nat → Prop} (K : SWO k) {T : Int} {ws : List Int} {f : Nat → Nat} {i : Nat} (R : RP 0 ws.length id f) (s : Srtd k f 0 ws.length) (hi : i < ws.length) :
    (outL T ws f i)[f i]? = some (low T ws.sum (ws.getD (f i) 0)) ∧ (outL T ws f i).set (f i) (low T ws.sum (ws.getD (f i) 0) + 1) = outL T ws f (i + 1) := by
  have hb := R.lt hi
  constructor
  · unfold outL
    rw [mkI_at hb, not_in K s hi]; simp
  · unfold outL
    rw [mkI_set]
    refine mkI_congr fun x _ => ?_
    rw [inF_suc]
    by_cases c : x = f i
    · subst c
      rw [if_pos rfl]; simp
    · rw [if_neg c]
      have : (f i == x) = false := by simpa using fun q : f i = x => c q.symm
      rw [this, Bool.or_false]
/-! ### the search of the specification -/
def rest (T : Int) (ws : List Int) (f : Nat → Nat) (j x : Nat) : Int := if inF f j x then -1 else rm T ws.sum (ws.getD x 0)
structure Best (r : Nat → Int) (i b : Nat) : Prop where
  lt : b < i
  top : ∀ x, x < i → r x ≤ r b
  fst : ∀ x, x < b → r x < r b
theorem Best.one (r : Nat → Int) : Best r 1 0 := ⟨by omega, fun x h => by have : x = 0 := by omega
                                                                          subst this; omega, fun x h => by omega⟩
theorem Best.yes {r : Nat → Int} {i b : Nat} (B : Best r i b) (h : r i > r b) : Best r (i + 1) i := by
  refine ⟨by omega, fun x hx => ?_, fun x hx => ?_⟩
  · by_cases c : x = i
    · rw [c]; omega
    · have := B.top x (by omega); omega
  · have := B.top x hx; omega
theorem Best.no {r : Nat → Int} {i b : Nat} (B : Best r i b) (h : ¬ r i > r b) : Best r (i + 1) b := by
  refine ⟨by have := B.lt; omega, fun x hx => ?_, B.fst⟩
  by_cases c : x = i
  · rw [c]; omega
  · exact B.top x (by omega)
theorem Best.is {T : Int} {ws : List Int} {f : Nat → Nat} {j b : Nat} (hS : 0 < ws.sum) (R : RP 0 ws.length id f) (s : Srtd (kk T ws) f 0 ws.length) (hj : j < ws.length) (B : Best (rest T ws f j) ws.length b) : b = f j := by
  have K := kk_swo T ws
  have hy := R.lt hj
  have ey : rest T ws f j (f j) = rm T ws.sum (ws.getD (f j) 0) := by unfold rest; rw [not_in K s hj]; rfl
  have nn : ∀ x, 0 ≤ rm T ws.sum (ws.getD x 0) := fun x => Int.emod_nonneg _ (by omega)
  have t1 := B.top (f j) hy
  rw [ey] at t1
  cases hb : inF f j b with
  | true =>
    have : rest T ws f j b = -1 := by unfold rest; rw [hb]; rfl
    have := nn (f j)
    omega
  | false =>
    have eb : rest T ws f j b = rm T ws.sum (ws.getD b 0) := by unfold rest; rw [hb]; rfl
    rw [eb] at t1
    obtain ⟨i, _, hi, he⟩ := R.on' b (Nat.zero_le _) B.lt
    have he : f i = b := he
    by_cases c : i = j
    · rw [← he, c]
    · have hji : j < i := by
        refine Nat.lt_of_not_le fun q => ?_
        have := inF_iff.2 ⟨i, (by omega : i < j), he⟩
        rw [hb] at this; cases this
      have q := s j i (Nat.zero_le _) hji hi
      rw [he] at q
      rcases q with q | ⟨q1, q2⟩
      · unfold kk at q; omega
      · unfold kk at q1
        have := B.fst (f j)
        rcases Nat.lt_trichotomy (f j) b with z | z | z
        · have := this z
          rw [ey, eb] at this; omega
        · exact z.symm
        · omega
theorem rest_suc {T : Int} {ws : List Int} {f : Nat → Nat} {j : Nat} : (mkI ws.length (rest T ws f j)).set (f j) (-1) = mkI ws.length (rest T ws f (j + 1)) := by
  rw [mkI_set]
  refine mkI_congr fun x _ => ?_
  unfold rest
  rw [inF_suc]
  by_cases c : x = f j
  · subst c
    rw [if_pos rfl]; simp
  · rw [if_neg c]
    have : (f j == x) = false := by simpa using fun q : f j = x => c q.symm
    rw [this, Bool.or_false]
end Go.Dist

/- The conditions of functions, printed by our tool; each is checked against the code by the kernel. -/



namespace Go.Proofs
open Go Go.V Go.RowKit
/-- querylab/distribution.Apportion -/
def S9 (total_ : Int) (weights_a : Option Addr) (weights_n : Nat) (weights_c : Nat) (w0 : World) (R : Value → World → Prop) : Prop :=
 wr Try.prog (Instr.box 3 (.int .i64 total_)) (.one .addr) w0 fun (x1 : Addr) (w2 : World) =>
 wr Try.prog (Instr.box 22 (.slice weights_a weights_n weights_c)) (.one .addr) w2 fun (x3 : Addr) (w4 : World) =>
 rd Try.prog (Instr.loadAt 22 (.pointer (some x3))) (.one .slice) w4 fun (x5 : (Option Addr × Nat × Nat)) =>
 br (decide (((x5.2.1 : Nat) : Int) > 1000)) (R (.tuple #[(.slice none 0 0), (.int .i64 8)]) w4)
 (rd Try.prog (Instr.loadAt 3 (.pointer (some x1))) (.one (.int .i64)) w4 fun (x6 : Int) =>
 br (decide (x6 > 1000000000)) (R (.tuple #[(.slice none 0 0), (.int .i64 8)]) w4)
 (rd Try.prog (Instr.loadAt 22 (.pointer (some x3))) (.one .slice) w4 fun (x7 : (Option Addr × Nat × Nat)) =>
 call Try.prog 23 [(.slice x7.1 x7.2.1 x7.2.2), (.func (.func 24) #[] #[])] (.one (.one .bool)) w4 fun (x8 : Bool) (w9 : World) =>
 br x8 (R (.tuple #[(.slice none 0 0), (.int .i64 8)]) w9)
 (wr Try.prog (Instr.alloc 3 true (.tuple #[])) (.one .addr) w9 fun (x10 : Addr) (w11 : World) =>
 wu Try.prog (Instr.storeAt 3 (.pointer (some x10)) (.int .i64 0)) w11 fun (w12 : World) =>
 rd Try.prog (Instr.loadAt 22 (.pointer (some x3))) (.one .slice) w12 fun (x13 : (Option Addr × Nat × Nat)) =>
 loop (T := (Int × Unit)) (0, ()) w12 fun (again14 : (Int × Unit) → World → Prop) (s15 : (Int × Unit)) w16 => ∀ _ : Nat → Value,
 br (decide (s15.1 < ((x13.2.1 : Nat) : Int))) (rdp Try.prog (Instr.indexAt 22 (.slice x13.1 x13.2.1 x13.2.2) (.int .i64 s15.1)) (.one .addr) fun (x17 : Addr) =>
 rd Try.prog (Instr.loadAt 3 (.pointer (some x17))) (.one (.int .i64)) w16 fun (x18 : Int) =>
 br (decide (x18 < 0)) (R (.tuple #[(.slice none 0 0), (.int .i64 1)]) w16)
 (rd Try.prog (Instr.loadAt 3 (.pointer (some x10))) (.one (.int .i64)) w16 fun (x19 : Int) =>
 z (IntKind.wrap .i64 (x19 + x18)) fun (z20 : Int) =>
 wu Try.prog (Instr.storeAt 3 (.pointer (some x10)) (.int .i64 z20)) w16 fun (w21 : World) =>
 z (IntKind.wrap .i64 (s15.1 + 1)) fun (z22 : Int) =>
 again14 (z22, ()) w21))
 (join (T := (Unit)) (fun (_s24 : (Unit)) w25 => ∀ _ : Nat → Value,
 rd Try.prog (Instr.loadAt 22 (.pointer (some x3))) (.one .slice) w25 fun (x26 : (Option Addr × Nat × Nat)) =>
 wr Try.prog (Instr.makeSlice 22 (.int .i64 ((x26.2.1 : Nat) : Int)) (.int .i64 ((x26.2.1 : Nat) : Int))) (.one .slice) w25 fun (x27 : (Option Addr × Nat × Nat)) (w28 : World) =>
 rd Try.prog (Instr.loadAt 3 (.pointer (some x10))) (.one (.int .i64)) w28 fun (x29 : Int) =>
 br (x29 == 0) (R (.tuple #[(.slice x27.1 x27.2.1 x27.2.2), (.int .i64 0)]) w28)
 (rd Try.prog (Instr.loadAt 3 (.pointer (some x1))) (.one (.int .i64)) w28 fun (x30 : Int) =>
 rd Try.prog (Instr.loadAt 22 (.pointer (some x3))) (.one .slice) w28 fun (x31 : (Option Addr × Nat × Nat)) =>
 wr Try.prog (Instr.makeSlice 22 (.int .i64 ((x31.2.1 : Nat) : Int)) (.int .i64 ((x31.2.1 : Nat) : Int))) (.one .slice) w28 fun (x32 : (Option Addr × Nat × Nat)) (w33 : World) =>
 rd Try.prog (Instr.loadAt 22 (.pointer (some x3))) (.one .slice) w33 fun (x34 : (Option Addr × Nat × Nat)) =>
 loop (T := (Int × Int × Unit)) (x30, 0, ()) w33 fun (again35 : (Int × Int × Unit) → World → Prop) (s36 : (Int × Int × Unit)) w37 => ∀ _ : Nat → Value,
 br (decide (s36.2.1 < ((x34.2.1 : Nat) : Int))) (rdp Try.prog (Instr.indexAt 22 (.slice x34.1 x34.2.1 x34.2.2) (.int .i64 s36.2.1)) (.one .addr) fun (x38 : Addr) =>
 rd Try.prog (Instr.loadAt 3 (.pointer (some x38))) (.one (.int .i64)) w37 fun (x39 : Int) =>
 rd Try.prog (Instr.loadAt 3 (.pointer (some x1))) (.one (.int .i64)) w37 fun (x40 : Int) =>
 z (IntKind.wrap .i64 (x40 * x39)) fun (z41 : Int) =>
 rd Try.prog (Instr.loadAt 3 (.pointer (some x10))) (.one (.int .i64)) w37 fun (x42 : Int) =>
 rdp Try.prog (cmpS .quo 3 (.tmp 72) (.tmp 73) (.int .i64 z41) (.int .i64 x42)) (.one (.int .i64)) fun (x43 : Int) =>
 rdp Try.prog (Instr.indexAt 22 (.slice x27.1 x27.2.1 x27.2.2) (.int .i64 s36.2.1)) (.one .addr) fun (x44 : Addr) =>
 wu Try.prog (Instr.storeAt 3 (.pointer (some x44)) (.int .i64 x43)) w37 fun (w45 : World) =>
 rdp Try.prog (Instr.indexAt 22 (.slice x32.1 x32.2.1 x32.2.2) (.int .i64 s36.2.1)) (.one .addr) fun (x46 : Addr) =>
 wu Try.prog (Instr.storeAt 3 (.pointer (some x46)) (.int .i64 s36.2.1)) w45 fun (w47 : World) =>
 rdp Try.prog (Instr.indexAt 22 (.slice x27.1 x27.2.1 x27.2.2) (.int .i64 s36.2.1)) (.one .addr) fun (x48 : Addr) =>
 rd Try.prog (Instr.loadAt 3 (.pointer (some x48))) (.one (.int .i64)) w47 fun (x49 : Int) =>
 z (IntKind.wrap .i64 (s36.1 - x49)) fun (z50 : Int) =>
 z (IntKind.wrap .i64 (s36.2.1 + 1)) fun (z51 : Int) =>
 again35 (z50, z51, ()) w47)
 (call Try.prog 25 [(.slice x32.1 x32.2.1 x32.2.2), (.func (.func 26) #[] #[(.pointer (some x1)), (.pointer (some x3)), (.pointer (some x10))])] (.many []) w37 fun (_x52 : (Unit)) (w53 : World) =>
 rdp Try.prog (Instr.sliceAt 22 (.slice x32.1 x32.2.1 x32.2.2) none (some (.int .i64 s36.1)) none) (.one .slice) fun (x54 : (Option Addr × Nat × Nat)) =>
 loop (T := (Int × Unit)) (0, ()) w53 fun (again55 : (Int × Unit) → World → Prop) (s56 : (Int × Unit)) w57 => ∀ _ : Nat → Value,
 br (decide (s56.1 < ((x54.2.1 : Nat) : Int))) (rdp Try.prog (Instr.indexAt 22 (.slice x54.1 x54.2.1 x54.2.2) (.int .i64 s56.1)) (.one .addr) fun (x58 : Addr) =>
 rd Try.prog (Instr.loadAt 3 (.pointer (some x58))) (.one (.int .i64)) w57 fun (x59 : Int) =>
 rdp Try.prog (Instr.indexAt 22 (.slice x27.1 x27.2.1 x27.2.2) (.int .i64 x59)) (.one .addr) fun (x60 : Addr) =>
 rd Try.prog (Instr.loadAt 3 (.pointer (some x60))) (.one (.int .i64)) w57 fun (x61 : Int) =>
 z (IntKind.wrap .i64 (x61 + 1)) fun (z62 : Int) =>
 rdp Try.prog (Instr.indexAt 22 (.slice x27.1 x27.2.1 x27.2.2) (.int .i64 x59)) (.one .addr) fun (x63 : Addr) =>
 wu Try.prog (Instr.storeAt 3 (.pointer (some x63)) (.int .i64 z62)) w57 fun (w64 : World) =>
 z (IntKind.wrap .i64 (s56.1 + 1)) fun (z65 : Int) =>
 again55 (z65, ()) w64)
 (R (.tuple #[(.slice x27.1 x27.2.1 x27.2.2), (.int .i64 0)]) w57))))
  fun (K23 : (Unit) → World → Prop) =>
 rd Try.prog (Instr.loadAt 3 (.pointer (some x1))) (.one (.int .i64)) w16 fun (x66 : Int) =>
 br (decide (x66 < 0)) (R (.tuple #[(.slice none 0 0), (.int .i64 1)]) w16)
 (rd Try.prog (Instr.loadAt 3 (.pointer (some x10))) (.one (.int .i64)) w16 fun (x67 : Int) =>
 br (x67 == 0) (rd Try.prog (Instr.loadAt 3 (.pointer (some x1))) (.one (.int .i64)) w16 fun (x68 : Int) =>
 br (decide (x68 > 0)) (R (.tuple #[(.slice none 0 0), (.int .i64 1)]) w16)
 (K23 (()) w16))
 (K23 (()) w16))))))
def H9 : Hints := ⟨[(2, 0, [(29, (.one (.int .i64)))]), (0, 48, []), (2, 2, [(10, (.one (.int .i64))), (61, (.one (.int .i64)))]), (2, 4, [(92, (.one (.int .i64)))])], [], [], []⟩
set_option maxRecDepth 100000 in
theorem S9_eq (total_ : Int) (weights_a : Option Addr) (weights_n : Nat) (weights_c : Nat) (w0 : World) (R : Value → World → Prop) : vcFn Try.prog H9 Try.f9 [(.int .i64 total_), (.slice weights_a weights_n weights_c)] w0 R = S9 total_ weights_a weights_n weights_c w0 R := by kernel_rfl
set_option maxRecDepth 100000 in
theorem S9_calls (total_ : Int) (weights_a : Option Addr) (weights_n : Nat) (weights_c : Nat) (w0 : World) (R : Value → World → Prop) (h : S9 total_ weights_a weights_n weights_c w0 R) : Calls Try.prog 9 #[(.int .i64 total_), (.slice weights_a weights_n weights_c)] w0 (ret R) := by
  rw [← S9_eq] at h; exact vcFn_sound follows_ Try.func9 h

/-- querylab/distribution.Apportion$1 -/
def S24 (w_ : Int) (w0 : World) (R : Value → World → Prop) : Prop :=
 R (.bool (decide (w_ > 1000000))) w0
def H24 : Hints := ⟨[], [], [], []⟩
set_option maxRecDepth 100000 in
theorem S24_eq (w_ : Int) (w0 : World) (R : Value → World → Prop) : vcFn Try.prog H24 Try.f24 [(.int .i64 w_)] w0 R = S24 w_ w0 R := by kernel_rfl
set_option maxRecDepth 100000 in
theorem S24_calls (w_ : Int) (w0 : World) (R : Value → World → Prop) (h : S24 w_ w0 R) : Calls Try.prog 24 #[(.int .i64 w_)] w0 (ret R) := by
  rw [← S24_eq] at h; exact vcFn_sound follows_ Try.func24 h

/-- querylab/distribution.Apportion$2 -/
def S26 (a_ : Int) (b_ : Int) (cap0 : Addr) (cap1 : Addr) (cap2 : Addr) (w0 : World) (R : Value → World → Prop) : Prop :=
 drw w0 fun w1 =>
 rd Try.prog (Instr.loadAt 3 (.pointer (some cap0))) (.one (.int .i64)) w1 fun (x2 : Int) =>
 rd Try.prog (Instr.loadAt 22 (.pointer (some cap1))) (.one .slice) w1 fun (x3 : (Option Addr × Nat × Nat)) =>
 rdp Try.prog (Instr.indexAt 22 (.slice x3.1 x3.2.1 x3.2.2) (.int .i64 b_)) (.one .addr) fun (x4 : Addr) =>
 rd Try.prog (Instr.loadAt 3 (.pointer (some x4))) (.one (.int .i64)) w1 fun (x5 : Int) =>
 z (IntKind.wrap .i64 (x2 * x5)) fun (z6 : Int) =>
 rd Try.prog (Instr.loadAt 3 (.pointer (some cap2))) (.one (.int .i64)) w1 fun (x7 : Int) =>
 rdp Try.prog (cmpS .rem 3 (.tmp 13) (.tmp 14) (.int .i64 z6) (.int .i64 x7)) (.one (.int .i64)) fun (x8 : Int) =>
 rd Try.prog (Instr.loadAt 3 (.pointer (some cap0))) (.one (.int .i64)) w1 fun (x9 : Int) =>
 rd Try.prog (Instr.loadAt 22 (.pointer (some cap1))) (.one .slice) w1 fun (x10 : (Option Addr × Nat × Nat)) =>
 rdp Try.prog (Instr.indexAt 22 (.slice x10.1 x10.2.1 x10.2.2) (.int .i64 a_)) (.one .addr) fun (x11 : Addr) =>
 rd Try.prog (Instr.loadAt 3 (.pointer (some x11))) (.one (.int .i64)) w1 fun (x12 : Int) =>
 z (IntKind.wrap .i64 (x9 * x12)) fun (z13 : Int) =>
 rd Try.prog (Instr.loadAt 3 (.pointer (some cap2))) (.one (.int .i64)) w1 fun (x14 : Int) =>
 rdp Try.prog (cmpS .rem 3 (.tmp 21) (.tmp 22) (.int .i64 z13) (.int .i64 x14)) (.one (.int .i64)) fun (x15 : Int) =>
 call Try.prog 27 [(.int .i64 x8), (.int .i64 x15)] (.one (.one (.int .i64))) w1 fun (x16 : Int) (w17 : World) =>
 R (.int .i64 x16) w17
def H26 : Hints := ⟨[], [(1, 16)], [], []⟩
set_option maxRecDepth 100000 in
theorem S26_eq (a_ : Int) (b_ : Int) (cap0 : Addr) (cap1 : Addr) (cap2 : Addr) (w0 : World) (R : Value → World → Prop) : vcFn Try.prog H26 Try.f26 [(.int .i64 a_), (.int .i64 b_), (.pointer (some cap0)), (.pointer (some cap1)), (.pointer (some cap2))] w0 R = S26 a_ b_ cap0 cap1 cap2 w0 R := by kernel_rfl
set_option maxRecDepth 100000 in
theorem S26_calls (a_ : Int) (b_ : Int) (cap0 : Addr) (cap1 : Addr) (cap2 : Addr) (w0 : World) (R : Value → World → Prop) (h : S26 a_ b_ cap0 cap1 cap2 w0 R) : Calls Try.prog 26 #[(.int .i64 a_), (.int .i64 b_), (.pointer (some cap0)), (.pointer (some cap1)), (.pointer (some cap2))] w0 (ret R) := by
  rw [← S26_eq] at h; exact vcFn_sound follows_ Try.func26 h

/-- querylab/querylabref20.Apportion -/
def S10 (total_ : Int) (weights_a : Option Addr) (weights_n : Nat) (weights_c : Nat) (w0 : World) (R : Value → World → Prop) : Prop :=
 br (decide (((weights_n : Nat) : Int) > 1000)) (R (.tuple #[(.slice none 0 0), (.int .i64 8)]) w0)
 (br (decide (total_ > 1000000000)) (R (.tuple #[(.slice none 0 0), (.int .i64 8)]) w0)
 (loop (T := (Int × Unit)) (0, ()) w0 fun (again1 : (Int × Unit) → World → Prop) (s2 : (Int × Unit)) w3 => ∀ _ : Nat → Value,
 br (decide (s2.1 < ((weights_n : Nat) : Int))) (rdp Try.prog (Instr.indexAt 22 (.slice weights_a weights_n weights_c) (.int .i64 s2.1)) (.one .addr) fun (x4 : Addr) =>
 rd Try.prog (Instr.loadAt 3 (.pointer (some x4))) (.one (.int .i64)) w3 fun (x5 : Int) =>
 br (decide (x5 > 1000000)) (R (.tuple #[(.slice none 0 0), (.int .i64 8)]) w3)
 (z (IntKind.wrap .i64 (s2.1 + 1)) fun (z6 : Int) =>
 again1 (z6, ()) w3))
 (loop (T := (Int × Int × Unit)) (0, 0, ()) w3 fun (again7 : (Int × Int × Unit) → World → Prop) (s8 : (Int × Int × Unit)) w9 => ∀ _ : Nat → Value,
 br (decide (s8.2.1 < ((weights_n : Nat) : Int))) (rdp Try.prog (Instr.indexAt 22 (.slice weights_a weights_n weights_c) (.int .i64 s8.2.1)) (.one .addr) fun (x10 : Addr) =>
 rd Try.prog (Instr.loadAt 3 (.pointer (some x10))) (.one (.int .i64)) w9 fun (x11 : Int) =>
 br (decide (x11 < 0)) (R (.tuple #[(.slice none 0 0), (.int .i64 1)]) w9)
 (rdp Try.prog (Instr.indexAt 22 (.slice weights_a weights_n weights_c) (.int .i64 s8.2.1)) (.one .addr) fun (x12 : Addr) =>
 rd Try.prog (Instr.loadAt 3 (.pointer (some x12))) (.one (.int .i64)) w9 fun (x13 : Int) =>
 z (IntKind.wrap .i64 (s8.1 + x13)) fun (z14 : Int) =>
 z (IntKind.wrap .i64 (s8.2.1 + 1)) fun (z15 : Int) =>
 again7 (z14, z15, ()) w9))
 (join (T := (Unit)) (fun (_s17 : (Unit)) w18 => ∀ _ : Nat → Value,
 wr Try.prog (Instr.makeSlice 22 (.int .i64 ((weights_n : Nat) : Int)) (.int .i64 ((weights_n : Nat) : Int))) (.one .slice) w18 fun (x19 : (Option Addr × Nat × Nat)) (w20 : World) =>
 br (s8.1 == 0) (R (.tuple #[(.slice x19.1 x19.2.1 x19.2.2), (.int .i64 0)]) w20)
 (wr Try.prog (Instr.makeSlice 22 (.int .i64 ((weights_n : Nat) : Int)) (.int .i64 ((weights_n : Nat) : Int))) (.one .slice) w20 fun (x21 : (Option Addr × Nat × Nat)) (w22 : World) =>
 loop (T := (Int × Int × Unit)) (total_, 0, ()) w22 fun (again23 : (Int × Int × Unit) → World → Prop) (s24 : (Int × Int × Unit)) w25 => ∀ _ : Nat → Value,
 br (decide (s24.2.1 < ((weights_n : Nat) : Int))) (drw w25 fun w26 =>
 rdp Try.prog (Instr.indexAt 22 (.slice weights_a weights_n weights_c) (.int .i64 s24.2.1)) (.one .addr) fun (x27 : Addr) =>
 rd Try.prog (Instr.loadAt 3 (.pointer (some x27))) (.one (.int .i64)) w26 fun (x28 : Int) =>
 z (IntKind.wrap .i64 (total_ * x28)) fun (z29 : Int) =>
 rdp Try.prog (cmpS .quo 3 (.tmp 85) (.tmp 86) (.int .i64 z29) (.int .i64 s8.1)) (.one (.int .i64)) fun (x30 : Int) =>
 rdp Try.prog (Instr.indexAt 22 (.slice weights_a weights_n weights_c) (.int .i64 s24.2.1)) (.one .addr) fun (x31 : Addr) =>
 rd Try.prog (Instr.loadAt 3 (.pointer (some x31))) (.one (.int .i64)) w26 fun (x32 : Int) =>
 z (IntKind.wrap .i64 (total_ * x32)) fun (z33 : Int) =>
 rdp Try.prog (cmpS .rem 3 (.tmp 93) (.tmp 94) (.int .i64 z33) (.int .i64 s8.1)) (.one (.int .i64)) fun (x34 : Int) =>
 rdp Try.prog (Instr.indexAt 22 (.slice x19.1 x19.2.1 x19.2.2) (.int .i64 s24.2.1)) (.one .addr) fun (x35 : Addr) =>
 wu Try.prog (Instr.storeAt 3 (.pointer (some x35)) (.int .i64 x30)) w26 fun (w36 : World) =>
 rdp Try.prog (Instr.indexAt 22 (.slice x21.1 x21.2.1 x21.2.2) (.int .i64 s24.2.1)) (.one .addr) fun (x37 : Addr) =>
 wu Try.prog (Instr.storeAt 3 (.pointer (some x37)) (.int .i64 x34)) w36 fun (w38 : World) =>
 rdp Try.prog (Instr.indexAt 22 (.slice x19.1 x19.2.1 x19.2.2) (.int .i64 s24.2.1)) (.one .addr) fun (x39 : Addr) =>
 rd Try.prog (Instr.loadAt 3 (.pointer (some x39))) (.one (.int .i64)) w38 fun (x40 : Int) =>
 z (IntKind.wrap .i64 (s24.1 - x40)) fun (z41 : Int) =>
 z (IntKind.wrap .i64 (s24.2.1 + 1)) fun (z42 : Int) =>
 again23 (z41, z42, ()) w38)
 (loop (T := (Int × Unit)) (s24.1, ()) w25 fun (again43 : (Int × Unit) → World → Prop) (s44 : (Int × Unit)) w45 => ∀ _ : Nat → Value,
 br (decide (s44.1 > 0)) (loop (T := (Int × Int × Unit)) (0, 1, ()) w45 fun (again46 : (Int × Int × Unit) → World → Prop) (s47 : (Int × Int × Unit)) w48 => ∀ _ : Nat → Value,
 br (decide (s47.2.1 < ((x21.2.1 : Nat) : Int))) (join (T := (Int × Unit)) (fun (s50 : (Int × Unit)) w51 => ∀ _ : Nat → Value,
 z (IntKind.wrap .i64 (s47.2.1 + 1)) fun (z52 : Int) =>
 again46 (s50.1, z52, ()) w51)
  fun (K49 : (Int × Unit) → World → Prop) =>
 drw w48 fun w53 =>
 rdp Try.prog (Instr.indexAt 22 (.slice x21.1 x21.2.1 x21.2.2) (.int .i64 s47.2.1)) (.one .addr) fun (x54 : Addr) =>
 rd Try.prog (Instr.loadAt 3 (.pointer (some x54))) (.one (.int .i64)) w53 fun (x55 : Int) =>
 rdp Try.prog (Instr.indexAt 22 (.slice x21.1 x21.2.1 x21.2.2) (.int .i64 s47.1)) (.one .addr) fun (x56 : Addr) =>
 rd Try.prog (Instr.loadAt 3 (.pointer (some x56))) (.one (.int .i64)) w53 fun (x57 : Int) =>
 br (decide (x55 > x57)) (K49 (s47.2.1, ()) w53)
 (K49 (s47.1, ()) w53))
 (rdp Try.prog (Instr.indexAt 22 (.slice x19.1 x19.2.1 x19.2.2) (.int .i64 s47.1)) (.one .addr) fun (x58 : Addr) =>
 rd Try.prog (Instr.loadAt 3 (.pointer (some x58))) (.one (.int .i64)) w48 fun (x59 : Int) =>
 z (IntKind.wrap .i64 (x59 + 1)) fun (z60 : Int) =>
 rdp Try.prog (Instr.indexAt 22 (.slice x19.1 x19.2.1 x19.2.2) (.int .i64 s47.1)) (.one .addr) fun (x61 : Addr) =>
 wu Try.prog (Instr.storeAt 3 (.pointer (some x61)) (.int .i64 z60)) w48 fun (w62 : World) =>
 rdp Try.prog (Instr.indexAt 22 (.slice x21.1 x21.2.1 x21.2.2) (.int .i64 s47.1)) (.one .addr) fun (x63 : Addr) =>
 wu Try.prog (Instr.storeAt 3 (.pointer (some x63)) (.int .i64 (-1))) w62 fun (w64 : World) =>
 z (IntKind.wrap .i64 (s44.1 - 1)) fun (z65 : Int) =>
 again43 (z65, ()) w64))
 (R (.tuple #[(.slice x19.1 x19.2.1 x19.2.2), (.int .i64 0)]) w45))))
  fun (K16 : (Unit) → World → Prop) =>
 br (decide (total_ < 0)) (R (.tuple #[(.slice none 0 0), (.int .i64 1)]) w9)
 (br (s8.1 == 0) (br (total_ != 0) (R (.tuple #[(.slice none 0 0), (.int .i64 1)]) w9)
 (K16 (()) w9))
 (K16 (()) w9))))))
def H10 : Hints := ⟨[(2, 0, [(7, (.one (.int .i64)))]), (2, 2, [(6, (.one (.int .i64))), (8, (.one (.int .i64)))]), (0, 59, []), (2, 4, [(10, (.one (.int .i64))), (12, (.one (.int .i64)))]), (2, 6, [(10, (.one (.int .i64)))]), (2, 8, [(13, (.one (.int .i64))), (14, (.one (.int .i64)))]), (1, 9, [(13, (.one (.int .i64)))])], [(25, 20), (32, 8)], [], []⟩
set_option maxRecDepth 100000 in
theorem S10_eq (total_ : Int) (weights_a : Option Addr) (weights_n : Nat) (weights_c : Nat) (w0 : World) (R : Value → World → Prop) : vcFn Try.prog H10 Try.f10 [(.int .i64 total_), (.slice weights_a weights_n weights_c)] w0 R = S10 total_ weights_a weights_n weights_c w0 R := by kernel_rfl
set_option maxRecDepth 100000 in
theorem S10_calls (total_ : Int) (weights_a : Option Addr) (weights_n : Nat) (weights_c : Nat) (w0 : World) (R : Value → World → Prop) (h : S10 total_ weights_a weights_n weights_c w0 R) : Calls Try.prog 10 #[(.int .i64 total_), (.slice weights_a weights_n weights_c)] w0 (ret R) := by
  rw [← S10_eq] at h; exact vcFn_sound follows_ Try.func10 h

/-- querylab/querylabref16.Same -/
def S11 (a_a : Option Addr) (a_n : Nat) (a_c : Nat) (b_a : Option Addr) (b_n : Nat) (b_c : Nat) (w0 : World) (R : Value → World → Prop) : Prop :=
 br (((a_n : Nat) : Int) != ((b_n : Nat) : Int)) (R (.bool false) w0)
 (loop (T := (Int × Unit)) (0, ()) w0 fun (again1 : (Int × Unit) → World → Prop) (s2 : (Int × Unit)) w3 => ∀ _ : Nat → Value,
 br (decide (s2.1 < ((a_n : Nat) : Int))) (drw w3 fun w4 =>
 rdp Try.prog (Instr.indexAt 22 (.slice a_a a_n a_c) (.int .i64 s2.1)) (.one .addr) fun (x5 : Addr) =>
 rd Try.prog (Instr.loadAt 3 (.pointer (some x5))) (.one (.int .i64)) w4 fun (x6 : Int) =>
 rdp Try.prog (Instr.indexAt 22 (.slice b_a b_n b_c) (.int .i64 s2.1)) (.one .addr) fun (x7 : Addr) =>
 rd Try.prog (Instr.loadAt 3 (.pointer (some x7))) (.one (.int .i64)) w4 fun (x8 : Int) =>
 br (x6 != x8) (R (.bool false) w4)
 (z (IntKind.wrap .i64 (s2.1 + 1)) fun (z9 : Int) =>
 again1 (z9, ()) w4))
 (R (.bool true) w3))
def H11 : Hints := ⟨[(2, 0, [(5, (.one (.int .i64)))])], [(6, 8)], [], []⟩
set_option maxRecDepth 100000 in
theorem S11_eq (a_a : Option Addr) (a_n : Nat) (a_c : Nat) (b_a : Option Addr) (b_n : Nat) (b_c : Nat) (w0 : World) (R : Value → World → Prop) : vcFn Try.prog H11 Try.f11 [(.slice a_a a_n a_c), (.slice b_a b_n b_c)] w0 R = S11 a_a a_n a_c b_a b_n b_c w0 R := by kernel_rfl
set_option maxRecDepth 100000 in
theorem S11_calls (a_a : Option Addr) (a_n : Nat) (a_c : Nat) (b_a : Option Addr) (b_n : Nat) (b_c : Nat) (w0 : World) (R : Value → World → Prop) (h : S11 a_a a_n a_c b_a b_n b_c w0 R) : Calls Try.prog 11 #[(.slice a_a a_n a_c), (.slice b_a b_n b_c)] w0 (ret R) := by
  rw [← S11_eq] at h; exact vcFn_sound follows_ Try.func11 h

/-- slices.ContainsFunc[[]int,int] -/
def S23 (s_a : Option Addr) (s_n : Nat) (s_c : Nat) (w0 : World) (R : Value → World → Prop) : Prop :=
 call Try.prog 32 [(.slice s_a s_n s_c), (.func (.func 24) #[] #[])] (.one (.one (.int .i64))) w0 fun (x1 : Int) (w2 : World) =>
 R (.bool (decide (x1 ≥ 0))) w2
def H23 : Hints := ⟨[], [], [], []⟩
set_option maxRecDepth 100000 in
theorem S23_eq (s_a : Option Addr) (s_n : Nat) (s_c : Nat) (w0 : World) (R : Value → World → Prop) : vcFn Try.prog H23 Try.f23 [(.slice s_a s_n s_c), (.func (.func 24) #[] #[])] w0 R = S23 s_a s_n s_c w0 R := by kernel_rfl
set_option maxRecDepth 100000 in
theorem S23_calls (s_a : Option Addr) (s_n : Nat) (s_c : Nat) (w0 : World) (R : Value → World → Prop) (h : S23 s_a s_n s_c w0 R) : Calls Try.prog 23 #[(.slice s_a s_n s_c), (.func (.func 24) #[] #[])] w0 (ret R) := by
  rw [← S23_eq] at h; exact vcFn_sound follows_ Try.func23 h

/-- slices.IndexFunc[[]int,int] -/
def S32 (s_a : Option Addr) (s_n : Nat) (s_c : Nat) (w0 : World) (R : Value → World → Prop) : Prop :=
 loop (T := (Int × Unit)) (0, ()) w0 fun (again1 : (Int × Unit) → World → Prop) (s2 : (Int × Unit)) w3 => ∀ _ : Nat → Value,
 br (decide (s2.1 < ((s_n : Nat) : Int))) (rdp Try.prog (Instr.indexAt 22 (.slice s_a s_n s_c) (.int .i64 s2.1)) (.one .addr) fun (x4 : Addr) =>
 rd Try.prog (Instr.loadAt 3 (.pointer (some x4))) (.one (.int .i64)) w3 fun (x5 : Int) =>
 call Try.prog 24 [(.int .i64 x5)] (.one (.one .bool)) w3 fun (x6 : Bool) (w7 : World) =>
 br x6 (R (.int .i64 s2.1) w7)
 (z (IntKind.wrap .i64 (s2.1 + 1)) fun (z8 : Int) =>
 again1 (z8, ()) w7))
 (R (.int .i64 (-1)) w3)
def H32 : Hints := ⟨[(2, 0, [(8, (.one (.int .i64)))])], [], [], []⟩
set_option maxRecDepth 100000 in
theorem S32_eq (s_a : Option Addr) (s_n : Nat) (s_c : Nat) (w0 : World) (R : Value → World → Prop) : vcFn Try.prog H32 Try.f32 [(.slice s_a s_n s_c), (.func (.func 24) #[] #[])] w0 R = S32 s_a s_n s_c w0 R := by kernel_rfl
set_option maxRecDepth 100000 in
theorem S32_calls (s_a : Option Addr) (s_n : Nat) (s_c : Nat) (w0 : World) (R : Value → World → Prop) (h : S32 s_a s_n s_c w0 R) : Calls Try.prog 32 #[(.slice s_a s_n s_c), (.func (.func 24) #[] #[])] w0 (ret R) := by
  rw [← S32_eq] at h; exact vcFn_sound follows_ Try.func32 h

/-- cmp.Compare[int] -/
def S27 (x_ : Int) (y_ : Int) (w0 : World) (R : Value → World → Prop) : Prop :=
 call Try.prog 34 [(.int .i64 x_)] (.one (.one .bool)) w0 fun (x1 : Bool) (w2 : World) =>
 call Try.prog 34 [(.int .i64 y_)] (.one (.one .bool)) w2 fun (x3 : Bool) (w4 : World) =>
 br x1 (br x3 (R (.int .i64 0) w4)
 (R (.int .i64 (-1)) w4))
 (br x3 (R (.int .i64 1) w4)
 (br (decide (x_ < y_)) (R (.int .i64 (-1)) w4)
 (br (decide (x_ > y_)) (R (.int .i64 1) w4)
 (R (.int .i64 0) w4))))
def H27 : Hints := ⟨[], [], [], []⟩
set_option maxRecDepth 100000 in
theorem S27_eq (x_ : Int) (y_ : Int) (w0 : World) (R : Value → World → Prop) : vcFn Try.prog H27 Try.f27 [(.int .i64 x_), (.int .i64 y_)] w0 R = S27 x_ y_ w0 R := by kernel_rfl
set_option maxRecDepth 100000 in
theorem S27_calls (x_ : Int) (y_ : Int) (w0 : World) (R : Value → World → Prop) (h : S27 x_ y_ w0 R) : Calls Try.prog 27 #[(.int .i64 x_), (.int .i64 y_)] w0 (ret R) := by
  rw [← S27_eq] at h; exact vcFn_sound follows_ Try.func27 h

/-- cmp.isNaN[int] -/
def S34 (x_ : Int) (w0 : World) (R : Value → World → Prop) : Prop :=
 R (.bool (x_ != x_)) w0
def H34 : Hints := ⟨[], [], [], []⟩
set_option maxRecDepth 100000 in
theorem S34_eq (x_ : Int) (w0 : World) (R : Value → World → Prop) : vcFn Try.prog H34 Try.f34 [(.int .i64 x_)] w0 R = S34 x_ w0 R := by kernel_rfl
set_option maxRecDepth 100000 in
theorem S34_calls (x_ : Int) (w0 : World) (R : Value → World → Prop) (h : S34 x_ w0 R) : Calls Try.prog 34 #[(.int .i64 x_)] w0 (ret R) := by
  rw [← S34_eq] at h; exact vcFn_sound follows_ Try.func34 h

/-- querylab/querylablaw20.DistributionApportions -/
def S3 (total_ : Int) (weights_a : Option Addr) (weights_n : Nat) (weights_c : Nat) (w0 : World) (R : Value → World → Prop) : Prop :=
 br (decide (((weights_n : Nat) : Int) > 200)) (R (.bool true) w0)
 (call Try.prog 9 [(.int .i64 total_), (.slice weights_a weights_n weights_c)] (.many [(.one .slice), (.one (.int .i64))]) w0 fun (x1 : ((Option Addr × Nat × Nat) × Int × Unit)) (w2 : World) =>
 call Try.prog 10 [(.int .i64 total_), (.slice weights_a weights_n weights_c)] (.many [(.one .slice), (.one (.int .i64))]) w2 fun (x3 : ((Option Addr × Nat × Nat) × Int × Unit)) (w4 : World) =>
 call Try.prog 11 [(.slice x1.1.1 x1.1.2.1 x1.1.2.2), (.slice x3.1.1 x3.1.2.1 x3.1.2.2)] (.one (.one .bool)) w4 fun (x5 : Bool) (w6 : World) =>
 br x5 (R (.bool (x1.2.1 == x3.2.1)) w6)
 (R (.bool false) w6))
def H3 : Hints := ⟨[], [], [], []⟩
set_option maxRecDepth 100000 in
theorem S3_eq (total_ : Int) (weights_a : Option Addr) (weights_n : Nat) (weights_c : Nat) (w0 : World) (R : Value → World → Prop) : vcFn Try.prog H3 Try.f3 [(.int .i64 total_), (.slice weights_a weights_n weights_c)] w0 R = S3 total_ weights_a weights_n weights_c w0 R := by kernel_rfl
set_option maxRecDepth 100000 in
theorem S3_calls (total_ : Int) (weights_a : Option Addr) (weights_n : Nat) (weights_c : Nat) (w0 : World) (R : Value → World → Prop) (h : S3 total_ weights_a weights_n weights_c w0 R) : Calls Try.prog 3 #[(.int .i64 total_), (.slice weights_a weights_n weights_c)] w0 (ret R) := by
  rw [← S3_eq] at h; exact vcFn_sound follows_ Try.func3 h

/-- querylab/querylablaw20.DistributionQuotas -/
def S4 (total_ : Int) (l_a : Option Addr) (l_n : Nat) (l_c : Nat) (w0 : World) (R : Value → World → Prop) : Prop :=
 br (decide (((l_n : Nat) : Int) > 60)) (R (.bool true) w0)
 (z (IntKind.wrap .i64 total_) fun (z1 : Int) =>
 rdp Try.prog (cmpS .rem 3 (.tmp 18) (.const (.int .i64 1000000001)) (.int .i64 z1) (.int .i64 1000000001)) (.one (.int .i64)) fun (x2 : Int) =>
 loop (T := (Int × (Option Addr × Nat × Nat) × Int × Unit)) (0, (none, 0, 0), 0, ()) w0 fun (again3 : (Int × (Option Addr × Nat × Nat) × Int × Unit) → World → Prop) (s4 : (Int × (Option Addr × Nat × Nat) × Int × Unit)) w5 => ∀ _ : Nat → Value,
 br (decide (s4.2.2.1 < ((l_n : Nat) : Int))) (rdp Try.prog (Instr.indexAt 29 (.slice l_a l_n l_c) (.int .i64 s4.2.2.1)) (.one .addr) fun (x6 : Addr) =>
 rd Try.prog (Instr.loadAt 30 (.pointer (some x6))) (.one (.int .u16)) w5 fun (x7 : Int) =>
 z (IntKind.wrap .i64 x7) fun (z8 : Int) =>
 wr Try.prog (Instr.buildSlice 22 1 #[(0, (.int .i64 z8))]) (.one .slice) w5 fun (x9 : (Option Addr × Nat × Nat)) (w10 : World) =>
 wr Try.prog (Builtin.append_ #[22, 22] 22 #[(.slice s4.2.1.1 s4.2.1.2.1 s4.2.1.2.2), (.slice x9.1 x9.2.1 x9.2.2)]) (.one .slice) w10 fun (x11 : (Option Addr × Nat × Nat)) (w12 : World) =>
 rdp Try.prog (Instr.indexAt 29 (.slice l_a l_n l_c) (.int .i64 s4.2.2.1)) (.one .addr) fun (x13 : Addr) =>
 rd Try.prog (Instr.loadAt 30 (.pointer (some x13))) (.one (.int .u16)) w12 fun (x14 : Int) =>
 z (IntKind.wrap .i64 x14) fun (z15 : Int) =>
 z (IntKind.wrap .i64 (s4.1 + z15)) fun (z16 : Int) =>
 z (IntKind.wrap .i64 (s4.2.2.1 + 1)) fun (z17 : Int) =>
 again3 (z16, (x11.1, x11.2.1, x11.2.2), z17, ()) w12)
 (call Try.prog 9 [(.int .i64 x2), (.slice s4.2.1.1 s4.2.1.2.1 s4.2.1.2.2)] (.many [(.one .slice), (.one (.int .i64))]) w5 fun (x18 : ((Option Addr × Nat × Nat) × Int × Unit)) (w19 : World) =>
 br (s4.1 == 0) (R (.bool ((x18.2.1 == 0) == (x2 == 0))) w19)
 (loop (T := (Int × Int × Unit)) (0, 0, ()) w19 fun (again20 : (Int × Int × Unit) → World → Prop) (s21 : (Int × Int × Unit)) w22 => ∀ _ : Nat → Value,
 br (decide (s21.2.1 < ((x18.1.2.1 : Nat) : Int))) (join (T := (Int × Unit)) (fun (s24 : (Int × Unit)) w25 => ∀ _ : Nat → Value,
 z (IntKind.wrap .i64 (s21.2.1 + 1)) fun (z26 : Int) =>
 again20 (s24.1, z26, ()) w25)
  fun (K23 : (Int × Unit) → World → Prop) =>
 rdp Try.prog (Instr.indexAt 22 (.slice x18.1.1 x18.1.2.1 x18.1.2.2) (.int .i64 s21.2.1)) (.one .addr) fun (x27 : Addr) =>
 rd Try.prog (Instr.loadAt 3 (.pointer (some x27))) (.one (.int .i64)) w22 fun (x28 : Int) =>
 z (IntKind.wrap .i64 (s21.1 + x28)) fun (z29 : Int) =>
 rdp Try.prog (Instr.indexAt 22 (.slice s4.2.1.1 s4.2.1.2.1 s4.2.1.2.2) (.int .i64 s21.2.1)) (.one .addr) fun (x30 : Addr) =>
 rd Try.prog (Instr.loadAt 3 (.pointer (some x30))) (.one (.int .i64)) w22 fun (x31 : Int) =>
 z (IntKind.wrap .i64 (x2 * x31)) fun (z32 : Int) =>
 rdp Try.prog (cmpS .quo 3 (.tmp 71) (.tmp 72) (.int .i64 z32) (.int .i64 s4.1)) (.one (.int .i64)) fun (x33 : Int) =>
 rdp Try.prog (Instr.indexAt 22 (.slice x18.1.1 x18.1.2.1 x18.1.2.2) (.int .i64 s21.2.1)) (.one .addr) fun (x34 : Addr) =>
 rd Try.prog (Instr.loadAt 3 (.pointer (some x34))) (.one (.int .i64)) w22 fun (x35 : Int) =>
 br (x35 != x33) (rdp Try.prog (Instr.indexAt 22 (.slice x18.1.1 x18.1.2.1 x18.1.2.2) (.int .i64 s21.2.1)) (.one .addr) fun (x36 : Addr) =>
 rd Try.prog (Instr.loadAt 3 (.pointer (some x36))) (.one (.int .i64)) w22 fun (x37 : Int) =>
 z (IntKind.wrap .i64 (x33 + 1)) fun (z38 : Int) =>
 br (x37 != z38) (R (.bool false) w22)
 (rdp Try.prog (Instr.indexAt 22 (.slice s4.2.1.1 s4.2.1.2.1 s4.2.1.2.2) (.int .i64 s21.2.1)) (.one .addr) fun (x39 : Addr) =>
 rd Try.prog (Instr.loadAt 3 (.pointer (some x39))) (.one (.int .i64)) w22 fun (x40 : Int) =>
 z (IntKind.wrap .i64 (x2 * x40)) fun (z41 : Int) =>
 rdp Try.prog (cmpS .rem 3 (.tmp 94) (.tmp 95) (.int .i64 z41) (.int .i64 s4.1)) (.one (.int .i64)) fun (x42 : Int) =>
 br (x42 == 0) (R (.bool false) w22)
 (K23 (z29, ()) w22)))
 (K23 (z29, ()) w22))
 (br (x18.2.1 == 0) (br (s21.1 == x2) (R (.bool (((x18.1.2.1 : Nat) : Int) == ((s4.2.1.2.1 : Nat) : Int))) w22)
 (R (.bool false) w22))
 (R (.bool false) w22)))))
def H4 : Hints := ⟨[(2, 0, [(6, (.one (.int .i64))), (7, (.one .slice)), (8, (.one (.int .i64)))]), (2, 2, [(11, (.one (.int .i64))), (12, (.one (.int .i64)))]), (1, 3, [(11, (.one (.int .i64)))])], [], [], []⟩
set_option maxRecDepth 100000 in
theorem S4_eq (total_ : Int) (l_a : Option Addr) (l_n : Nat) (l_c : Nat) (w0 : World) (R : Value → World → Prop) : vcFn Try.prog H4 Try.f4 [(.int .u32 total_), (.slice l_a l_n l_c)] w0 R = S4 total_ l_a l_n l_c w0 R := by kernel_rfl
set_option maxRecDepth 100000 in
theorem S4_calls (total_ : Int) (l_a : Option Addr) (l_n : Nat) (l_c : Nat) (w0 : World) (R : Value → World → Prop) (h : S4 total_ l_a l_n l_c w0 R) : Calls Try.prog 4 #[(.int .u32 total_), (.slice l_a l_n l_c)] w0 (ret R) := by
  rw [← S4_eq] at h; exact vcFn_sound follows_ Try.func4 h

end Go.Proofs

/- distribution.Apportion: its parts. -/



namespace Go.Proofs.Ytckgpiboelhefaa
open Go.RowKit Go.Q Go.V Go.Dist Go.Srt

abbrev I64 (n : Int) : Prop := -9223372036854775808 ≤ n ∧ n ≤ 9223372036854775807
abbrev tyI : TyS Try.prog 22 3 (.int .i64 0) 1 8 := Ap.tyE
abbrev SlI (w : World) (h : Hdr) (xs : List Int) : Prop := Sl w h.1 h.2.1 h.2.2 1 (ints .i64 xs)
abbrev OwnI (w : World) (B : Nat) (a : Addr) (n : Nat) (xs : List Int) : Prop := Own w B 3 1 (some a) n n (ints .i64 xs)
theorem nanI (n : Int) (w : World) : call Try.prog 34 [.int .i64 n] (.one (.one .bool)) w (fun x w' => x = false ∧ w' = w) := by
  refine call_of (S34_calls n w _ ?_)
  unfold S34
  exact ⟨false, by simp [RS.val, VS.val, Sh.val], rfl, rfl⟩
theorem cmpI (x y : Int) (w : World) : call Try.prog 27 [.int .i64 x, .int .i64 y] (.one (.one (.int .i64))) w (fun (r : Int) w' => (r < 0 ↔ x < y) ∧ w' = w) := by
  refine call_of (S27_calls x y w _ ?_)
  unfold S27
  refine call_mono (nanI x w) fun _ w2 ⟨e1, e2⟩ => ?_
  subst e1 e2
  refine call_mono (nanI y w2) fun _ w3 ⟨e1, e2⟩ => ?_
  subst e1 e2
  refine br_f rfl (br_f rfl ?_)
  refine br_dec (fun e => ?_) (fun e => ?_)
  · exact ⟨_, rfl, ⟨fun _ => e, fun _ => by omega⟩, rfl⟩
  · refine br_dec (fun e2 => ?_) (fun e2 => ?_)
    · exact ⟨_, rfl, ⟨fun q => by omega, fun q => by omega⟩, rfl⟩
    · exact ⟨_, rfl, ⟨fun q => by omega, fun q => by omega⟩, rfl⟩
theorem bigF (n : Int) (w : World) : call Try.prog 24 [.int .i64 n] (.one (.one .bool)) w (fun x w' => x = big n ∧ bel w w') := by
  refine call_of (S24_calls n w _ ?_)
  unfold S24
  exact ⟨_, rfl, rfl, bel.refl _⟩
theorem hasBig (h : Hdr) (xs : List Int) (w : World) (H : SlI w h xs) :
    call Try.prog 23 [.slice h.1 h.2.1 h.2.2, .func (.func 24) #[] #[]] (.one (.one .bool)) w (fun x w' => x = xs.any big ∧ bel w w') := by
  refine call_of (S23_calls h.1 h.2.1 h.2.2 w _ ?_)
  unfold S23
  refine call_mono (r := .one (.one (.int .i64))) (Q := fun x w' => x = idxI big xs ∧ bel w w') (call_of (S32_calls h.1 h.2.1 h.2.2 w _ ?_)) ?_
  · unfold S32
    exact idx_ints tyI (by kernel_rfl) (fargs := fun x5 => [.int .i64 x5]) H big (fun j x hx w' hb => bigF x w')
  · rintro x w2 ⟨rfl, hb⟩
    exact ⟨_, rfl, idxI_any _ _, hb⟩
theorem at_getD {ws : List Int} {i : Nat} {x : Int} (h : ws[i]? = some x) : x = ws.getD i 0 := by rw [List.getD_eq_getElem?_getD, h]; rfl
/-- how two places compare -/
theorem lessF {T : Int} {ws : List Int} (F : Fine T ws) (hS : 0 < ws.sum) {h : Hdr} {p0 p1 p2 : Addr} {w : World} (H : SlI w h ws) (X0 : Box w p0 [.int .i64 T]) (X1 : Box w p1 [.slice h.1 h.2.1 h.2.2]) (X2 : Box w p2 [.int .i64 ws.sum]) {s t : Nat} (hs : s < ws.length) (ht : t < ws.length) :
    call Try.prog 26 [.int .i64 (s : Int), .int .i64 (t : Int), .pointer (some p0), .pointer (some p1), .pointer (some p2)] (.one (.one (.int .i64))) w fun (x : Int) w'' => (x < 0 ↔ kk T ws s t) ∧ bel w w'' := by
  refine call_of (S26_calls _ _ p0 p1 p2 w _ ?_)
  unfold S26
  have hl := H.int
  refine drw_mk fun w1 hb _ => ?_
  replace X0 := X0.up hb
  replace X1 := X1.up hb
  replace X2 := X2.up hb
  replace H := H.up hb
  refine rd_box0 (by kernel_rfl) X0 rfl rfl ?_
  refine rd_box0 (by kernel_rfl) X1 rfl rfl ?_
  refine at_int tyI (by kernel_rfl) H rfl (by omega) fun x5 h5 => ?_
  have b5 := F.w x5 (mem_at h5)
  have c5 := low_b F.t0 F.t b5.1 b5.2 F.s0
  refine z_i64 (by omega) ?_
  refine rd_box0 (by kernel_rfl) X2 rfl rfl ?_
  refine rdp_rem (by omega) ?_
  refine rd_box0 (by kernel_rfl) X0 rfl rfl ?_
  refine rd_box0 (by kernel_rfl) X1 rfl rfl ?_
  refine at_int tyI (by kernel_rfl) H rfl (by omega) fun x12 h12 => ?_
  have b12 := F.w x12 (mem_at h12)
  have c12 := low_b F.t0 F.t b12.1 b12.2 F.s0
  refine z_i64 (by omega) ?_
  refine rd_box0 (by kernel_rfl) X2 rfl rfl ?_
  refine rdp_rem (by omega) ?_
  refine call_mono (cmpI _ _ w1) fun (r : Int) w2 ⟨hr, e⟩ => ?_
  subst e
  refine ⟨r, rfl, ?_, hb⟩
  rw [hr, Int.tmod_eq_emod_of_nonneg c5.1, Int.tmod_eq_emod_of_nonneg c12.1]
  unfold kk rm
  rw [← at_getD h5, ← at_getD h12]
end Go.Proofs.Ytckgpiboelhefaa

/- distribution.Apportion. -/

namespace Go.Proofs.Ytckgpiboelhefaa
open Go.RowKit Go.Q Go.V Go.Dist Go.Srt

def AppR (T : Int) (ws : List Int) (x : Hdr × Int × Unit) (w : World) : Prop :=
  (∀ e, apErr T ws = some e → x = ((none, 0, 0), e, ())) ∧
  (apErr T ws = none → x.2 = (0, ()) ∧ ∃ f, RP 0 ws.length id f ∧ Srtd (kk T ws) f 0 ws.length ∧ SlI w x.1 (outL T ws f (left T ws ws.length).toNat))
theorem err_of {T : Int} {ws : List Int} {e : Int} (h : apErr T ws = some e) {w : World} : AppR T ws ((none, 0, 0), e, ()) w :=
  ⟨fun e' h' => by rw [h] at h'; injection h' with h'; rw [h'], fun h' => by rw [h] at h'; cases h'⟩
theorem err1 {T : Int} {ws : List Int} (h : ws.length > 1000 ∨ T > 1000000000 ∨ ws.any big = true) : apErr T ws = some 8 := by
  unfold apErr; rw [if_pos h]
theorem err2 {T : Int} {ws : List Int} (h : ¬ (ws.length > 1000 ∨ T > 1000000000 ∨ ws.any big = true)) (h2 : ws.any (fun w => decide (w < 0)) = true) : apErr T ws = some 1 := by
  unfold apErr; rw [if_neg h, if_pos h2]
theorem err3 {T : Int} {ws : List Int} (h : ¬ (ws.length > 1000 ∨ T > 1000000000 ∨ ws.any big = true)) (h2 : ¬ ws.any (fun w => decide (w < 0)) = true) (h3 : T < 0 ∨ (ws.sum = 0 ∧ T > 0)) : apErr T ws = some 1 := by
  unfold apErr; rw [if_neg h, if_neg h2, if_pos h3]
theorem err4 {T : Int} {ws : List Int} (h : ¬ (ws.length > 1000 ∨ T > 1000000000 ∨ ws.any big = true)) (h2 : ¬ ws.any (fun w => decide (w < 0)) = true) (h3 : ¬ (T < 0 ∨ (ws.sum = 0 ∧ T > 0))) : apErr T ws = none := by
  unfold apErr; rw [if_neg h, if_neg h2, if_neg h3]
theorem ok_of {T : Int} {ws : List Int} (h : apErr T ws = none) {w : World} {o : Hdr} (f : Nat → Nat) (R : RP 0 ws.length id f) (s : Srtd (kk T ws) f 0 ws.length) (O : SlI w o (outL T ws f (left T ws ws.length).toNat)) : AppR T ws (o, 0, ()) w :=
  ⟨fun e h' => (by rw [h] at h'; cases h'), fun _ => ⟨rfl, f, R, s, O⟩⟩
theorem none_neg {ws : List Int} (h : ∀ j, j < ws.length → ∀ x, ws[j]? = some x → 0 ≤ x) : ¬ ws.any (fun w => decide (w < 0)) = true := by
  intro q
  obtain ⟨x, hx, hn⟩ := List.any_eq_true.1 q
  obtain ⟨j, hj, rfl⟩ := List.mem_iff_getElem.1 hx
  have := h j hj _ (List.getElem?_eq_getElem hj)
  have := of_decide_eq_true hn
  omega
theorem none_big {ws : List Int} (h : ¬ ws.any big = true) : ∀ w ∈ ws, w ≤ 1000000 := by
  intro x hx
  have : ¬ big x = true := fun q => h (List.any_eq_true.2 ⟨x, hx, q⟩)
  unfold big at this
  simp at this; exact this
theorem take_b {ws : List Int} {i : Nat} (hn : ws.length ≤ 1000) (h : ∀ j, j < i → ∀ x, ws[j]? = some x → 0 ≤ x) (hb : ∀ w ∈ ws, w ≤ 1000000) : 0 ≤ (ws.take i).sum ∧ (ws.take i).sum ≤ 1000000000 := by
  constructor
  · refine sum_nn fun x hx => ?_
    obtain ⟨j, hj, rfl⟩ := List.mem_iff_getElem.1 hx
    rw [List.length_take] at hj
    refine h j (by omega) _ ?_
    rw [List.getElem_take, List.getElem?_eq_getElem]
  · have h2 := sum_le (l := ws.take i) fun x hx => hb x (List.mem_of_mem_take hx)
    have h3 : (ws.take i).length ≤ ws.length := by rw [List.length_take]; omega
    omega
theorem zeros_i (n : Nat) : (madeCells (Value.int .i64 0).cells (n * 1)).toList = ints .i64 (mkI n fun _ => 0) := by rw [Nat.mul_one, ← mkI_zero]; exact made_int .i64 n
theorem mkV_ints (n : Nat) : ints .i64 (mkI n fun x => (x : Int)) = mkV n (Ap.VV fun s => (s : Int)) id := by
  unfold ints mkI mkV; rw [List.map_map]; rfl
theorem ints_mkV (n : Nat) (f : Nat → Nat) : mkV n (Ap.VV fun s => (s : Int)) f = ints .i64 (mkI n fun x => (f x : Int)) := by
  unfold ints mkI mkV; rw [List.map_map]; rfl
theorem own_apart {w w' : World} {B : Nat} {a : Addr} {n b : Nat} {xs : List Int} (O : OwnI w B a n xs) (h : w.grownBy w' (some b)) (hb : a.block ≠ b) : OwnI w' B a n xs :=
  Own.putNew O h (fun j hj => by
    have hj : some a.block = some j := hj
    injection hj with hj
    omega)
theorem appC (T : Int) (hT : I64 T) (h : Hdr) (ws : List Int) (w : World) (H : SlI w h ws) :
    call Try.prog 9 [.int .i64 T, .slice h.1 h.2.1 h.2.2] (.many [.one .slice, .one (.int .i64)]) w fun x w' => bel w w' ∧ AppR T ws x w' := by
  obtain ⟨a, n, c⟩ := h
  have hl : ws.length = n := H.int
  subst hl
  refine call_of (S9_calls _ _ _ _ w _ ?_)
  unfold S9
  dsimp only
  refine wr_box fun x1 w2 X1 h2 e1 _ => ?_
  refine wr_box fun x3 w4 X3 h4 e3 _ => ?_
  replace h2 := h2.trans h4
  replace X1 := X1.up h4
  refine rd_box0 (by kernel_rfl) X3 rfl rfl ?_
  refine br_dec (fun q => ⟨_, rfl, h2, err_of (err1 (.inl (by dsimp only at q; omega)))⟩) (fun q1 => ?_)
  dsimp only at q1
  refine rd_box0 (by kernel_rfl) X1 rfl rfl ?_
  refine br_dec (fun q => ⟨_, rfl, h2, err_of (err1 (.inr (.inl q)))⟩) (fun q2 => ?_)
  refine rd_box0 (by kernel_rfl) X3 rfl rfl ?_
  refine call_mono (hasBig (a, ws.length, c) ws w4 (H.up h2)) fun b w9 ⟨eb, h9⟩ => ?_
  subst eb
  refine br_mk (fun q => ⟨_, rfl, h2.trans h9, err_of (err1 (.inr (.inr q)))⟩) (fun q3 => ?_)
  replace q3 : ¬ ws.any big = true := by rw [q3]; simp
  have hbig := none_big q3
  have hne : ¬ (ws.length > 1000 ∨ T > 1000000000 ∨ ws.any big = true) := by
    rintro (q | q | q)
    · omega
    · omega
    · exact q3 q
  replace h2 := h2.trans h9
  replace X1 := X1.up h9
  replace X3 := X3.up h9
  refine var_mk (v := .int .i64 0) (by kernel_rfl) (by kernel_rfl) rfl rfl fun x10 w12 X10 h12 e10 => ?_
  refine rd_box0 (by kernel_rfl) (X3.up h12) rfl rfl ?_
  dsimp only
  refine loop_up ws.length (fun i w' => bel w9 w' ∧ Box w' x10 [.int .i64 (ws.take i).sum] ∧ ∀ j, j < i → ∀ x, ws[j]? = some x → 0 ≤ x) ⟨h12, X10, pre_zero⟩ fun i w16 hi ⟨h16, X16, hnn⟩ again hag _ => ?_
  have tb := take_b (i := i) (by omega) hnn hbig
  refine br_dec (fun e => ?_) (fun e => ?_)
  · dsimp only at e
    have hin : i < ws.length := by omega
    refine at_int tyI (by kernel_rfl) ((H.up h2).up h16) rfl hin fun x18 h18 => ?_
    refine br_dec (fun q => ⟨_, rfl, h2.trans h16, err_of (err2 hne (List.any_eq_true.2 ⟨x18, mem_at h18, by simpa using q⟩))⟩) (fun q4 => ?_)
    refine rd_box0 (by kernel_rfl) X16 rfl rfl ?_
    have hb18 := hbig x18 (mem_at h18)
    refine z_i64 (by omega) ?_
    refine wu_box X16 (by kernel_rfl) (Nat.le_refl 1) rfl fun w21 X21 g21 _ => ?_
    refine z_i64 (by dsimp only; omega) ?_
    refine hag w21 hin ⟨h16.grownAt g21 (by omega), ?_, pre_step hnn h18 (by omega)⟩
    rw [sum_take_suc h18]; exact X21
  dsimp only at e
  have hin : i = ws.length := by omega
  subst hin
  rw [List.take_length] at X16 tb
  have hng := none_neg hnn
  have Z1 := X1.up h16
  have Z3 := X3.up h16
  have H16 := (H.up h2).up h16
  replace h2 := h2.trans h16
  refine join_mk (fun _ w' => w' = w16 ∧ apErr T ws = none) (fun K23 hK => ?_) ?_
  · refine rd_box0 (by kernel_rfl) Z1 rfl rfl ?_
    refine br_dec (fun q => ⟨_, rfl, h2, err_of (err3 hne hng (.inl q))⟩) (fun q4 => ?_)
    refine rd_box0 (by kernel_rfl) X16 rfl rfl ?_
    refine br_eq (fun q5 => ?_) (fun q5 => ?_)
    · refine rd_box0 (by kernel_rfl) Z1 rfl rfl ?_
      refine br_dec (fun q => ⟨_, rfl, h2, err_of (err3 hne hng (.inr ⟨q5, q⟩))⟩) (fun q6 => ?_)
      exact hK () _ ⟨rfl, err4 hne hng (by omega)⟩
    · exact hK () _ ⟨rfl, err4 hne hng (by omega)⟩
  clear hng hnn tb hag hne hbig q3
  rintro _ w25 ⟨rfl, hok⟩ _
  have F := fine_of hok
  have hnl := F.n
  have ht0 := F.t0
  have ht1 := F.t
  have hLf := F.left
  refine rd_box0 (by kernel_rfl) Z3 rfl rfl ?_
  refine wr_make tyI ws.length rfl rfl (by omega) (by unfold maxLen; omega) fun od w28 O28 h28 eo _ => ?_
  have OO := O28 _ (Nat.le_refl _)
  rw [zeros_i] at OO
  refine rd_box0 (by kernel_rfl) (X16.up h28) rfl rfl ?_
  refine br_eq (fun q => ?_) (fun q => ?_)
  · have hz := F.z q
    refine ⟨_, rfl, h2.trans h28, ok_of hok id (RP.refl _ _ _) (fun x y _ hxy _ => .inr ⟨fun k => ?_, hxy⟩) ?_⟩
    · unfold kk rm at k; rw [q] at k; subst hz; simp at k
    · have : outL T ws id (left T ws ws.length).toNat = mkI ws.length fun _ => 0 := by
        have hl0 : left T ws ws.length = 0 := by
          have := hLf.1
          unfold left at this ⊢
          have := (F.lows ws.length).1
          omega
        unfold outL
        rw [hl0]
        refine mkI_congr fun x _ => ?_
        rw [hz]; unfold low; rw [Int.zero_mul]; simp [inF]
      rw [this]; exact OO.sl
  have hS : 0 < ws.sum := by have := F.s0; omega
  refine rd_box0 (by kernel_rfl) (Z1.up h28) rfl rfl ?_
  refine rd_box0 (by kernel_rfl) (Z3.up h28) rfl rfl ?_
  refine wr_make tyI ws.length rfl rfl (by omega) (by unfold maxLen; omega) fun rd w33 R33 h33 er _ => ?_
  have RR := R33 w25.heap.size h28.size
  rw [zeros_i] at RR
  have hrd : rd.block ≠ od.block := by have := h28.size; omega
  have hob : w25.heap.size ≤ od.block := by omega
  have hrb : w25.heap.size ≤ rd.block := by have := h28.size; omega
  refine rd_box0 (by kernel_rfl) ((Z3.up h28).up h33) rfl rfl ?_
  dsimp only
  refine loop_upA ws.length (fun i l w' => bel w25 w' ∧ l = left T ws i ∧ OwnI w' w25.heap.size od ws.length (mkI ws.length fun x => if x < i then low T ws.sum (ws.getD x 0) else 0) ∧ OwnI w' w25.heap.size rd ws.length (mkI ws.length fun x => if x < i then (x : Int) else 0))
    ⟨h28.trans h33, by unfold left; simp, by rw [mkI_congr (h := fun _ => 0) fun x _ => if_neg (by omega)]; exact Own.kept OO h33, by rw [mkI_congr (h := fun _ => 0) fun x _ => if_neg (by omega)]; exact RR⟩ fun i l w37 hi ⟨h37, el, P37, R37⟩ again hag _ => ?_
  refine br_dec (fun e => ?_) (fun e => ?_)
  · dsimp only at e
    have hin : i < ws.length := by omega
    refine at_int tyI (by kernel_rfl) (H16.up h37) rfl hin fun x39 h39 => ?_
    have bw := F.w x39 (mem_at h39)
    have bl := low_b F.t0 F.t bw.1 bw.2 F.s0
    refine rd_box0 (by kernel_rfl) (Z1.up h37) rfl rfl ?_
    refine z_i64 (by omega) ?_
    refine rd_box0 (by kernel_rfl) (X16.up h37) rfl rfl ?_
    refine rdp_quo (by omega) ?_
    rw [Int.tdiv_eq_ediv_of_nonneg bl.1, IntWalk.i64_in _ (by have := bl.2.2; unfold low at this; omega)]
    refine set_mk tyI P37 rfl hin rfl fun w45 P45 g45 _ => ?_
    rw [ints_set, mkI_set] at P45
    refine set_mk tyI (own_apart R37 g45 hrd) rfl hin rfl fun w47 R47 g47 _ => ?_
    rw [ints_set, mkI_set] at R47
    have P47 := own_apart (xs := mkI ws.length _) P45 g47 hrd.symm
    refine at_int tyI (by kernel_rfl) P47.sl rfl hin fun x49 h49 => ?_
    rw [mkI_at hin, if_pos rfl] at h49
    injection h49 with h49
    subst h49 el
    have lb := F.lows i
    refine z_i64 (by unfold left; have b2 := bl.2.2; rw [show T * x39 / ws.sum = low T ws.sum x39 from rfl]; omega) ?_
    refine z_i64 (by dsimp only; omega) ?_
    refine hag _ w47 hin ⟨(h37.grownAt g45 hob).grownAt g47 hrb, (left_suc h39).symm, ?_, ?_⟩
    · rw [mkI_congr (h := fun y => if y = i then T * x39 / ws.sum else if y < i then low T ws.sum (ws.getD y 0) else 0) fun y _ => ?_]
      · exact P47
      · by_cases c : y = i
        · subst c
          rw [if_pos (by omega), if_pos rfl, ← at_getD h39]; rfl
        · rw [if_neg c]
          by_cases c2 : y < i
          · rw [if_pos (by omega), if_pos c2]
          · rw [if_neg (by omega), if_neg c2]
    · rw [mkI_congr (h := fun y => if y = i then (i : Int) else if y < i then (y : Int) else 0) fun y _ => ?_]
      · exact R47
      · by_cases c : y = i
        · subst c
          rw [if_pos (by omega), if_pos rfl]
        · rw [if_neg c]
          by_cases c2 : y < i
          · rw [if_pos (by omega), if_pos c2]
          · rw [if_neg (by omega), if_neg c2]
  dsimp only at e
  have hin : i = ws.length := by omega
  subst hin el
  rw [mkI_congr (h := fun x => low T ws.sum (ws.getD x 0)) fun x hx => if_pos hx] at P37
  rw [mkI_congr (h := fun x => (x : Int)) fun x hx => if_pos hx] at R37
  have R37' : Ap.OV w37 w25.heap.size (some rd) ws.length ws.length (fun s => (s : Int)) id := by
    unfold Ap.OV
    rw [← mkV_ints]; exact R37
  have cm : Ap.Cm (kk T ws) ws.length (fun s => (s : Int)) (some rd) x1 x3 x10 w37 := fun w' hg s t hs ht => by
    have hb := h37.grownAt hg hrb
    exact lessF F hS (h := (a, ws.length, c)) (H16.up hb) (Z1.up hb) (Z3.up hb) (X16.up hb) hs ht
  refine call_mono (Ap.sortC (kk_swo T ws) (by omega) cm R37') fun _ w53 ⟨f, RPf, Sf, O53, g53⟩ => ?_
  have h53 := h37.grownAt g53 hrb
  have P53 := own_apart P37 g53 hrd.symm
  unfold Ap.OV at O53
  rw [ints_mkV] at O53
  clear hag cm R37 R37' P37
  obtain ⟨m, hm⟩ : ∃ m : Nat, left T ws ws.length = (m : Int) := ⟨(left T ws ws.length).toNat, by omega⟩
  have hmn : m ≤ ws.length := by omega
  refine sl_to tyI hm hmn ?_
  dsimp only
  refine loop_up m (fun i w' => bel w25 w' ∧ OwnI w' w25.heap.size od ws.length (outL T ws f i) ∧ OwnI w' w25.heap.size rd ws.length (mkI ws.length fun x => (f x : Int)))
    ⟨h53, by rw [show outL T ws f 0 = mkI ws.length (fun x => low T ws.sum (ws.getD x 0)) from mkI_congr fun x _ => by simp [inF]]; exact P53, O53⟩ fun i w57 hi ⟨h57, P57, R57⟩ again hag _ => ?_
  refine br_dec (fun e2 => ?_) (fun e2 => ?_)
  · dsimp only at e2
    have him : i < m := by omega
    have hif : f i < ws.length := RPf.lt (by omega)
    obtain ⟨os1, os2⟩ := outL_suc (kk_swo T ws) (T := T) RPf Sf (show i < ws.length by omega)
    refine idx_mk tyI (j := i) rfl him rfl ?_
    rw [Nat.mul_one]
    obtain ⟨ad, z1, z2, _⟩ := R57.sl.at' i (.int .i64 (f i : Int)) (by
      show (List.map _ _)[i]? = _
      rw [List.getElem?_map, mkI_at (by omega)]; rfl)
    injection z1 with z1
    subst z1
    refine rd_cell (s := .int .i64) (x := (f i : Int)) (by kernel_rfl) z2 (by simp [Sh.get]) ?_
    refine at_int tyI (by kernel_rfl) P57.sl rfl hif fun x61 h61 => ?_
    rw [os1] at h61
    injection h61 with h61
    subst h61
    have bb : 0 ≤ low T ws.sum (ws.getD (f i) 0) ∧ low T ws.sum (ws.getD (f i) 0) ≤ 1000000000000000 := by
      have bw := F.w (ws.getD (f i) 0) (mem_at (i := f i) (by rw [List.getD_eq_getElem?_getD, List.getElem?_eq_getElem hif]; rfl))
      exact (low_b F.t0 F.t bw.1 bw.2 F.s0).2.2
    refine z_i64 (by omega) ?_
    refine set_mk tyI P57 rfl hif rfl fun w64 P64 g64 _ => ?_
    rw [ints_set, os2] at P64
    refine z_i64 (by dsimp only; omega) ?_
    exact hag w64 him ⟨h57.grownAt g64 hob, P64, own_apart R57 g64 hrd⟩
  · dsimp only at e2
    have : i = m := by omega
    subst this
    refine ⟨((some od, ws.length, ws.length), (0 : Int), ()), rfl, h2.trans h57, ok_of hok f RPf Sf ?_⟩
    rw [hm]; exact P57.sl
end Go.Proofs.Ytckgpiboelhefaa

/- Apportion of the specification. -/

namespace Go.Proofs.Ytckgpiboelhefaa
open Go.RowKit Go.Q Go.V Go.Dist Go.Srt

theorem outL_len (T : Int) (ws : List Int) (f : Nat → Nat) (j : Nat) : (outL T ws f j).length = ws.length := mkI_len _ _
theorem refC (T : Int) (hT : I64 T) (h : Hdr) (ws : List Int) (w : World) (H : SlI w h ws) (f : Nat → Nat) (RPf : apErr T ws = none → RP 0 ws.length id f) (Sf : apErr T ws = none → Srtd (kk T ws) f 0 ws.length) :
    call Try.prog 10 [.int .i64 T, .slice h.1 h.2.1 h.2.2] (.many [.one .slice, .one (.int .i64)]) w fun x w' => bel w w' ∧ (∀ e, apErr T ws = some e → x = ((none, 0, 0), e, ())) ∧
      (apErr T ws = none → x.2 = ((0 : Int), ()) ∧ SlI w' x.1 (outL T ws f (left T ws ws.length).toNat)) := by
  have eof : ∀ {e : Int} {w' : World}, bel w w' → apErr T ws = some e → bel w w' ∧ (∀ e', apErr T ws = some e' → (((none, 0, 0), e, ()) : Hdr × Int × Unit) = ((none, 0, 0), e', ())) ∧
      (apErr T ws = none → (((none, 0, 0), e, ()) : Hdr × Int × Unit).2 = ((0 : Int), ()) ∧ SlI w' ((((none, 0, 0), e, ()) : Hdr × Int × Unit).1) (outL T ws f (left T ws ws.length).toNat)) := fun hb he =>
    ⟨hb, fun e' h' => (by rw [he] at h'; injection h' with h'; rw [h']), fun h' => (by rw [he] at h'; cases h')⟩
  obtain ⟨a, n, c⟩ := h
  have hl : ws.length = n := H.int
  subst hl
  refine call_of (S10_calls _ _ _ _ w _ ?_)
  unfold S10
  dsimp only
  refine br_dec (fun q => ⟨_, rfl, eof (bel.refl _) (err1 (.inl (by omega)))⟩) (fun q1 => ?_)
  refine br_dec (fun q => ⟨_, rfl, eof (bel.refl _) (err1 (.inr (.inl q)))⟩) (fun q2 => ?_)
  refine loop_up ws.length (fun i w' => bel w w' ∧ ∀ j, j < i → ∀ x, ws[j]? = some x → x ≤ 1000000) ⟨bel.refl _, pre_zero⟩ fun i w3 hi ⟨h3, hb⟩ again hag _ => ?_
  refine br_dec (fun e => ?_) (fun e => ?_)
  · dsimp only at e
    have hin : i < ws.length := by omega
    refine at_int tyI (by kernel_rfl) (H.up h3) rfl hin fun x5 h5 => ?_
    refine br_dec (fun q => ⟨_, rfl, eof h3 (err1 (.inr (.inr (List.any_eq_true.2 ⟨x5, mem_at h5, by unfold big; simpa using q⟩))))⟩) (fun q4 => ?_)
    refine z_i64 (by dsimp only; omega) ?_
    exact hag w3 hin ⟨h3, pre_step hb h5 (by omega)⟩
  dsimp only at e
  have hin : i = ws.length := by omega
  subst hin
  have hbig : ∀ x ∈ ws, x ≤ 1000000 := pre_all hb (Nat.le_refl _)
  have hne : ¬ (ws.length > 1000 ∨ T > 1000000000 ∨ ws.any big = true) := by
    rintro (q | q | q)
    · omega
    · omega
    · obtain ⟨x, hx, hn⟩ := List.any_eq_true.1 q
      have := hbig x hx
      unfold big at hn
      simp at hn; omega
  clear hb hag
  refine loop_upA ws.length (fun i s w' => bel w w' ∧ s = (ws.take i).sum ∧ ∀ j, j < i → ∀ x, ws[j]? = some x → 0 ≤ x) ⟨h3, rfl, pre_zero⟩ fun i s w9 hi ⟨h9, es, hnn⟩ again hag _ => ?_
  have tb := take_b (i := i) (by omega) hnn hbig
  subst es
  refine br_dec (fun e => ?_) (fun e => ?_)
  · dsimp only at e
    have hin : i < ws.length := by omega
    refine at_int tyI (by kernel_rfl) (H.up h9) rfl hin fun x11 h11 => ?_
    refine br_dec (fun q => ⟨_, rfl, eof h9 (err2 hne (List.any_eq_true.2 ⟨x11, mem_at h11, by simpa using q⟩))⟩) (fun q4 => ?_)
    refine at_int tyI (by kernel_rfl) (H.up h9) rfl hin fun x13 h13 => ?_
    rw [h11] at h13
    injection h13 with h13
    subst h13
    have hb18 := hbig x11 (mem_at h11)
    refine z_i64 (by dsimp only; omega) ?_
    refine z_i64 (by dsimp only; omega) ?_
    exact hag _ w9 hin ⟨h9, by rw [sum_take_suc h11], pre_step hnn h11 (by omega)⟩
  dsimp only at e
  have hin : i = ws.length := by omega
  subst hin
  rw [List.take_length] at tb ⊢
  have hng := none_neg hnn
  refine join_mk (fun _ w' => w' = w9 ∧ apErr T ws = none) (fun K16 hK => ?_) ?_
  · refine br_dec (fun q => ⟨_, rfl, eof h9 (err3 hne hng (.inl q))⟩) (fun q4 => ?_)
    refine br_eq (fun q5 => ?_) (fun q5 => ?_)
    · dsimp only at q5
      refine br_ne (fun q => ⟨_, rfl, eof h9 (err3 hne hng (.inr ⟨q5, by omega⟩))⟩) (fun q6 => ?_)
      exact hK () _ ⟨rfl, err4 hne hng (by omega)⟩
    · dsimp only at q5
      exact hK () _ ⟨rfl, err4 hne hng (by omega)⟩
  clear hng hnn tb hag hne hbig
  rintro _ w25 ⟨rfl, hok⟩ _
  have F := fine_of hok
  have hnl := F.n
  have ht0 := F.t0
  have ht1 := F.t
  have hLf := F.left
  replace RPf := RPf hok
  replace Sf := Sf hok
  have H16 := H.up h9
  have fin : ∀ {o : Hdr} {w' : World}, bel w w' → SlI w' o (outL T ws f (left T ws ws.length).toNat) → bel w w' ∧ (∀ e', apErr T ws = some e' → ((o, 0, ()) : Hdr × Int × Unit) = ((none, 0, 0), e', ())) ∧
      (apErr T ws = none → ((o, 0, ()) : Hdr × Int × Unit).2 = ((0 : Int), ()) ∧ SlI w' (((o, 0, ()) : Hdr × Int × Unit).1) (outL T ws f (left T ws ws.length).toNat)) := fun hb ho =>
    ⟨hb, fun e' h' => (by rw [hok] at h'; cases h'), fun _ => ⟨rfl, ho⟩⟩
  clear eof
  refine wr_make tyI ws.length rfl rfl (by omega) (by unfold maxLen; omega) fun od w28 O28 h28 eo _ => ?_
  have OO := O28 _ (Nat.le_refl _)
  rw [zeros_i] at OO
  refine br_eq (fun q => ?_) (fun q => ?_)
  · dsimp only at q
    have hz := F.z q
    refine ⟨((some od, ws.length, ws.length), (0 : Int), ()), rfl, fin (h9.trans h28) ?_⟩
    have : outL T ws f (left T ws ws.length).toNat = mkI ws.length fun _ => 0 := by
      have hl0 : left T ws ws.length = 0 := by
        have := hLf.1
        unfold left at this ⊢
        have := (F.lows ws.length).1
        omega
      unfold outL
      rw [hl0]
      refine mkI_congr fun x _ => ?_
      rw [hz]; unfold low; rw [Int.zero_mul]; simp [inF]
    rw [this]; exact OO.sl
  dsimp only at q
  have hS : 0 < ws.sum := by have := F.s0; omega
  refine wr_make tyI ws.length rfl rfl (by omega) (by unfold maxLen; omega) fun rd w33 R33 h33 er _ => ?_
  have RR := R33 w25.heap.size h28.size
  rw [zeros_i] at RR
  have hrd : rd.block ≠ od.block := by have := h28.size; omega
  have hob : w25.heap.size ≤ od.block := by omega
  have hrb : w25.heap.size ≤ rd.block := by have := h28.size; omega
  dsimp only
  refine loop_upA ws.length (fun i l w' => bel w25 w' ∧ l = left T ws i ∧ OwnI w' w25.heap.size od ws.length (mkI ws.length fun x => if x < i then low T ws.sum (ws.getD x 0) else 0) ∧ OwnI w' w25.heap.size rd ws.length (mkI ws.length fun x => if x < i then rm T ws.sum (ws.getD x 0) else 0))
    ⟨h28.trans h33, by unfold left; simp, by rw [mkI_congr (h := fun _ => 0) fun x _ => if_neg (by omega)]; exact Own.kept OO h33, by rw [mkI_congr (h := fun _ => 0) fun x _ => if_neg (by omega)]; exact RR⟩ fun i l w37 hi ⟨h37, el, P37, R37⟩ again hag _ => ?_
  refine br_dec (fun e => ?_) (fun e => ?_)
  · dsimp only at e
    have hin : i < ws.length := by omega
    refine drw_mk fun w38 h38 _ => ?_
    replace h37 := h37.trans h38
    replace P37 : OwnI w38 w25.heap.size od ws.length _ := Own.kept P37 h38
    replace R37 : OwnI w38 w25.heap.size rd ws.length _ := Own.kept R37 h38
    refine at_int tyI (by kernel_rfl) (H16.up h37) rfl hin fun x39 h39 => ?_
    have bw := F.w x39 (mem_at h39)
    have bl := low_b F.t0 F.t bw.1 bw.2 F.s0
    refine z_i64 (by omega) ?_
    refine rdp_quo (by omega) ?_
    rw [Int.tdiv_eq_ediv_of_nonneg bl.1, IntWalk.i64_in _ (by have := bl.2.2; unfold low at this; omega)]
    refine at_int tyI (by kernel_rfl) (H16.up h37) rfl hin fun x32 h32 => ?_
    rw [h39] at h32
    injection h32 with h32
    subst h32
    refine z_i64 (by omega) ?_
    refine rdp_rem (by omega) ?_
    rw [Int.tmod_eq_emod_of_nonneg bl.1]
    refine set_mk tyI P37 rfl hin rfl fun w45 P45 g45 _ => ?_
    rw [ints_set, mkI_set] at P45
    refine set_mk tyI (own_apart R37 g45 hrd) rfl hin rfl fun w47 R47 g47 _ => ?_
    rw [ints_set, mkI_set] at R47
    have P47 := own_apart (xs := mkI ws.length _) P45 g47 hrd.symm
    refine at_int tyI (by kernel_rfl) P47.sl rfl hin fun x49 h49 => ?_
    rw [mkI_at hin, if_pos rfl] at h49
    injection h49 with h49
    subst h49 el
    have lb := F.lows i
    dsimp only
    refine z_i64 (by unfold left; have b2 := bl.2.2; rw [show T * x39 / ws.sum = low T ws.sum x39 from rfl]; omega) ?_
    refine z_i64 (by omega) ?_
    refine hag _ w47 hin ⟨(h37.grownAt g45 hob).grownAt g47 hrb, (left_suc h39).symm, ?_, ?_⟩
    · rw [mkI_congr (h := fun y => if y = i then T * x39 / ws.sum else if y < i then low T ws.sum (ws.getD y 0) else 0) fun y _ => ?_]
      · exact P47
      · by_cases c : y = i
        · subst c
          rw [if_pos (by omega), if_pos rfl, ← at_getD h39]; rfl
        · rw [if_neg c]
          by_cases c2 : y < i
          · rw [if_pos (by omega), if_pos c2]
          · rw [if_neg (by omega), if_neg c2]
    · rw [mkI_congr (h := fun y => if y = i then T * x39 % ws.sum else if y < i then rm T ws.sum (ws.getD y 0) else 0) fun y _ => ?_]
      · exact R47
      · by_cases c : y = i
        · subst c
          rw [if_pos (by omega), if_pos rfl, ← at_getD h39]; rfl
        · rw [if_neg c]
          by_cases c2 : y < i
          · rw [if_pos (by omega), if_pos c2]
          · rw [if_neg (by omega), if_neg c2]
  dsimp only at e
  have hin : i = ws.length := by omega
  subst hin el
  rw [mkI_congr (h := fun x => low T ws.sum (ws.getD x 0)) fun x hx => if_pos hx] at P37
  rw [mkI_congr (h := rest T ws f 0) fun x hx => (by rw [if_pos hx]; unfold rest; rw [inF_zero]; rfl)] at R37
  clear hag
  obtain ⟨m, hm⟩ : ∃ m : Nat, left T ws ws.length = (m : Int) := ⟨(left T ws ws.length).toNat, by omega⟩
  have hmn : m ≤ ws.length := by omega
  dsimp only
  refine loop_gh (G := Nat) (fun i s w' => s = ((m : Int) - (i : Int), ()) ∧ i ≤ m ∧ bel w25 w' ∧ OwnI w' w25.heap.size od ws.length (outL T ws f i) ∧ OwnI w' w25.heap.size rd ws.length (mkI ws.length (rest T ws f i))) (fun i => m - i) 0
    ⟨by rw [hm]; simp, Nat.zero_le _, h37, by rw [show outL T ws f 0 = mkI ws.length (fun x => low T ws.sum (ws.getD x 0)) from mkI_congr fun x _ => by simp [inF]]; exact P37, R37⟩ ?_
  rintro i s w45 ⟨rfl, him, h45, P45, R45⟩ again hag _
  dsimp only
  refine br_dec (fun e2 => ?_) (fun e2 => ?_)
  · have hin : i < ws.length := by omega
    refine loop_gh (G := Nat × Nat) (fun g s w' => s = ((g.2 : Int), (g.1 : Int), ()) ∧ g.1 ≤ ws.length ∧ Best (rest T ws f i) g.1 g.2 ∧ bel w45 w') (fun g => ws.length - g.1) (1, 0)
      ⟨rfl, by dsimp only; omega, Best.one _, bel.refl _⟩ ?_
    rintro ⟨y, b⟩ s w48 ⟨rfl, hy, Bt, h48⟩ again2 hag2 _
    dsimp only at hy Bt ⊢
    have R48 : OwnI w48 w25.heap.size rd ws.length _ := Own.kept R45 h48
    have P48 : OwnI w48 w25.heap.size od ws.length _ := Own.kept P45 h48
    refine br_dec (fun e3 => ?_) (fun e3 => ?_)
    · have hyn : y < ws.length := by omega
      have bl := Bt.lt
      refine join_mk (fun s w' => bel w45 w' ∧ ∃ b' : Nat, s = ((b' : Int), ()) ∧ Best (rest T ws f i) (y + 1) b') (fun K49 hK => ?_) ?_
      · refine drw_mk fun w53 h53 _ => ?_
        replace R48 : OwnI w53 w25.heap.size rd ws.length _ := Own.kept R48 h53
        refine at_int tyI (by kernel_rfl) R48.sl rfl hyn fun x55 h55 => ?_
        refine at_int tyI (by kernel_rfl) R48.sl rfl (show b < ws.length by omega) fun x57 h57 => ?_
        rw [mkI_at hyn] at h55
        rw [mkI_at (by omega)] at h57
        injection h55 with h55
        injection h57 with h57
        refine br_dec (fun e4 => ?_) (fun e4 => ?_)
        · exact hK _ _ ⟨h48.trans h53, y, rfl, Bt.yes (by omega)⟩
        · exact hK _ _ ⟨h48.trans h53, b, rfl, Bt.no (by omega)⟩
      · rintro s w51 ⟨h51, b', rfl, Bt'⟩ _
        dsimp only
        refine z_i64 (by omega) ?_
        exact hag2 (y + 1, b') _ w51 ⟨rfl, by dsimp only; omega, Bt', h51⟩ (by dsimp only; omega)
    · have : y = ws.length := by omega
      subst this
      have eb := Bt.is hS RPf Sf hin
      subst eb
      have hif : f i < ws.length := RPf.lt hin
      obtain ⟨os1, os2⟩ := outL_suc (kk_swo T ws) (T := T) RPf Sf hin
      refine at_int tyI (by kernel_rfl) P48.sl rfl hif fun x61 h61 => ?_
      rw [os1] at h61
      injection h61 with h61
      subst h61
      have bb : 0 ≤ low T ws.sum (ws.getD (f i) 0) ∧ low T ws.sum (ws.getD (f i) 0) ≤ 1000000000000000 := by
        have bw := F.w (ws.getD (f i) 0) (mem_at (i := f i) (by rw [List.getD_eq_getElem?_getD, List.getElem?_eq_getElem hif]; rfl))
        exact (low_b F.t0 F.t bw.1 bw.2 F.s0).2.2
      refine z_i64 (by omega) ?_
      refine set_mk tyI P48 rfl hif rfl fun w62 P62 g62 _ => ?_
      rw [ints_set, os2] at P62
      refine set_mk tyI (own_apart R48 g62 hrd) rfl hif rfl fun w64 R64 g64 _ => ?_
      rw [ints_set, rest_suc] at R64
      refine z_i64 (by omega) ?_
      exact hag (i + 1) _ w64 ⟨by congr 1; omega, by omega, ((h45.trans h48).grownAt g62 hob).grownAt g64 hrb, own_apart P62 g64 hrd.symm, R64⟩ (by omega)
  · have : i = m := by omega
    subst this
    refine ⟨((some od, ws.length, ws.length), (0 : Int), ()), rfl, fin (h9.trans h45) ?_⟩
    rw [hm]; exact P45.sl
end Go.Proofs.Ytckgpiboelhefaa

/- The laws Apportions and Quotas. -/


namespace Go.Dist
open Go.Srt
theorem sum_set : ∀ {l : List Int} {i : Nat} {v u : Int}, l[i]? = some v → (l.set i u).sum = l.sum - v + u
  | [], i, v, u, h => by simp at h
  | a :: l, 0, v, u, h => by
    simp only [List.getElem?_cons_zero, Option.some.injEq] at h
    subst h
    simp only [List.set_cons_zero, List.sum_cons]; omega
  | a :: l, i + 1, v, u, h => by
    simp only [List.getElem?_cons_succ] at h
    have := sum_set (u := u) h
    simp only [List.set_cons_succ, List.sum_cons]; omega
theorem outL_sum {k : Nat → Nat → Prop} (K : SWO k) {T : Int} {ws : List Int} {f : Nat → Nat} (R : RP 0 ws.length id f) (s : Srtd k f 0 ws.length) : ∀ j, j ≤ ws.length → (outL T ws f j).sum = ((ws.map (low T ws.sum)).sum + j)
  | 0, _ => by
    have : outL T ws f 0 = ws.map (low T ws.sum) := by
      rw [mkI_eq rfl]
      exact mkI_congr fun x _ => by simp [inF]
    rw [this]; simp
  | j + 1, h => by
    obtain ⟨h1, h2⟩ := outL_suc K (T := T) R s (show j < ws.length by omega)
    rw [← h2, sum_set h1, outL_sum K R s j (by omega)]
    omega
def resL (T : Int) (ws : List Int) (f : Nat → Nat) (j : Nat) : List Int := mkI ws.length fun x => if inF f j x then 0 else rm T ws.sum (ws.getD x 0)
theorem resL_sum {T : Int} {ws : List Int} {f : Nat → Nat} (hS : 0 < ws.sum) (R : RP 0 ws.length id f) (s : Srtd (kk T ws) f 0 ws.length) : ∀ j : Nat, j ≤ ws.length → (ws.map (rm T ws.sum)).sum ≤ (resL T ws f j).sum + j * (ws.sum - 1)
  | 0, _ => by
    have : resL T ws f 0 = ws.map (rm T ws.sum) := by
      rw [mkI_eq rfl]
      exact mkI_congr fun x _ => by simp [inF]
    rw [this]; simp
  | j + 1, h => by
    have ih := resL_sum hS R s j (by omega)
    have hb := R.lt (show j < ws.length by omega)
    have h1 : (resL T ws f j)[f j]? = some (rm T ws.sum (ws.getD (f j) 0)) := by
      unfold resL
      rw [mkI_at hb, not_in (kk_swo T ws) s (by omega)]; simp
    have h2 : (resL T ws f j).set (f j) 0 = resL T ws f (j + 1) := by
      unfold resL
      rw [mkI_set]
      refine mkI_congr fun x _ => ?_
      rw [inF_suc]
      by_cases c : x = f j
      · subst c
        rw [if_pos rfl]; simp
      · rw [if_neg c]
        have : (f j == x) = false := by simpa using fun q : f j = x => c q.symm
        rw [this, Bool.or_false]
    have h3 : rm T ws.sum (ws.getD (f j) 0) < ws.sum := Int.emod_lt_of_pos _ hS
    rw [← h2, sum_set h1]
    have : ((j + 1 : Nat) : Int) * (ws.sum - 1) = j * (ws.sum - 1) + (ws.sum - 1) := by rw [Int.natCast_add, Int.add_mul]; omega
    omega
/-- who is given one more has a rest -/
theorem has_rest {T : Int} {ws : List Int} (F : Fine T ws) {f : Nat → Nat} (hS : 0 < ws.sum) (R : RP 0 ws.length id f) (s : Srtd (kk T ws) f 0 ws.length) {i : Nat} (hi : (i : Int) < left T ws ws.length) : rm T ws.sum (ws.getD (f i) 0) ≠ 0 := by
  intro h0
  have hl := F.left
  have nn : ∀ x, 0 ≤ rm T ws.sum (ws.getD x 0) := fun x => Int.emod_nonneg _ (by omega)
  have hin : i < ws.length := by omega
  have hz : (resL T ws f i).sum ≤ 0 := by
    have := sum_le (l := resL T ws f i) (c := 0) fun w hw => by
      obtain ⟨x, hx, rfl⟩ := List.mem_map.1 hw
      have hx := List.mem_range.1 hx
      cases hb : inF f i x with
      | true => exact Int.le_refl 0
      | false =>
        obtain ⟨j, _, hj, he⟩ := R.on' x (Nat.zero_le _) hx
        have he : f j = x := he
        rcases Nat.lt_trichotomy i j with q | q | q
        · have := s i j (Nat.zero_le _) q hj
          rw [he] at this
          show rm T ws.sum (ws.getD x 0) ≤ 0
          rcases this with z | ⟨z, _⟩
          · unfold kk at z; omega
          · unfold kk at z; omega
        · subst q
          rw [← he]
          show rm T ws.sum (ws.getD (f i) 0) ≤ 0
          omega
        · have := inF_iff.2 ⟨j, q, he⟩
          rw [hb] at this; cases this
    simpa using this
  have hs := resL_sum hS R s i (by omega)
  have hp := parts T ws.sum ws
  have e : left T ws ws.length = T - (ws.map (low T ws.sum)).sum := by unfold left; rw [List.take_length]
  generalize (ws.map (low T ws.sum)).sum = L at hp e
  have e2 : (T - L) * ws.sum = (ws.map (rm T ws.sum)).sum := by rw [Int.sub_mul, hp, Int.mul_comm L]; omega
  have h1 : ((i : Int) + 1) * ws.sum ≤ (T - L) * ws.sum := Int.mul_le_mul_of_nonneg_right (by omega) (by omega)
  rw [e2] at h1
  have h2 : ((i : Int) + 1) * ws.sum = i * ws.sum + ws.sum := by rw [Int.add_mul]; omega
  have h3 : (i : Int) * (ws.sum - 1) = i * ws.sum - i := by rw [Int.mul_sub]; omega
  omega
end Go.Dist
namespace Go.Proofs.Ytckgpiboelhefaa
open Go.RowKit Go.Q Go.V Go.Dist Go.Srt

theorem bounds_i64 {n : Int} (h : (Lit.int .i64 n).wf = true) : I64 n := by
  simp only [Lit.wf, Bool.and_eq_true, decide_eq_true_eq] at h
  exact ⟨h.1, h.2⟩
theorem argInts {w : World} {v : Value} (h : Go.Q.Arg Try.prog w 22 v) : ∃ x xs, v = hv x ∧ SlI w x xs ∧ ∀ n ∈ xs, I64 n := by
  obtain ⟨a, n, c, rfl, h⟩ := Go.V.Arg.slice Try.underlying22 h
  obtain ⟨a1, n1, c1, xs, q1, _, s1, b1⟩ := Go.V.Read.ints Try.underlying22 Try.underlying3 (by kernel_rfl) h
  cases q1
  exact ⟨(a, n, c), xs, rfl, s1, fun x hx => bounds_i64 (b1 x hx)⟩
theorem argU16 {w : World} {v : Value} (h : Go.Q.Arg Try.prog w 29 v) : ∃ x xs, v = hv x ∧ Sl w x.1 x.2.1 x.2.2 1 (ints .u16 xs) ∧ ∀ n ∈ xs, 0 ≤ n ∧ n ≤ 65535 := by
  obtain ⟨a, n, c, rfl, h⟩ := Go.V.Arg.slice Try.underlying29 h
  obtain ⟨a1, n1, c1, xs, q1, _, s1, b1⟩ := Go.V.Read.ints Try.underlying29 Try.underlying30 (by kernel_rfl) h
  cases q1
  exact ⟨(a, n, c), xs, rfl, s1, fun x hx => by have := b1 x hx; simp only [Lit.wf, Bool.and_eq_true, decide_eq_true_eq] at this; exact this⟩
theorem same16 (a b : Hdr) (xs ys : List Int) (w : World) (HA : SlI w a xs) (HB : SlI w b ys) (e : xs = ys) :
    call Try.prog 11 [.slice a.1 a.2.1 a.2.2, .slice b.1 b.2.1 b.2.2] (.one (.one .bool)) w (fun (x : Bool) w' => x = true ∧ bel w w') := by
  subst e
  refine call_of (S11_calls a.1 a.2.1 a.2.2 b.1 b.2.1 b.2.2 w _ ?_)
  unfold S11
  have ha := HA.int
  have hb := HB.int
  have hm := HA.le
  refine br_ne (fun e => absurd (by omega) e) (fun e => ?_)
  refine loop_up xs.length (fun i w' => bel w w') (bel.refl _) fun i w3 hi hw again hag _ => ?_
  refine br_dec (fun e => ?_) (fun e => ?_)
  · dsimp only at e
    refine drw_mk fun w4 h4 _ => ?_
    have h := hw.trans h4
    refine at_int tyI (by kernel_rfl) (HA.up h) rfl (by omega) fun x h1 => ?_
    refine at_int tyI (by kernel_rfl) (HB.up h) rfl (by omega) fun y h2 => ?_
    rw [h1] at h2
    injection h2 with h2
    refine br_ne (fun e => absurd h2 e) (fun e => ?_)
    refine z_i64 (by dsimp only; omega) ?_
    exact hag _ (by omega) h
  · exact ⟨true, rfl, rfl, hw⟩
theorem nilI (w : World) : SlI w (none, 0, 0) [] := (Own.nil w 0 3 1).sl
theorem distApp (T : Int) (hT : I64 T) (l : Hdr) (L : List Int) (w : World) (HL : SlI w l L) :
    Calls Try.prog 3 #[.int .i64 T, .slice l.1 l.2.1 l.2.2] w (fun e w' => e = .returned (.bool true) ∧ Below w.heap.size w w') := by
  refine Calls.mono (S3_calls T l.1 l.2.1 l.2.2 w (fun v w' => v = .bool true ∧ bel w w') ?_) (by rintro e w' ⟨v, rfl, rfl, hb⟩; exact ⟨rfl, hb⟩)
  unfold S3
  refine br_dec (fun _ => ⟨rfl, bel.refl _⟩) (fun _ => ?_)
  refine call_mono (appC T hT l L w HL) ?_
  rintro (x1 : Hdr × Int × Unit) w2 ⟨h2, A1, A2⟩
  cases he : apErr T L with
  | some e =>
    refine call_mono (refC T hT l L w2 (HL.up h2) id (fun q => by rw [he] at q; cases q) (fun q => by rw [he] at q; cases q)) ?_
    rintro (x3 : Hdr × Int × Unit) w4 ⟨h4, B1, B2⟩
    have a1 := A1 e he
    have b1 := B1 e he
    subst a1 b1
    refine call_mono (same16 (none, 0, 0) (none, 0, 0) [] [] w4 (nilI _) (nilI _) rfl) ?_
    rintro (x5 : Bool) w6 ⟨hx, h6⟩
    refine br_t hx ⟨?_, (h2.trans h4).trans h6⟩
    simp
  | none =>
    obtain ⟨e1, f, Rf, Sf, S1⟩ := A2 he
    refine call_mono (refC T hT l L w2 (HL.up h2) f (fun _ => Rf) (fun _ => Sf)) ?_
    rintro (x3 : Hdr × Int × Unit) w4 ⟨h4, B1, B2⟩
    obtain ⟨e3, S3⟩ := B2 he
    refine call_mono (same16 x1.1 x3.1 _ _ w4 (S1.up h4) S3 rfl) ?_
    rintro (x5 : Bool) w6 ⟨hx, h6⟩
    refine br_t hx ⟨?_, (h2.trans h4).trans h6⟩
    rw [e1, e3]; rfl
theorem ints_snoc (k : IntKind) (xs : List Int) (x : Int) : ints k (xs ++ [x]) = ints k xs ++ [.int k x] := by simp [ints]
theorem distQuo (T : Int) (hT : 0 ≤ T ∧ T ≤ 4294967295) (l : Hdr) (L : List Int) (w : World) (HL : Sl w l.1 l.2.1 l.2.2 1 (ints .u16 L)) (hb : ∀ n ∈ L, 0 ≤ n ∧ n ≤ 65535) :
    Calls Try.prog 4 #[.int .u32 T, .slice l.1 l.2.1 l.2.2] w (fun e w' => e = .returned (.bool true) ∧ Below w.heap.size w w') := by
  refine Calls.mono (S4_calls T l.1 l.2.1 l.2.2 w (fun v w' => v = .bool true ∧ bel w w') ?_) (by rintro e w' ⟨v, rfl, rfl, hb⟩; exact ⟨rfl, hb⟩)
  unfold S4
  obtain ⟨a, n, c⟩ := l
  have hl : L.length = n := HL.int
  subst hl
  dsimp only
  refine br_dec (fun _ => ⟨rfl, bel.refl _⟩) (fun h60 => ?_)
  refine z_i64 (by omega) ?_
  refine rdp_rem (by decide) ?_
  rw [Int.tmod_eq_emod_of_nonneg hT.1]
  obtain ⟨N, hN, hN0, hN1⟩ : ∃ N, N = T % 1000000001 ∧ 0 ≤ N ∧ N ≤ 1000000000 := ⟨_, rfl, by omega, by omega⟩
  rw [← hN]
  have tyU : TyS Try.prog 29 30 (.int .u16 0) 1 2 := ⟨by kernel_rfl, by kernel_rfl⟩
  have tk : ∀ i, 0 ≤ (L.take i).sum ∧ (L.take i).sum ≤ 60 * 65535 := fun i => by
    refine ⟨sum_nn fun x hx => (hb x (List.mem_of_mem_take hx)).1, ?_⟩
    have h2 := sum_le (l := L.take i) fun x hx => (hb x (List.mem_of_mem_take hx)).2
    have h3 : (L.take i).length ≤ L.length := by rw [List.length_take]; omega
    omega
  refine loop_gh (G := Nat × Hdr) (fun g s w' => s = ((L.take g.1).sum, g.2, (g.1 : Int), ()) ∧ g.1 ≤ L.length ∧ g.2.2.1 = g.1 ∧ bel w w' ∧ Own w' w.heap.size 3 1 g.2.1 g.2.2.1 g.2.2.2 (ints .i64 (L.take g.1))) (fun g => L.length - g.1) (0, (none, 0, 0))
    ⟨rfl, Nat.zero_le _, rfl, bel.refl _, Own.nil _ _ _ _⟩ ?_
  rintro ⟨i, o, on, oc⟩ s w5 ⟨rfl, hi, ei, h5, O5⟩ again hag _
  dsimp only at hi ei O5 ⊢
  subst ei
  have tb := tk on
  refine br_dec (fun e => ?_) (fun e => ?_)
  · have hin : on < L.length := by omega
    refine at_int tyU (by kernel_rfl) (HL.up h5) rfl hin fun x7 h7 => ?_
    have b7 := hb x7 (mem_at h7)
    refine z_i64 (by omega) ?_
    refine wr_app1 tyI O5 (by exact h5.size) rfl (by omega) (by omega) rfl rfl (by omega) (by unfold maxLen; omega) fun a' c' w12 O12 g12 _ _ => ?_
    have h12 : bel w w12 := h5.grown g12 fun k hk => (O5.lt k hk).1
    refine at_int tyU (by kernel_rfl) (HL.up h12) rfl hin fun x14 h14 => ?_
    rw [h7] at h14
    injection h14 with h14
    subst h14
    refine z_i64 (by omega) ?_
    refine z_i64 (by omega) ?_
    refine z_i64 (by omega) ?_
    refine hag (on + 1, (a', on + 1, c')) _ w12 ⟨by rw [sum_take_suc h7]; rfl, by dsimp only; omega, rfl, h12, ?_⟩ (by dsimp only; omega)
    dsimp only
    rw [List.take_add_one, h7]
    show Own _ _ _ _ _ _ _ (ints .i64 (L.take on ++ [x7]))
    rw [ints_snoc]; exact O12
  have hin : on = L.length := by omega
  subst hin
  clear hag
  rw [List.take_length] at O5 tb ⊢
  have S5 : SlI w5 (o, L.length, oc) L := O5.sl
  refine call_mono (appC N (by omega) (o, L.length, oc) L w5 S5) ?_
  rintro (x18 : Hdr × Int × Unit) w19 ⟨h19, A1, A2⟩
  have hne : ¬ (L.length > 1000 ∨ N > 1000000000 ∨ L.any big = true) := by
    rintro (q | q | q)
    · omega
    · omega
    · obtain ⟨x, hx, hn⟩ := List.any_eq_true.1 q
      have := hb x hx
      unfold big at hn
      simp at hn; omega
  have hng : ¬ L.any (fun w => decide (w < 0)) = true := by
    intro q
    obtain ⟨x, hx, hn⟩ := List.any_eq_true.1 q
    have := hb x hx
    simp at hn; omega
  refine br_eq (fun e0 => ?_) (fun e0 => ?_)
  · by_cases hz : N = 0
    · obtain ⟨e1, _⟩ := A2 (err4 hne hng (by omega))
      refine ⟨?_, h5.trans h19⟩
      rw [e1, hz]; rfl
    · have := A1 1 (err3 hne hng (.inr ⟨e0, by omega⟩))
      subst this
      refine ⟨?_, h5.trans h19⟩
      have : (N == 0) = false := by simpa using hz
      rw [this]; rfl
  have hok := err4 hne hng (T := N) (by omega)
  have hS : 0 < L.sum := by omega
  have F := fine_of hok
  obtain ⟨e1, f, Rf, Sf, S1⟩ := A2 hok
  have hLf := F.left
  obtain ⟨m, hm⟩ : ∃ m : Nat, left N L L.length = (m : Int) := ⟨(left N L L.length).toNat, by omega⟩
  rw [hm, Int.toNat_natCast] at S1
  obtain ⟨⟨ra, rn, rc⟩, re⟩ := x18
  dsimp only at e1 S1 ⊢
  have hrl : L.length = rn := by have := S1.int; rw [outL_len] at this; exact this
  subst hrl
  have hsum := outL_sum (kk_swo N L) (T := N) Rf Sf m (by omega)
  have hel : ∀ x ∈ outL N L f m, 0 ≤ x ∧ x ≤ 1000000000000001 := fun x hx => by
    unfold outL at hx
    obtain ⟨y, hy, rfl⟩ := List.mem_map.1 hx
    have hy := List.mem_range.1 hy
    have bw := F.w (L.getD y 0) (mem_at (i := y) (by rw [List.getD_eq_getElem?_getD, List.getElem?_eq_getElem hy]; rfl))
    have bb := (low_b F.t0 F.t bw.1 bw.2 F.s0).2.2
    split <;> omega
  have tk2 : ∀ i, 0 ≤ ((outL N L f m).take i).sum ∧ ((outL N L f m).take i).sum ≤ 60 * 1000000000000001 := fun i => by
    refine ⟨sum_nn fun x hx => (hel x (List.mem_of_mem_take hx)).1, ?_⟩
    have h2 := sum_le (l := (outL N L f m).take i) fun x hx => (hel x (List.mem_of_mem_take hx)).2
    have h3 : ((outL N L f m).take i).length ≤ L.length := by rw [List.length_take, outL_len]; omega
    omega
  refine loop_upA L.length (fun i s w' => s = ((outL N L f m).take i).sum ∧ bel w19 w') ⟨rfl, bel.refl _⟩ fun i s w22 hi ⟨es, h22⟩ again hag _ => ?_
  subst es
  have t2 := tk2 (i + 1)
  refine br_dec (fun e => ?_) (fun e => ?_)
  · dsimp only at e
    have hin : i < L.length := by omega
    have S22 := S1.up h22
    have W22 := (S5.up h19).up h22
    refine join_mk (fun s w' => s = (((outL N L f m).take (i + 1)).sum, ()) ∧ bel w19 w') (fun K23 hK => ?_) ?_
    · have hv : (outL N L f m)[i]? = some (low N L.sum (L.getD i 0) + if inF f m i then 1 else 0) := by unfold outL; exact mkI_at hin
      have hw : L[i]? = some (L.getD i 0) := by rw [List.getD_eq_getElem?_getD, List.getElem?_eq_getElem hin]; rfl
      have bw := F.w _ (mem_at hw)
      have bl := low_b F.t0 F.t bw.1 bw.2 F.s0
      have st := sum_take_suc hv
      refine at_int tyI (by kernel_rfl) S22 rfl hin fun x28 h28 => ?_
      rw [hv] at h28
      injection h28 with h28
      subst h28
      refine z_i64 (by dsimp only; omega) ?_
      refine at_int tyI (by kernel_rfl) W22 rfl hin fun x31 h31 => ?_
      rw [hw] at h31
      injection h31 with h31
      subst h31
      refine z_i64 (by omega) ?_
      refine rdp_quo e0 ?_
      rw [Int.tdiv_eq_ediv_of_nonneg bl.1, show N * L.getD i 0 / L.sum = low N L.sum (L.getD i 0) from rfl, IntWalk.i64_in _ (by omega)]
      refine at_int tyI (by kernel_rfl) S22 rfl hin fun x35 h35 => ?_
      rw [hv] at h35
      injection h35 with h35
      subst h35
      refine br_ne (fun q => ?_) (fun q => ?_)
      · have hif : inF f m i = true := by
          cases hc : inF f m i with
          | true => rfl
          | false => rw [hc] at q; simp at q
        refine at_int tyI (by kernel_rfl) S22 rfl hin fun x37 h37 => ?_
        rw [hv] at h37
        injection h37 with h37
        subst h37
        refine z_i64 (by omega) ?_
        refine br_ne (fun q2 => ?_) (fun q2 => ?_)
        · rw [hif] at q2; simp at q2
        refine at_int tyI (by kernel_rfl) W22 rfl hin fun x40 h40 => ?_
        rw [hw] at h40
        injection h40 with h40
        subst h40
        refine z_i64 (by omega) ?_
        refine rdp_rem e0 ?_
        rw [Int.tmod_eq_emod_of_nonneg bl.1]
        obtain ⟨j, hj, hfj⟩ := inF_iff.1 hif
        have hr := has_rest F hS Rf Sf (i := j) (by omega)
        rw [hfj] at hr
        refine br_eq (fun q3 => absurd q3 hr) (fun _ => ?_)
        exact hK _ _ ⟨by rw [st], h22⟩
      · exact hK _ _ ⟨by rw [st], h22⟩
    · rintro s w25 ⟨rfl, h25⟩ _
      dsimp only
      refine z_i64 (by omega) ?_
      exact hag _ w25 hin ⟨rfl, h25⟩
  · dsimp only at e
    have : i = L.length := by omega
    subst this
    have e2 : ((outL N L f m).take L.length).sum = N := by
      rw [List.take_of_length_le (by rw [outL_len]; omega), hsum]
      unfold left at hm
      rw [List.take_length] at hm; omega
    refine br_eq (fun _ => ?_) (fun q => absurd (by rw [e1]) q)
    refine br_eq (fun _ => ⟨?_, (h5.trans h19).trans h22⟩) (fun q => absurd e2 q)
    simp
end Go.Proofs.Ytckgpiboelhefaa

/- Bags: plain law. -/

namespace Go.Bag

/-- a total order, told by numbers -/
structure TO {α : Type} (c : α → α → Int) : Prop where
  eq : ∀ a b, c a b = 0 ↔ a = b
  sym : ∀ a b, c a b < 0 ↔ 0 < c b a
  tr : ∀ a b d, c a b < 0 → c b d < 0 → c a d < 0
section
variable {α : Type} {c : α → α → Int}
theorem TO.refl (H : TO c) (a : α) : c a a = 0 := (H.eq a a).2 rfl
theorem TO.le_tr (H : TO c) {a b d : α} (h1 : c a b ≤ 0) (h2 : c b d ≤ 0) : c a d ≤ 0 := by
  rcases Int.lt_or_eq_of_le h1 with q | q
  · rcases Int.lt_or_eq_of_le h2 with r | r
    · have := H.tr a b d q r; omega
    · rw [(H.eq b d).1 r] at h1; exact h1
  · rw [(H.eq a b).1 q]; exact h2
theorem TO.tot (H : TO c) (a b : α) : c a b ≤ 0 ∨ c b a ≤ 0 := by
  have := H.sym b a
  by_cases h : c a b ≤ 0
  · exact .inl h
  · exact .inr (by have := this.2 (by omega); omega)
theorem TO.anti (H : TO c) {a b : α} (h1 : c a b ≤ 0) (h2 : c b a ≤ 0) : a = b := by
  have := H.sym a b
  refine (H.eq a b).1 ?_
  rcases Int.lt_or_eq_of_le h1 with q | q
  · have := this.1 q; omega
  · exact q
theorem TO.lt_of (H : TO c) {a b : α} (h1 : c a b ≤ 0) (h2 : a ≠ b) : c a b < 0 := by
  rcases Int.lt_or_eq_of_le h1 with q | q
  · exact q
  · exact absurd ((H.eq a b).1 q) h2
theorem TO.lt_le (H : TO c) {a b d : α} (h1 : c a b < 0) (h2 : c b d ≤ 0) : c a d < 0 := by
  rcases Int.lt_or_eq_of_le h2 with r | r
  · exact H.tr _ _ _ h1 r
  · rw [← (H.eq b d).1 r]; exact h1
/-- lists, compared from left to right -/
def lexc (c : α → α → Int) : List α → List α → Int
  | [], [] => 0
  | [], _ :: _ => -1
  | _ :: _, [] => 1
  | a :: x, b :: y => if c a b = 0 then lexc c x y else c a b
theorem lexc_to (H : TO c) : TO (lexc c) := by
  refine ⟨fun x => ?_, fun x => ?_, fun x => ?_⟩
  · induction x with
    | nil => intro y; cases y <;> simp [lexc]
    | cons a x ih =>
      intro y
      cases y with
      | nil => simp [lexc]
      | cons b y =>
        unfold lexc
        split
        · rename_i h; rw [ih, (H.eq a b).1 h]; simp
        · rename_i h
          constructor
          · intro q; exact absurd q h
          · intro q; injection q with q1 q2; exact absurd ((H.eq a b).2 q1) h
  · induction x with
    | nil => intro y; cases y <;> simp [lexc]
    | cons a x ih =>
      intro y
      cases y with
      | nil => simp [lexc]
      | cons b y =>
        unfold lexc
        by_cases h : c a b = 0
        · have h2 : c b a = 0 := by rw [(H.eq a b).1 h]; exact H.refl b
          rw [if_pos h, if_pos h2]; exact ih y
        · have h2 : c b a ≠ 0 := fun q => h (by rw [(H.eq b a).1 q]; exact H.refl a)
          rw [if_neg h, if_neg h2]; exact H.sym a b
  · induction x with
    | nil =>
      intro y z h1 h2
      cases y with
      | nil => simp [lexc] at h1
      | cons b y => cases z with
        | nil => simp [lexc] at h2
        | cons d z => simp [lexc]
    | cons a x ih =>
      intro y z h1 h2
      cases y with
      | nil => simp [lexc] at h1
      | cons b y =>
        cases z with
        | nil => simp [lexc] at h2
        | cons d z =>
          unfold lexc at h1 h2 ⊢
          by_cases q1 : c a b = 0
          · rw [if_pos q1] at h1
            have e := (H.eq a b).1 q1
            subst e
            by_cases q2 : c a d = 0
            · rw [if_pos q2] at h2 ⊢; exact ih y z h1 h2
            · rw [if_neg q2] at h2 ⊢; exact h2
          · rw [if_neg q1] at h1
            by_cases q2 : c b d = 0
            · have e := (H.eq b d).1 q2
              subst e
              rw [if_neg q1]; exact h1
            · rw [if_neg q2] at h2
              have := H.tr a b d h1 h2
              rw [if_neg (by omega)]; exact this
/-- sorted -/
def sortR (c : α → α → Int) (A : List α) : List α := A.mergeSort fun a b => decide (c a b ≤ 0)
abbrev Asc (c : α → α → Int) (L : List α) : Prop := L.Pairwise fun a b => c a b ≤ 0
theorem sortR_perm (c : α → α → Int) (A : List α) : (sortR c A).Perm A := List.mergeSort_perm A _
theorem sortR_asc (H : TO c) (A : List α) : Asc c (sortR c A) := by
  have := List.pairwise_mergeSort (le := fun a b => decide (c a b ≤ 0)) (fun a b d h1 h2 => by simp at h1 h2 ⊢; exact H.le_tr h1 h2) (fun a b => by simp; exact H.tot a b) A
  exact this.imp fun h => by simpa using h
theorem asc_eq (H : TO c) {X Y : List α} (h1 : Asc c X) (h2 : Asc c Y) (h : X.Perm Y) : X = Y := List.Perm.eq_of_pairwise (fun _ _ _ _ q1 q2 => H.anti q1 q2) h1 h2 h
theorem sortR_eq (H : TO c) {A S : List α} (h1 : Asc c S) (h2 : S.Perm A) : S = sortR c A := asc_eq H h1 (sortR_asc H A) (h2.trans (sortR_perm c A).symm)
theorem sortR_congr (H : TO c) {A A' : List α} (h : A.Perm A') : sortR c A = sortR c A' := sortR_eq H (sortR_asc H A) ((sortR_perm c A).trans h)
/-- what a stable sort leaves -/
theorem perm_of_rp {n : Nat} {g : Nat → Nat} {k : Nat → Nat → Prop} (K : Srt.SWO k) (R : Srt.RP 0 n id g) (s : Srt.Srtd k g 0 n) : ((List.range n).map g).Perm (List.range n) := by
  refine (List.perm_ext_iff_of_nodup ?_ List.nodup_range).2 fun x => ?_
  · unfold List.Nodup
    rw [List.pairwise_map]
    refine List.Pairwise.imp_of_mem (fun {a b} ha hb hab he => ?_) List.pairwise_lt_range
    have hb := List.mem_range.1 hb
    have q := s a b (Nat.zero_le _) hab hb
    rw [he] at q
    exact Srt.Lt.asym K q q
  · constructor
    · intro h
      obtain ⟨y, hy, rfl⟩ := List.mem_map.1 h
      exact List.mem_range.2 (R.lt (List.mem_range.1 hy))
    · intro h
      obtain ⟨y, _, h2, h3⟩ := R.on' x (Nat.zero_le _) (List.mem_range.1 h)
      exact List.mem_map.2 ⟨y, List.mem_range.2 h2, h3⟩
theorem sort_of_rp (H : TO c) {A : List α} {d : α} {g : Nat → Nat} (R : Srt.RP 0 A.length id g) (K : Srt.SWO fun s t => c (A.getD s d) (A.getD t d) < 0) (s : Srt.Srtd (fun s t => c (A.getD s d) (A.getD t d) < 0) g 0 A.length) : (List.range A.length).map (fun x => A.getD (g x) d) = sortR c A := by
  refine sortR_eq H ?_ ?_
  · unfold Asc
    rw [List.pairwise_map]
    refine List.Pairwise.imp_of_mem (fun {a b} ha hb hab => ?_) List.pairwise_lt_range
    have q := s a b (Nat.zero_le _) hab (List.mem_range.1 hb)
    rcases q with q | ⟨q, _⟩
    · omega
    · have := H.sym (A.getD (g b) d) (A.getD (g a) d)
      by_cases z : c (A.getD (g a) d) (A.getD (g b) d) ≤ 0
      · exact z
      · exact absurd (this.2 (by omega)) q
  · have h1 := (perm_of_rp K R s).map fun x => A.getD x d
    rw [List.map_map] at h1
    refine h1.trans ?_
    have : (List.range A.length).map (fun x => A.getD x d) = A := by
      apply List.ext_getElem?
      intro i
      by_cases hi : i < A.length
      · simp [hi]
      · rw [List.getElem?_eq_none (by simp; omega), List.getElem?_eq_none (by omega)]
    rw [this]
theorem key_swo (H : TO c) (f : Nat → α) : Srt.SWO fun s t => c (f s) (f t) < 0 := by
  refine ⟨fun a => ?_, fun a b d => H.tr _ _ _, fun a b d h => ?_⟩
  · rw [H.refl]; omega
  · rcases Int.lt_or_le (c (f a) (f b)) 0 with q | q
    · exact .inl q
    · have := H.sym (f b) (f a)
      have h2 : c (f b) (f a) ≤ 0 := by
        rcases H.tot (f b) (f a) with z | z
        · exact z
        · have : c (f a) (f b) = 0 := by omega
          rw [(H.eq _ _).1 this, H.refl]; omega
      refine .inr ?_
      rcases Int.lt_or_eq_of_le h2 with z | z
      · exact H.tr _ _ _ z h
      · rw [(H.eq _ _).1 z]; exact h
/-! ### merging -/
def mergeR (c : α → α → Int) : List α → List α → List α
  | [], Y => Y
  | a :: X, [] => a :: X
  | a :: X, b :: Y => if c a b ≤ 0 then a :: mergeR c X (b :: Y) else b :: mergeR c (a :: X) Y
termination_by X Y => X.length + Y.length
theorem mergeR_nil (X : List α) : mergeR c X [] = X := by cases X <;> simp [mergeR]
theorem mergeR_perm (X Y : List α) : (mergeR c X Y).Perm (X ++ Y) := by
  induction X, Y using mergeR.induct c with
  | case1 Y => simp [mergeR]
  | case2 a X => simp [mergeR]
  | case3 a X b Y h ih => rw [mergeR, if_pos h]; exact ih.cons a
  | case4 a X b Y h ih =>
    rw [mergeR, if_neg h]
    exact (ih.cons b).trans List.perm_middle.symm
theorem mergeR_asc (H : TO c) (X Y : List α) : Asc c X → Asc c Y → Asc c (mergeR c X Y) := by
  induction X, Y using mergeR.induct c with
  | case1 Y => intro _ h; simpa [mergeR] using h
  | case2 a X => intro h _; simpa [mergeR] using h
  | case3 a X b Y h ih =>
    intro h1 h2
    rw [mergeR, if_pos h]
    unfold Asc at h1 h2 ⊢
    rw [List.pairwise_cons] at h1 ⊢
    refine ⟨fun x hx => ?_, ih h1.2 h2⟩
    rw [(mergeR_perm X (b :: Y)).mem_iff] at hx
    rcases List.mem_append.1 hx with q | q
    · exact h1.1 x q
    · rcases List.mem_cons.1 q with q | q
      · subst q; exact h
      · exact H.le_tr h ((List.pairwise_cons.1 h2).1 x q)
  | case4 a X b Y h ih =>
    intro h1 h2
    rw [mergeR, if_neg h]
    unfold Asc at h1 h2 ⊢
    rw [List.pairwise_cons] at h2 ⊢
    refine ⟨fun x hx => ?_, ih h1 h2.2⟩
    rw [(mergeR_perm (a :: X) Y).mem_iff] at hx
    have hb : c b a ≤ 0 := (H.tot a b).resolve_left h
    rcases List.mem_append.1 hx with q | q
    · rcases List.mem_cons.1 q with q | q
      · subst q; exact hb
      · exact H.le_tr hb ((List.pairwise_cons.1 h1).1 x q)
    · exact h2.1 x q
theorem mergeR_sort (H : TO c) (X Y : List α) : mergeR c (sortR c X) (sortR c Y) = sortR c (X ++ Y) :=
  sortR_eq H (mergeR_asc H _ _ (sortR_asc H X) (sortR_asc H Y)) ((mergeR_perm _ _).trans ((sortR_perm c X).append (sortR_perm c Y)))
end
end Go.Bag
